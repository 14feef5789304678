/- Layer 1: the laws' own first look. -/
import Derived.Test.YtncppfoodjgpkaaLebAll
import Derived.Test.YtncppfoodjgpkaaNumbers
import Derived.Test.YtncppfoodjgpkaaSame
import Derived.Test.YtncppfoodjgpkaaOpen
namespace Go.Proofs.Ytncppfoodjgpkaa
open Go.RowKit
set_option linter.unusedVariables false

theorem puts_127 : lebs [127, 128] = [127, 128, 1] := by decide +kernel
theorem get_128 : get1 [128, 1, 85] = (128, 2, 0) := by decide +kernel

/-- a literal list of numbers, handed to a call -/
theorem rd_lit {k : IntKind} (w : World) (cs : Array Value) (e : TypeId) (n : Nat) (xs : List Int) (hcs : cs.toList = xs.map (Value.int k)) (hn : n = xs.length) (hm : n ≤ maxLen) :
    Rd (eInt k) (w.alloc (.cells cs e)) (.slice (some ⟨w.heap.size, 0, none⟩) n n) xs :=
  Rd.lit w cs e _ n n xs (by rw [hcs]; simp [Enc.all, eInt, List.map_eq_flatMap]) hn (Nat.le_refl _) hm

set_option maxHeartbeats 1000000 in
theorem awake_any (w : World) : Calls Try.prog 10 #[] w fun e w' => e = .returned (.bool true) ∧ Below w.heap.size w w' := by
  go_enter Try.func10, Try.ntmps10
  go_wp2_with fail
  refine (puts_any [127, 128] _ _ (rd_lit w _ _ _ _ rfl rfl (by decide)) (by simp) (by simp)).mono ?_
  rintro e w1 ⟨v1, rfl, hown, hb1⟩
  rw [puts_127] at hown
  obtain ⟨ao, cap, rfl⟩ := hown.len
  have hb1' : Below w.heap.size w w1 := ((Below.refl w.heap.size w).alloc (Nat.le_refl _) _).trans (hb1.mono (by simp))
  obtain ⟨g, off, rfl, hg, hc0⟩ := hown.at_ 0 (by decide)
  obtain ⟨g', off', he, _, hc1⟩ := hown.at_ 1 (by decide)
  obtain ⟨rfl, rfl⟩ : g = g' ∧ off = off' := by simpa using he
  obtain ⟨g', off', he, _, hc2⟩ := hown.at_ 2 (by decide)
  obtain ⟨rfl, rfl⟩ : g = g' ∧ off = off' := by simpa using he
  have lg := (hown.lt (g := g) rfl).2
  have c0 : w1.cell? ⟨g, off, none⟩ = some (.int .u8 127) := (hc0 0 (by decide)).1
  have c1 : w1.cell? ⟨g, off + 1, none⟩ = some (.int .u8 128) := (hc1 0 (by decide)).1
  have c2 : w1.cell? ⟨g, off + 2, none⟩ = some (.int .u8 1) := (hc2 0 (by decide)).1
  have k0 := fun o => cell_later ((Below.refl w1.heap.size w1).alloc (Nat.le_refl _) o) c0
  have k1 := fun o => cell_later ((Below.refl w1.heap.size w1).alloc (Nat.le_refl _) o) c1
  have k2 := fun o => cell_later ((Below.refl w1.heap.size w1).alloc (Nat.le_refl _) o) c2
  have hsz := hb1'.size
  clear hown hc0 hc1 hc2 hb1 c0 c1 c2 he
  go_wp2_with fail
  refine (get_any [128, 1, 85] _ _ (rd_lit w1 _ _ _ _ rfl rfl (by decide)) (by simp)).mono ?_
  rintro e w2 ⟨rfl, rfl⟩
  rw [get_128]
  have hb2 := hb1'.alloc hsz (.cells #[.int .u8 128, .int .u8 1, .int .u8 85] 5)
  go_wp2_with fail
  go_ret
  exact ⟨rfl, hb2⟩
end Go.Proofs.Ytncppfoodjgpkaa
