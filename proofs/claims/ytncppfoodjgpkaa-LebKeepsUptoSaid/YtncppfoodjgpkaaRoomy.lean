/- The law's roomy and still. -/
import Derived.Test.YtncppfoodjgpkaaLebBack
namespace Go.Proofs.Ytncppfoodjgpkaa
open Go.RowKit
set_option linter.unusedVariables false

theorem rd_same_world {α : Type} {E : Enc α} {w : World} {v : Value} {xs : List α} (h : Rd E w v xs) : ∃ a c, v = .slice a xs.length c ∧ xs.length ≤ c ∧ (a = none → c = 0) := by
  obtain ⟨_, a, c, he, h1, h2, _⟩ := h
  exact ⟨a, c, he, h1, h2⟩

set_option maxHeartbeats 1000000 in
theorem roomy_any (b : List Int) (v : Value) (w : World) (hv : Rd eU8 w v b) (hl : b.length ≤ 140737488355328) :
    Calls Try.prog 25 #[v] w fun e w' => ∃ ao cap, e = .returned (.tuple #[.slice ao (b.length + 3) cap, .slice ao b.length cap]) ∧ Ow eU8 w.heap.size 5 w' (.slice ao (b.length + 3) cap) (b ++ [71, 72, 73]) ∧ Below w.heap.size w w' := by
  obtain ⟨vo, vc, rfl, _, _⟩ := rd_same_world hv
  go_enter Try.func25, Try.ntmps25
  go_wp2_with (at_builtin; refine wl_append (E := eU8) rfl _ (.tmp 6) _ rfl w.heap.size 5 1 sliceU8 _ [] rfl (Ow.lit w _ _ _ _ _ (by simp [Enc.all]) rfl (by simp) (Nat.le_refl _)) _ b rfl (hv.alloc _) (by simp; omega) (by unfold maxLen; simp; omega) (by simp) ?_)
  intro v1 w1 hown1 hgrow1 _ _
  have hb1 : Below w.heap.size w w1 := ((Below.refl _ _).alloc (Nat.le_refl _) _).grown hgrow1 (by simp) (by simp [Value.ownBlock])
  have hsz1 := hb1.size
  clear hgrow1
  have hln : (b.length + [(71 : Int), 72, 73].length) = b.length + 3 := rfl
  go_wp2_with (at_builtin; refine wl_append (E := eU8) rfl _ (.tmp 8) _ rfl w.heap.size 5 1 sliceU8 _ b rfl (hown1.alloc _) _ [71, 72, 73] rfl (rd_lit w1 _ _ _ _ rfl rfl (by simp [maxLen])) (by rw [hln]; omega) (by unfold maxLen; rw [hln]; omega) (by simp; omega) ?_)
  intro v2 w2 hown2 hgrow2 _ _
  have hb2 := (hb1.alloc hsz1 (.cells #[.int .u8 71, .int .u8 72, .int .u8 73] 5)).grown hgrow2 (by simp; omega) (fun j hj => (hown1.lt hj).1)
  clear hgrow2 hown1
  obtain ⟨o2, c2, rfl⟩ := hown2.len
  have hl2 : (b ++ [(71 : Int), 72, 73]).length = b.length + 3 := by simp
  rw [hl2] at hown2
  rw [hl2]
  obtain ⟨hc2, _⟩ : b.length + 3 ≤ c2 ∧ True := by
    obtain ⟨_, a, c, he, h1, _⟩ := hown2.rd
    rw [hl2] at h1 he
    obtain ⟨rfl, rfl⟩ : o2 = a ∧ c2 = c := by simpa using he
    exact ⟨h1, trivial⟩
  have i1 : (0 : Int) ≤ (b.length : Int) := by omega
  have i2 : (b.length : Int) ≤ (c2 : Int) := by omega
  have i3 : b.length ≤ c2 := by omega
  go_wp2_with fail
  go_quiet (fail)
  go_wp2_with fail
  go_ret2
  exact ⟨_, _, rfl, hown2, below_drewN hb2 _⟩

set_option maxHeartbeats 2000000 in
theorem still_any (b : List Int) (ao : Option Addr) (cap : Nat) (v : Value) (w : World) (ha : Rd eU8 w (.slice ao (b.length + 3) cap) (b ++ [71, 72, 73])) (hv : Rd eU8 w v b) (hl : b.length ≤ 140737488355328) :
    Calls Try.prog 26 #[.slice ao (b.length + 3) cap, v] w fun e w' => e = .returned (.bool true) ∧ Below w.heap.size w w' := by
  obtain ⟨vo, vc, rfl, _, _⟩ := rd_same_world hv
  have hl2 : (b ++ [(71 : Int), 72, 73]).length = b.length + 3 := by simp
  have hcell : ∀ w', Below w.heap.size w w' → ∃ g off, ao = some ⟨g, off, none⟩ ∧ w'.cell? ⟨g, off + b.length, none⟩ = some (.int .u8 71) ∧ w'.cell? ⟨g, off + (b.length + 1), none⟩ = some (.int .u8 72) ∧ w'.cell? ⟨g, off + (b.length + 2), none⟩ = some (.int .u8 73) := by
    intro w' hb'
    obtain ⟨_, a', c', he, _, _, hc⟩ := ha.grow hb'
    obtain ⟨g, off, hao, h1⟩ := hc (by omega)
    have hsa : ao = a' := by simp at he; exact he.1
    have hat : ∀ j (hj : j < (b ++ [(71 : Int), 72, 73]).length), w'.cell? ⟨g, off + j, none⟩ = some (.int .u8 (b ++ [(71 : Int), 72, 73])[j]) := fun j hj => h1 j _ (eInt_at .u8 _ j hj)
    refine ⟨g, off, by rw [hsa, hao], ?_, ?_, ?_⟩
    · rw [hat b.length (by omega)]; simp
    · rw [hat (b.length + 1) (by omega)]; simp
    · rw [hat (b.length + 2) (by omega)]; simp
  obtain ⟨g, off, rfl, _, _, _⟩ := hcell w (Below.refl _ _)
  have hcell2 : ∀ w', Below w.heap.size w w' → w'.cell? ⟨g, off + b.length, none⟩ = some (.int .u8 71) ∧ w'.cell? ⟨g, off + (b.length + 1), none⟩ = some (.int .u8 72) ∧ w'.cell? ⟨g, off + (b.length + 2), none⟩ = some (.int .u8 73) := by
    intro w' hb'
    obtain ⟨g', off', he, h⟩ := hcell w' hb'
    simp at he
    obtain ⟨rfl, rfl⟩ := he
    exact h
  have HC := Lib.hid hcell2
  clear hcell hcell2
  obtain ⟨_, _, he, hc1, _⟩ := rd_same_world ha
  rw [hl2] at hc1 he
  obtain ⟨rfl, rfl⟩ : some (⟨g, off, none⟩ : Addr) = _ ∧ cap = _ := by simpa using he
  have HT : Hid (Rd eU8 w (.slice (some ⟨g, off, none⟩) b.length cap) b) := by
    have h := ha.taken b.length (by omega) cap (by omega) (by simp)
    rw [List.take_left] at h
    exact h
  have i2 : (b.length : Int) ≤ (cap : Int) := by omega
  have i3 : b.length ≤ cap := by omega
  have i4 : (((b.length + 3 : Nat) : Int) == ((b.length : Nat) : Int) + 3) = true := by simp
  clear he ha
  go_enter Try.func26, Try.ntmps26
  go_wp2_with fail
  refine (same_bel b _ _ w HT.out hv).mono ?_
  rintro e w1 ⟨rfl, hb1⟩
  obtain ⟨c1, c2, c3⟩ := HC.out w1 hb1
  go_wp2_with fail
  go_ret
  exact ⟨rfl, hb1⟩
end Go.Proofs.Ytncppfoodjgpkaa
