/- The laws' own first look: it answers true. -/
import Derived.Test.YtgegpejjnpjdlaaSplit
namespace Go.Proofs.Ytgegpejjnpjdlaa
open Go.RowKit
set_option linter.unusedVariables false

/-- how many lists Split answers -/
def nSh (n : Int) : Nat := if n < 1 ∨ 4 < n then 0 else n.toNat
theorem nSh_le (n : Int) : nSh n ≤ 4 := by unfold nSh; split <;> omega
theorem grid_none {α : Type} {E : Enc α} {base tyo tyi : Nat} {w : World} {L : Nat → List α} : Grid E base tyo tyi w (.slice none 0 0) 0 L :=
  ⟨fun _ => (none, 0, 0), Ow.nil _ _ _, fun s hs => by omega, fun s _ hs => by omega⟩
theorem split_any (n : Int) (xs : List Int) (v : Value) (w : World) (hv : Rd eU64 w v xs) (hr : xs.length * 8 ≤ 140737488355328) :
    Calls Try.prog 10 #[.int .i64 n, v] w fun e w' => ∃ v', e = .returned v' ∧ Grid eU64 w.heap.size 26 22 w' v' (nSh n) (fun s => mineS s n xs) ∧ Below w.heap.size w w' := by
  by_cases h : n < 1 ∨ 4 < n
  · refine (split_no n v w h).mono fun e w' ⟨he, hw⟩ => ⟨_, he, ?_, by rw [hw]; exact Below.refl _ _⟩
    rw [nSh, if_pos h]; exact grid_none
  · rw [nSh, if_neg h]
    obtain ⟨m, rfl⟩ : ∃ m : Nat, n = m := ⟨n.toNat, by omega⟩
    rw [Int.toNat_natCast]
    exact split_yes m xs v w hv hr (by omega) (by omega)
theorem refSplit_any (n : Int) (xs : List Int) (v : Value) (w : World) (hv : Rd eU64 w v xs) (hr : xs.length * 8 ≤ 140737488355328) (hxs : ∀ x ∈ xs, 0 ≤ x ∧ x ≤ 18446744073709551615) :
    Calls Try.prog 12 #[.int .i64 n, v] w fun e w' => ∃ v', e = .returned v' ∧ Grid eU64 w.heap.size 26 22 w' v' (nSh n) (fun s => mineS s n xs) ∧ Below w.heap.size w w' := by
  by_cases h : n < 1 ∨ 4 < n
  · refine (refSplit_no n v w h).mono fun e w' ⟨he, hw⟩ => ⟨_, he, ?_, by rw [hw]; exact Below.refl _ _⟩
    rw [nSh, if_pos h]; exact grid_none
  · rw [nSh, if_neg h]
    obtain ⟨m, rfl⟩ : ∃ m : Nat, n = m := ⟨n.toNat, by omega⟩
    rw [Int.toNat_natCast]
    exact refSplit_yes m xs v w hv hr hxs (by omega) (by omega)
theorem of_5 (w : World) : Calls Try.prog 8 #[.int .u64 5, .int .i64 4] w fun e w' => e = .returned (.int .i64 3) ∧ w = w' := of_any 5 4 w (by omega)
theorem of_1 (w : World) : Calls Try.prog 8 #[.int .u64 1, .int .i64 4] w fun e w' => e = .returned (.int .i64 1) ∧ w = w' := of_any 1 4 w (by omega)
theorem Grid.len {α : Type} {E : Enc α} {base tyo tyi : Nat} {w : World} {v : Value} {n : Nat} {L : Nat → List α} (h : Grid E base tyo tyi w v n L) : ∃ ao cap, v = .slice ao n cap := by
  obtain ⟨vs, ⟨_, ao, cap, h, _⟩, _⟩ := h
  exact ⟨ao, cap, by simpa using h⟩

set_option maxHeartbeats 400000 in
theorem awake_any (w : World) : Calls Try.prog 7 #[] w fun e w' => e = .returned (.bool true) ∧ Below w.heap.size w w' := by
  go_enter Try.func7, Try.ntmps7
  go_wp2_with fail
  refine (of_5 _).mono ?_
  rintro e w' ⟨rfl, rfl⟩
  go_wp2_with fail
  refine (of_1 _).mono ?_
  rintro e w' ⟨rfl, rfl⟩
  go_wp2_with fail
  refine (split_yes 2 [0, 1, 2, 3] _ _ (Rd.lit w _ _ _ _ _ _ (by simp [Enc.all, eInt]) rfl (by simp) (by decide)) (by simp) (by omega) (by omega)).mono ?_
  rintro e w1 ⟨v1, rfl, hg, hb⟩
  obtain ⟨ao, cap, rfl⟩ := hg.len
  have hb2 := (((Below.refl w.heap.size w).alloc (Nat.le_refl _) (.cells #[.int .u64 0, .int .u64 1, .int .u64 2, .int .u64 3] 22)).trans (hb.mono (by simp)))
  clear hg hb
  go_wp2
  go_ret
  exact ⟨rfl, hb2⟩
end Go.Proofs.Ytgegpejjnpjdlaa
