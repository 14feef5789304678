/- The laws' own first look: it answers true. -/
import Derived.Test.YtgegpejjnpjdlaaSplit
namespace Go.Proofs.Ytgegpejjnpjdlaa
open Go.RowKit
set_option linter.unusedVariables false

theorem of_5 (w : World) : Calls Try.prog 8 #[.int .u64 5, .int .i64 4] w fun e w' => e = .returned (.int .i64 3) ∧ w = w' := of_any 5 4 w (by omega)
theorem of_1 (w : World) : Calls Try.prog 8 #[.int .u64 1, .int .i64 4] w fun e w' => e = .returned (.int .i64 1) ∧ w = w' := of_any 1 4 w (by omega)
theorem Grid.len {α : Type} {E : Enc α} {base tyo tyi : Nat} {w : World} {v : Value} {n : Nat} {L : Nat → List α} (h : Grid E base tyo tyi w v n L) : ∃ ao cap, v = .slice ao n cap := by
  obtain ⟨vs, ⟨_, ao, cap, h, _⟩, _⟩ := h
  exact ⟨ao, cap, by simpa using h⟩

set_option maxHeartbeats 400000 in
theorem awake_any (w : World) : Calls Try.prog 7 #[] w fun e w' => e = .returned (.bool true) ∧ Below w.heap.size w w' := by
  go_enter Try.func7, Try.ntmps7
  go_wp2_with fail
  refine (of_5 _).mono ?_
  rintro e w' ⟨rfl, rfl⟩
  go_wp2_with fail
  refine (of_1 _).mono ?_
  rintro e w' ⟨rfl, rfl⟩
  go_wp2_with fail
  refine (split_yes 2 [0, 1, 2, 3] _ _ (Rd.lit w _ _ _ _ _ _ (by simp [Enc.all, eInt]) rfl (by simp) (by decide)) (by simp) (by omega) (by omega)).mono ?_
  rintro e w1 ⟨v1, rfl, hg, hb⟩
  obtain ⟨ao, cap, rfl⟩ := hg.len
  have hb2 := (((Below.refl w.heap.size w).alloc (Nat.le_refl _) (.cells #[.int .u64 0, .int .u64 1, .int .u64 2, .int .u64 3] 22)).trans (hb.mono (by simp)))
  clear hg hb
  go_wp2
  go_ret
  exact ⟨rfl, hb2⟩
end Go.Proofs.Ytgegpejjnpjdlaa
