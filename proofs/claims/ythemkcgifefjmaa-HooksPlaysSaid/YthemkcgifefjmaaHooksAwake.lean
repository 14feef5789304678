/- Layer 19: the law's own first look. -/
import Derived.Test.YthemkcgifefjmaaHooks5
namespace Go.Proofs.Ythemkcgifefjmaa
open Go.RowKit
set_option linter.unusedVariables false

set_option maxHeartbeats 1000000 in
theorem awake_any (w : World) : Calls Try.prog 7 #[] w fun e w' => e = .returned (.bool true) ∧ Below w.heap.size w w' := by
  have a1 : attachOf (List.replicate 3 (0, 0)) 0 1 70 = (1, 0, 1, [(0, 0), (1, 70), (0, 0)]) := by decide
  have a2 : swapOf [(0, 0), (1, 70), (0, 0)] 1 1 71 = (2, 0, 2, [(0, 0), (2, 71), (0, 0)]) := by decide
  have a3 : currentOf [(0, 0), (2, 71), (0, 0)] 1 = (2, 71, true) := by decide
  have B1 := Lib.hid a1
  have B2 := Lib.hid a2
  have B3 := Lib.hid a3
  clear a1 a2 a3
  go_enter Try.func7, Try.ntmps7
  go_wp2_with fail
  refine (new_any 3 _ (by decide) (by decide)).mono ?_
  rintro e w1 ⟨g, rfl, H1, O1⟩
  go_wp2_with fail
  refine (attach_any g 0 _ 1 70 _ _ H1 (by decide) (by decide) (by decide)).mono ?_
  rintro e w2 ⟨rfl, H2, O2⟩
  rw [B1.out] at H2 ⊢
  go_wp2_with fail
  refine (swap_any g _ _ 1 71 _ _ H2 (by decide) (by decide) (by decide)).mono ?_
  rintro e w3 ⟨rfl, H3, O3⟩
  try simp only [] at H3
  rw [B2.out] at H3 ⊢
  go_wp2_with fail
  refine (current_any g _ _ 1 _ _ H3 (by decide)).mono ?_
  rintro e w4 ⟨rfl, O4⟩
  try simp only []
  rw [B3.out]
  have hB := (O1.below (Nat.le_refl _) (fun _ h => h.elim)).trans ((O2.below O1.size (fun _ h => h)).trans ((O3.below (Nat.le_trans O1.size O2.size) (fun _ h => h)).trans (O4.below (Nat.le_trans O1.size (Nat.le_trans O2.size O3.size)) (fun _ h => h.elim))))
  clear H1 H2 H3 O1 O2 O3 O4
  go_wp2_with fail
  go_ret
  exact ⟨rfl, hB⟩
end Go.Proofs.Ythemkcgifefjmaa
