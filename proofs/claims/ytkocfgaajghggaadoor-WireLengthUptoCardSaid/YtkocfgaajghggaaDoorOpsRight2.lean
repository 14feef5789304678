/- ops: right of whatever instruction; Right; Source. -/
import Derived.Test.YtkocfgaajghggaaDoorOpsRight1
namespace Go.Proofs.YtkocfgaajghggaaDoor
open Go.RowKit
set_option linter.unusedVariables false
set_option linter.unusedSimpArgs false

set_option maxRecDepth 100000 in
theorem right_out (i : In) (w : World) (h : i.op < 0 ∨ 23 ≤ i.op) :
    Calls Tryd.prog 38 #[i.v] w fun e w' => e = .returned (.bool (rightP i)) ∧ Only (fun _ => False) w w' := by
  obtain ⟨op, d, a, b, imm⟩ := i
  have hP : rightP ⟨op, d, a, b, imm⟩ = false := by
    unfold rightP formB
    rw [if_neg (by dsimp only at h ⊢; omega)]
  rw [hP]
  have hof := fun w => Lib.hid (of_out op w h)
  clear h hP
  go_enter Tryd.func38, Tryd.ntmps38
  go_wp2_with fail
  refine (hof _).out.mono ?_
  rintro e w1 ⟨rfl, ho⟩
  go_wp2_with fail
  go_ret
  exact ⟨rfl, ((Only.alloc _ _ _).tr ho).tr (Only.alloc _ _ _)⟩

theorem right_any (i : In) (w : World) (hF : Forms w) :
    Calls Tryd.prog 38 #[i.v] w fun e w' => e = .returned (.bool (rightP i)) ∧ Only (fun _ => False) w w' := by
  by_cases h : 0 ≤ i.op ∧ i.op < 23
  · obtain ⟨op, d, a, b, imm⟩ := i
    obtain ⟨k, rfl⟩ : ∃ k : Nat, op = (k : Int) := ⟨op.toNat, by dsimp only at h; omega⟩
    exact right_in k (by dsimp only at h; omega) d a b imm w hF
  · exact right_out i w (by omega)
end Go.Proofs.YtkocfgaajghggaaDoor
