/- ops: the small functions: register, within, uses; the reference's reg, Three, Jump, sourced. -/
import Derived.Test.YtkocfgaajghggaaDoorOpsPlain
import Derived.Test.YtkocfgaajghggaaDoorOpsEnc
namespace Go.Proofs.YtkocfgaajghggaaDoor
open Go.RowKit
set_option linter.unusedVariables false

theorem ret_b {a b : Bool} (h : a = b) : Ending.returned (.bool a) = .returned (.bool b) := by rw [h]

theorem register_any (n : Int) (w : World) : Calls Tryd.prog 49 #[.int .i64 n] w fun e w' => e = .returned (.bool (regB n)) ∧ w = w' := by
  by_cases h0 : 0 ≤ n <;> by_cases h8 : n < 8
  all_goals
    go_enter Tryd.func49, Tryd.ntmps49
    go_wp2_with fail
    go_ret
    exact ⟨ret_b (by simp [regB, h0, h8]), rfl⟩
theorem within_any (n lo hi : Int) (w : World) : Calls Tryd.prog 50 #[.int .i64 n, .int .i64 lo, .int .i64 hi] w fun e w' => e = .returned (.bool (withinB n lo hi)) ∧ w = w' := by
  by_cases h0 : lo ≤ n <;> by_cases h8 : n ≤ hi
  all_goals
    go_enter Tryd.func50, Tryd.ntmps50
    go_wp2_with fail
    go_ret
    exact ⟨ret_b (by simp [withinB, h0, h8]), rfl⟩
theorem reg_any (n : Int) (w : World) : Calls Tryd.prog 44 #[.int .i64 n] w fun e w' => e = .returned (.bool (regB n)) ∧ w = w' := by
  by_cases h0 : 0 ≤ n <;> by_cases h8 : n ≤ 7
  all_goals
    go_enter Tryd.func44, Tryd.ntmps44
    go_wp2_with fail
    go_ret
    exact ⟨ret_b (by simp [regB, h0]; omega), rfl⟩
theorem three_any (n : Int) (w : World) : Calls Tryd.prog 46 #[.int .i64 n] w fun e w' => e = .returned (.bool (threeR n)) ∧ w = w' := by
  by_cases h0 : 1 ≤ n <;> by_cases h8 : n ≤ 10
  all_goals
    go_enter Tryd.func46, Tryd.ntmps46
    go_wp2_with fail
    go_ret
    exact ⟨ret_b (by simp [threeR, h0, h8]), rfl⟩
theorem jump_any (n : Int) (w : World) : Calls Tryd.prog 47 #[.int .i64 n] w fun e w' => e = .returned (.bool (jumpR n)) ∧ w = w' := by
  by_cases h0 : 16 ≤ n <;> by_cases h8 : n ≤ 19
  all_goals
    go_enter Tryd.func47, Tryd.ntmps47
    go_wp2_with fail
    go_ret
    exact ⟨ret_b (by simp [jumpR, h0, h8]), rfl⟩
/-- an instruction as a value -/
abbrev In.v (i : In) : Value := .agg #[.int .i64 i.op, .int .i64 i.d, .int .i64 i.a, .int .i64 i.b, .int .i64 i.imm]
theorem sourced_any (i : In) (w : World) : Calls Tryd.prog 45 #[i.v] w fun e w' => e = .returned (.bool (sourcedR i)) ∧ Only (fun _ => False) w w' := by
  obtain ⟨op, d, a, b, imm⟩ := i
  cases hb : regB b <;> by_cases h0 : imm = 0 <;> by_cases h8 : b = 8
  all_goals
    have hb' := Lib.hid hb
    clear hb
    have h8' : (b == 8) = decide (b = 8) := by by_cases h : b = 8 <;> simp [h]
    have h0' : (imm == 0) = decide (imm = 0) := by by_cases h : imm = 0 <;> simp [h]
    have h8'' := Lib.hid h8
    have h0'' := Lib.hid h0
    simp only [h8, decide_true, decide_false] at h8'
    simp only [h0, decide_true, decide_false] at h0'
    try clear h8
    try clear h0
    go_enter Tryd.func45, Tryd.ntmps45
    go_wp2_with fail
    refine (reg_any _ _).mono ?_
    rw [hb'.out]
    rintro e w1 ⟨rfl, rfl⟩
    go_wp2_with fail
    go_ret
    exact ⟨ret_b (by simp [sourcedR, hb'.out, h0''.out, h8''.out]), Only.alloc _ _ _⟩
end Go.Proofs.YtkocfgaajghggaaDoor
