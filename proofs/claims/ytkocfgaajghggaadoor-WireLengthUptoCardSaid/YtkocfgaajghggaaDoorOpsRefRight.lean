/- ops: the reference's Right (printed by refright.py). -/
import Derived.Test.YtkocfgaajghggaaDoorOpsSmall
namespace Go.Proofs.YtkocfgaajghggaaDoor
open Go.RowKit
set_option linter.unusedVariables false
set_option linter.unusedSimpArgs false

theorem reg_b (n : Int) (b : Bool) (h : regB n = b) (w : World) : Calls Tryd.prog 44 #[.int .i64 n] w fun e w' => e = .returned (.bool b) ∧ w = w' := h ▸ reg_any n w
theorem three_b (n : Int) (b : Bool) (h : threeR n = b) (w : World) : Calls Tryd.prog 46 #[.int .i64 n] w fun e w' => e = .returned (.bool b) ∧ w = w' := h ▸ three_any n w
theorem jump_b (n : Int) (b : Bool) (h : jumpR n = b) (w : World) : Calls Tryd.prog 47 #[.int .i64 n] w fun e w' => e = .returned (.bool b) ∧ w = w' := h ▸ jump_any n w
def OtherOp (op : Int) : Prop := op < 0 ∨ 22 < op
theorem three_in (op : Int) (h : 1 ≤ op ∧ op ≤ 10) : threeR op = true := by simp [threeR]; omega
theorem three_j (op : Int) (h : 16 ≤ op ∧ op ≤ 19) : threeR op = false := by simp [threeR]; omega
theorem three_o (op : Int) (h : op < 0 ∨ 22 < op) : threeR op = false := by simp [threeR]; omega
theorem jump_in (op : Int) (h : 16 ≤ op ∧ op ≤ 19) : jumpR op = true := by simp [jumpR]; omega
theorem jump_o (op : Int) (h : op < 0 ∨ 22 < op) : jumpR op = false := by simp [jumpR]; omega
theorem right3 (i : In) (h : 1 ≤ i.op ∧ i.op ≤ 10) : rightR i = (regB i.d && regB i.a && sourcedR i) := by
  unfold rightR; rw [if_neg (by omega), if_pos (three_in _ h)]
theorem rightJ (i : In) (h : 16 ≤ i.op ∧ i.op ≤ 19) : rightR i = (decide (0 ≤ i.d) && decide (i.d ≤ 63) && regB i.a && sourcedR i) := by
  unfold rightR; rw [if_neg (by omega), if_neg (by rw [three_j _ h]; simp), if_neg (by omega), if_neg (by omega), if_neg (by omega), if_neg (by omega), if_pos (jump_in _ h)]
theorem rightO (i : In) (h : i.op < 0 ∨ 22 < i.op) : rightR i = false := by
  unfold rightR; rw [if_neg (by omega), if_neg (by rw [three_o _ h]; simp), if_neg (by omega), if_neg (by omega), if_neg (by omega), if_neg (by omega), if_neg (by rw [jump_o _ h]; simp), if_neg (by omega), if_neg (by omega), if_neg (by omega)]

set_option maxRecDepth 100000 in
set_option maxHeartbeats 4000000 in
theorem refRight_c0 (d a b imm : Int) (w : World) :
    Calls Tryd.prog 33 #[(In.mk 0 d a b imm).v] w fun e w' => e = .returned (.bool (rightR ⟨0, d, a, b, imm⟩)) ∧ Only (fun _ => False) w w' := by
  cases t1 : regB d
  · skip
    have HP := Lib.hid (show rightR ⟨0, d, a, b, imm⟩ = false from by simp [rightR, threeR, jumpR, t1] <;> omega)
    have Ht1 := Lib.hid t1
    clear t1
    go_enter Tryd.func33, Tryd.ntmps33
    go_wp2_with fail
    refine (reg_b d _ Ht1.out _).mono ?_
    rintro e w1 ⟨rfl, rfl⟩
    go_wp2_with fail
    go_ret
    exact ⟨ret_b HP.out.symm, Only.alloc _ _ _⟩
  · skip
    by_cases t2 : a = 0
    · skip
      have HP := Lib.hid (show rightR ⟨0, d, a, b, imm⟩ = sourcedR ⟨0, d, a, b, imm⟩ from by simp [rightR, threeR, jumpR, t1, t2] <;> omega)
      have Ht1 := Lib.hid t1
      clear t1
      subst t2
      go_enter Tryd.func33, Tryd.ntmps33
      go_wp2_with fail
      refine (reg_b d _ Ht1.out _).mono ?_
      rintro e w1 ⟨rfl, rfl⟩
      go_wp2_with fail
      refine (sourced_any ⟨0, d, 0, b, imm⟩ _).mono ?_
      rintro e w1 ⟨rfl, ho⟩
      go_wp2_with fail
      go_ret
      exact ⟨ret_b HP.out.symm, (Only.alloc _ _ _).tr ho⟩
    · skip
      have HP := Lib.hid (show rightR ⟨0, d, a, b, imm⟩ = false from by simp [rightR, threeR, jumpR, t1, t2] <;> omega)
      have Ht1 := Lib.hid t1
      clear t1
      have t2b : (a == 0) = false := by simpa using t2
      clear t2
      go_enter Tryd.func33, Tryd.ntmps33
      go_wp2_with fail
      refine (reg_b d _ Ht1.out _).mono ?_
      rintro e w1 ⟨rfl, rfl⟩
      go_wp2_with fail
      go_ret
      exact ⟨ret_b HP.out.symm, Only.alloc _ _ _⟩
set_option maxRecDepth 100000 in
set_option maxHeartbeats 4000000 in
theorem refRight_c11 (d a b imm : Int) (w : World) :
    Calls Tryd.prog 33 #[(In.mk 11 d a b imm).v] w fun e w' => e = .returned (.bool (rightR ⟨11, d, a, b, imm⟩)) ∧ Only (fun _ => False) w w' := by
  cases t1 : regB d
  · skip
    have HP := Lib.hid (show rightR ⟨11, d, a, b, imm⟩ = false from by simp [rightR, threeR, jumpR, t1] <;> omega)
    have Ht1 := Lib.hid t1
    clear t1
    go_enter Tryd.func33, Tryd.ntmps33
    go_wp2_with fail
    refine (reg_b d _ Ht1.out _).mono ?_
    rintro e w1 ⟨rfl, rfl⟩
    go_wp2_with fail
    go_ret
    exact ⟨ret_b HP.out.symm, Only.alloc _ _ _⟩
  · skip
    by_cases t2 : a = 0
    · skip
      have HP := Lib.hid (show rightR ⟨11, d, a, b, imm⟩ = sourcedR ⟨11, d, a, b, imm⟩ from by simp [rightR, threeR, jumpR, t1, t2] <;> omega)
      have Ht1 := Lib.hid t1
      clear t1
      subst t2
      go_enter Tryd.func33, Tryd.ntmps33
      go_wp2_with fail
      refine (reg_b d _ Ht1.out _).mono ?_
      rintro e w1 ⟨rfl, rfl⟩
      go_wp2_with fail
      refine (sourced_any ⟨11, d, 0, b, imm⟩ _).mono ?_
      rintro e w1 ⟨rfl, ho⟩
      go_wp2_with fail
      go_ret
      exact ⟨ret_b HP.out.symm, (Only.alloc _ _ _).tr ho⟩
    · skip
      have HP := Lib.hid (show rightR ⟨11, d, a, b, imm⟩ = false from by simp [rightR, threeR, jumpR, t1, t2] <;> omega)
      have Ht1 := Lib.hid t1
      clear t1
      have t2b : (a == 0) = false := by simpa using t2
      clear t2
      go_enter Tryd.func33, Tryd.ntmps33
      go_wp2_with fail
      refine (reg_b d _ Ht1.out _).mono ?_
      rintro e w1 ⟨rfl, rfl⟩
      go_wp2_with fail
      go_ret
      exact ⟨ret_b HP.out.symm, Only.alloc _ _ _⟩
set_option maxRecDepth 100000 in
set_option maxHeartbeats 4000000 in
theorem refRight_three (op d a b imm : Int) (h1 : 1 ≤ op ∧ op ≤ 10) (w : World) :
    Calls Tryd.prog 33 #[(In.mk op d a b imm).v] w fun e w' => e = .returned (.bool (rightR ⟨op, d, a, b, imm⟩)) ∧ Only (fun _ => False) w w' := by
  cases t1 : regB d
  · skip
    have HP := Lib.hid (show rightR ⟨op, d, a, b, imm⟩ = false from by rw [right3 _ h1]; simp [t1])
    have Ht1 := Lib.hid t1
    clear t1
    obtain ⟨e0, e11, e12, e13, e14, e15, e20, e21, e22⟩ : (op == 0) = false ∧ (op == 11) = false ∧ (op == 12) = false ∧ (op == 13) = false ∧ (op == 14) = false ∧ (op == 15) = false ∧ (op == 20) = false ∧ (op == 21) = false ∧ (op == 22) = false := by simp; omega
    have H1 := Lib.hid h1
    clear h1
    go_enter Tryd.func33, Tryd.ntmps33
    go_wp2_with fail
    refine (three_b _ true (three_in _ H1.out) _).mono ?_
    rintro e w1 ⟨rfl, rfl⟩
    go_wp2_with fail
    refine (reg_b d _ Ht1.out _).mono ?_
    rintro e w1 ⟨rfl, rfl⟩
    go_wp2_with fail
    go_ret
    exact ⟨ret_b HP.out.symm, Only.alloc _ _ _⟩
  · skip
    cases t2 : regB a
    · skip
      have HP := Lib.hid (show rightR ⟨op, d, a, b, imm⟩ = false from by rw [right3 _ h1]; simp [t1, t2])
      have Ht1 := Lib.hid t1
      clear t1
      have Ht2 := Lib.hid t2
      clear t2
      obtain ⟨e0, e11, e12, e13, e14, e15, e20, e21, e22⟩ : (op == 0) = false ∧ (op == 11) = false ∧ (op == 12) = false ∧ (op == 13) = false ∧ (op == 14) = false ∧ (op == 15) = false ∧ (op == 20) = false ∧ (op == 21) = false ∧ (op == 22) = false := by simp; omega
      have H1 := Lib.hid h1
      clear h1
      go_enter Tryd.func33, Tryd.ntmps33
      go_wp2_with fail
      refine (three_b _ true (three_in _ H1.out) _).mono ?_
      rintro e w1 ⟨rfl, rfl⟩
      go_wp2_with fail
      refine (reg_b d _ Ht1.out _).mono ?_
      rintro e w1 ⟨rfl, rfl⟩
      go_wp2_with fail
      refine (reg_b a _ Ht2.out _).mono ?_
      rintro e w1 ⟨rfl, rfl⟩
      go_wp2_with fail
      go_ret
      exact ⟨ret_b HP.out.symm, Only.alloc _ _ _⟩
    · skip
      have HP := Lib.hid (show rightR ⟨op, d, a, b, imm⟩ = sourcedR ⟨op, d, a, b, imm⟩ from by rw [right3 _ h1]; simp [t1, t2])
      have Ht1 := Lib.hid t1
      clear t1
      have Ht2 := Lib.hid t2
      clear t2
      obtain ⟨e0, e11, e12, e13, e14, e15, e20, e21, e22⟩ : (op == 0) = false ∧ (op == 11) = false ∧ (op == 12) = false ∧ (op == 13) = false ∧ (op == 14) = false ∧ (op == 15) = false ∧ (op == 20) = false ∧ (op == 21) = false ∧ (op == 22) = false := by simp; omega
      have H1 := Lib.hid h1
      clear h1
      go_enter Tryd.func33, Tryd.ntmps33
      go_wp2_with fail
      refine (three_b _ true (three_in _ H1.out) _).mono ?_
      rintro e w1 ⟨rfl, rfl⟩
      go_wp2_with fail
      refine (reg_b d _ Ht1.out _).mono ?_
      rintro e w1 ⟨rfl, rfl⟩
      go_wp2_with fail
      refine (reg_b a _ Ht2.out _).mono ?_
      rintro e w1 ⟨rfl, rfl⟩
      go_wp2_with fail
      refine (sourced_any ⟨op, d, a, b, imm⟩ _).mono ?_
      rintro e w1 ⟨rfl, ho⟩
      go_wp2_with fail
      go_ret
      exact ⟨ret_b HP.out.symm, (Only.alloc _ _ _).tr ho⟩
set_option maxRecDepth 100000 in
set_option maxHeartbeats 4000000 in
theorem refRight_c12 (d a b imm : Int) (w : World) :
    Calls Tryd.prog 33 #[(In.mk 12 d a b imm).v] w fun e w' => e = .returned (.bool (rightR ⟨12, d, a, b, imm⟩)) ∧ Only (fun _ => False) w w' := by
  by_cases t1 : d = 0
  · skip
    cases t2 : regB a
    · skip
      have HP := Lib.hid (show rightR ⟨12, d, a, b, imm⟩ = false from by simp [rightR, threeR, jumpR, t1, t2] <;> omega)
      subst t1
      have Ht2 := Lib.hid t2
      clear t2
      go_enter Tryd.func33, Tryd.ntmps33
      go_wp2_with fail
      refine (three_b _ false (by decide) _).mono ?_
      rintro e w1 ⟨rfl, rfl⟩
      go_wp2_with fail
      refine (reg_b a _ Ht2.out _).mono ?_
      rintro e w1 ⟨rfl, rfl⟩
      go_wp2_with fail
      go_ret
      exact ⟨ret_b HP.out.symm, Only.alloc _ _ _⟩
    · skip
      have HP := Lib.hid (show rightR ⟨12, d, a, b, imm⟩ = sourcedR ⟨12, d, a, b, imm⟩ from by simp [rightR, threeR, jumpR, t1, t2] <;> omega)
      subst t1
      have Ht2 := Lib.hid t2
      clear t2
      go_enter Tryd.func33, Tryd.ntmps33
      go_wp2_with fail
      refine (three_b _ false (by decide) _).mono ?_
      rintro e w1 ⟨rfl, rfl⟩
      go_wp2_with fail
      refine (reg_b a _ Ht2.out _).mono ?_
      rintro e w1 ⟨rfl, rfl⟩
      go_wp2_with fail
      refine (sourced_any ⟨12, 0, a, b, imm⟩ _).mono ?_
      rintro e w1 ⟨rfl, ho⟩
      go_wp2_with fail
      go_ret
      exact ⟨ret_b HP.out.symm, (Only.alloc _ _ _).tr ho⟩
  · skip
    have HP := Lib.hid (show rightR ⟨12, d, a, b, imm⟩ = false from by simp [rightR, threeR, jumpR, t1] <;> omega)
    have t1b : (d == 0) = false := by simpa using t1
    clear t1
    go_enter Tryd.func33, Tryd.ntmps33
    go_wp2_with fail
    refine (three_b _ false (by decide) _).mono ?_
    rintro e w1 ⟨rfl, rfl⟩
    go_wp2_with fail
    go_ret
    exact ⟨ret_b HP.out.symm, Only.alloc _ _ _⟩
set_option maxRecDepth 100000 in
set_option maxHeartbeats 4000000 in
theorem refRight_c13 (d a b imm : Int) (w : World) :
    Calls Tryd.prog 33 #[(In.mk 13 d a b imm).v] w fun e w' => e = .returned (.bool (rightR ⟨13, d, a, b, imm⟩)) ∧ Only (fun _ => False) w w' := by
  cases t1 : regB d
  · skip
    have HP := Lib.hid (show rightR ⟨13, d, a, b, imm⟩ = false from by simp [rightR, threeR, jumpR, t1] <;> omega)
    have Ht1 := Lib.hid t1
    clear t1
    go_enter Tryd.func33, Tryd.ntmps33
    go_wp2_with fail
    refine (three_b _ false (by decide) _).mono ?_
    rintro e w1 ⟨rfl, rfl⟩
    go_wp2_with fail
    refine (reg_b d _ Ht1.out _).mono ?_
    rintro e w1 ⟨rfl, rfl⟩
    go_wp2_with fail
    go_ret
    exact ⟨ret_b HP.out.symm, Only.alloc _ _ _⟩
  · skip
    by_cases t2 : a = 0
    · skip
      by_cases t3 : b = 0
      · skip
        by_cases t4 : imm = 0
        · subst t4
          have HP := Lib.hid (show rightR ⟨13, d, a, b, 0⟩ = true from by simp [rightR, threeR, jumpR, t1, t2, t3] <;> omega)
          have Ht1 := Lib.hid t1
          clear t1
          subst t2
          subst t3
          go_enter Tryd.func33, Tryd.ntmps33
          go_wp2_with fail
          refine (three_b _ false (by decide) _).mono ?_
          rintro e w1 ⟨rfl, rfl⟩
          go_wp2_with fail
          refine (reg_b d _ Ht1.out _).mono ?_
          rintro e w1 ⟨rfl, rfl⟩
          go_wp2_with fail
          go_ret
          exact ⟨ret_b HP.out.symm, Only.alloc _ _ _⟩
        · by_cases t4z : imm = 1
          · subst t4z
            have HP := Lib.hid (show rightR ⟨13, d, a, b, 1⟩ = true from by simp [rightR, threeR, jumpR, t1, t2, t3] <;> omega)
            have Ht1 := Lib.hid t1
            clear t1
            subst t2
            subst t3
            go_enter Tryd.func33, Tryd.ntmps33
            go_wp2_with fail
            refine (three_b _ false (by decide) _).mono ?_
            rintro e w1 ⟨rfl, rfl⟩
            go_wp2_with fail
            refine (reg_b d _ Ht1.out _).mono ?_
            rintro e w1 ⟨rfl, rfl⟩
            go_wp2_with fail
            go_ret
            exact ⟨ret_b HP.out.symm, Only.alloc _ _ _⟩
          · have t4w : imm ≠ 0 ∧ imm ≠ 1 := ⟨t4, t4z⟩
            clear t4 t4z
            have HP := Lib.hid (show rightR ⟨13, d, a, b, imm⟩ = false from by simp [rightR, threeR, jumpR, t1, t2, t3, t4w] <;> omega)
            have Ht1 := Lib.hid t1
            clear t1
            subst t2
            subst t3
            have t4wx : (imm == 0) = false := by simpa using t4w.1
            have t4wy : (imm == 1) = false := by simpa using t4w.2
            clear t4w
            go_enter Tryd.func33, Tryd.ntmps33
            go_wp2_with fail
            refine (three_b _ false (by decide) _).mono ?_
            rintro e w1 ⟨rfl, rfl⟩
            go_wp2_with fail
            refine (reg_b d _ Ht1.out _).mono ?_
            rintro e w1 ⟨rfl, rfl⟩
            go_wp2_with fail
            go_ret
            exact ⟨ret_b HP.out.symm, Only.alloc _ _ _⟩
      · skip
        have HP := Lib.hid (show rightR ⟨13, d, a, b, imm⟩ = false from by simp [rightR, threeR, jumpR, t1, t2, t3] <;> omega)
        have Ht1 := Lib.hid t1
        clear t1
        subst t2
        have t3b : (b == 0) = false := by simpa using t3
        clear t3
        go_enter Tryd.func33, Tryd.ntmps33
        go_wp2_with fail
        refine (three_b _ false (by decide) _).mono ?_
        rintro e w1 ⟨rfl, rfl⟩
        go_wp2_with fail
        refine (reg_b d _ Ht1.out _).mono ?_
        rintro e w1 ⟨rfl, rfl⟩
        go_wp2_with fail
        go_ret
        exact ⟨ret_b HP.out.symm, Only.alloc _ _ _⟩
    · skip
      have HP := Lib.hid (show rightR ⟨13, d, a, b, imm⟩ = false from by simp [rightR, threeR, jumpR, t1, t2] <;> omega)
      have Ht1 := Lib.hid t1
      clear t1
      have t2b : (a == 0) = false := by simpa using t2
      clear t2
      go_enter Tryd.func33, Tryd.ntmps33
      go_wp2_with fail
      refine (three_b _ false (by decide) _).mono ?_
      rintro e w1 ⟨rfl, rfl⟩
      go_wp2_with fail
      refine (reg_b d _ Ht1.out _).mono ?_
      rintro e w1 ⟨rfl, rfl⟩
      go_wp2_with fail
      go_ret
      exact ⟨ret_b HP.out.symm, Only.alloc _ _ _⟩
set_option maxRecDepth 100000 in
set_option maxHeartbeats 4000000 in
theorem refRight_c14 (d a b imm : Int) (w : World) :
    Calls Tryd.prog 33 #[(In.mk 14 d a b imm).v] w fun e w' => e = .returned (.bool (rightR ⟨14, d, a, b, imm⟩)) ∧ Only (fun _ => False) w w' := by
  cases t1 : regB d
  · skip
    have HP := Lib.hid (show rightR ⟨14, d, a, b, imm⟩ = false from by simp [rightR, threeR, jumpR, t1] <;> omega)
    have Ht1 := Lib.hid t1
    clear t1
    go_enter Tryd.func33, Tryd.ntmps33
    go_wp2_with fail
    refine (three_b _ false (by decide) _).mono ?_
    rintro e w1 ⟨rfl, rfl⟩
    go_wp2_with fail
    refine (reg_b d _ Ht1.out _).mono ?_
    rintro e w1 ⟨rfl, rfl⟩
    go_wp2_with fail
    go_ret
    exact ⟨ret_b HP.out.symm, Only.alloc _ _ _⟩
  · skip
    by_cases t2 : a = 0
    · skip
      by_cases t3 : b = 0
      · skip
        by_cases t4 : 0 ≤ imm
        · skip
          by_cases t5 : imm ≤ 3
          · skip
            have HP := Lib.hid (show rightR ⟨14, d, a, b, imm⟩ = true from by simp [rightR, threeR, jumpR, t1, t2, t3, t4, t5] <;> omega)
            have Ht1 := Lib.hid t1
            clear t1
            subst t2
            subst t3
            go_enter Tryd.func33, Tryd.ntmps33
            go_wp2_with fail
            refine (three_b _ false (by decide) _).mono ?_
            rintro e w1 ⟨rfl, rfl⟩
            go_wp2_with fail
            refine (reg_b d _ Ht1.out _).mono ?_
            rintro e w1 ⟨rfl, rfl⟩
            go_wp2_with fail
            go_ret
            exact ⟨ret_b HP.out.symm, Only.alloc _ _ _⟩
          · skip
            have HP := Lib.hid (show rightR ⟨14, d, a, b, imm⟩ = false from by simp [rightR, threeR, jumpR, t1, t2, t3, t4, t5] <;> omega)
            have Ht1 := Lib.hid t1
            clear t1
            subst t2
            subst t3
            go_enter Tryd.func33, Tryd.ntmps33
            go_wp2_with fail
            refine (three_b _ false (by decide) _).mono ?_
            rintro e w1 ⟨rfl, rfl⟩
            go_wp2_with fail
            refine (reg_b d _ Ht1.out _).mono ?_
            rintro e w1 ⟨rfl, rfl⟩
            go_wp2_with fail
            go_ret
            exact ⟨ret_b (by rw [HP.out]; try first | rfl | simpa using t5), Only.alloc _ _ _⟩
        · skip
          have HP := Lib.hid (show rightR ⟨14, d, a, b, imm⟩ = false from by simp [rightR, threeR, jumpR, t1, t2, t3, t4] <;> omega)
          have Ht1 := Lib.hid t1
          clear t1
          subst t2
          subst t3
          go_enter Tryd.func33, Tryd.ntmps33
          go_wp2_with fail
          refine (three_b _ false (by decide) _).mono ?_
          rintro e w1 ⟨rfl, rfl⟩
          go_wp2_with fail
          refine (reg_b d _ Ht1.out _).mono ?_
          rintro e w1 ⟨rfl, rfl⟩
          go_wp2_with fail
          go_ret
          exact ⟨ret_b HP.out.symm, Only.alloc _ _ _⟩
      · skip
        have HP := Lib.hid (show rightR ⟨14, d, a, b, imm⟩ = false from by simp [rightR, threeR, jumpR, t1, t2, t3] <;> omega)
        have Ht1 := Lib.hid t1
        clear t1
        subst t2
        have t3b : (b == 0) = false := by simpa using t3
        clear t3
        go_enter Tryd.func33, Tryd.ntmps33
        go_wp2_with fail
        refine (three_b _ false (by decide) _).mono ?_
        rintro e w1 ⟨rfl, rfl⟩
        go_wp2_with fail
        refine (reg_b d _ Ht1.out _).mono ?_
        rintro e w1 ⟨rfl, rfl⟩
        go_wp2_with fail
        go_ret
        exact ⟨ret_b HP.out.symm, Only.alloc _ _ _⟩
    · skip
      have HP := Lib.hid (show rightR ⟨14, d, a, b, imm⟩ = false from by simp [rightR, threeR, jumpR, t1, t2] <;> omega)
      have Ht1 := Lib.hid t1
      clear t1
      have t2b : (a == 0) = false := by simpa using t2
      clear t2
      go_enter Tryd.func33, Tryd.ntmps33
      go_wp2_with fail
      refine (three_b _ false (by decide) _).mono ?_
      rintro e w1 ⟨rfl, rfl⟩
      go_wp2_with fail
      refine (reg_b d _ Ht1.out _).mono ?_
      rintro e w1 ⟨rfl, rfl⟩
      go_wp2_with fail
      go_ret
      exact ⟨ret_b HP.out.symm, Only.alloc _ _ _⟩
set_option maxRecDepth 100000 in
set_option maxHeartbeats 4000000 in
theorem refRight_c15 (d a b imm : Int) (w : World) :
    Calls Tryd.prog 33 #[(In.mk 15 d a b imm).v] w fun e w' => e = .returned (.bool (rightR ⟨15, d, a, b, imm⟩)) ∧ Only (fun _ => False) w w' := by
  by_cases t1 : 0 ≤ d
  · skip
    by_cases t2 : d ≤ 63
    · skip
      by_cases t3 : a = 0
      · skip
        by_cases t4 : b = 0
        · skip
          by_cases t5 : imm = 0
          · skip
            have HP := Lib.hid (show rightR ⟨15, d, a, b, imm⟩ = true from by simp [rightR, threeR, jumpR, t1, t2, t3, t4, t5] <;> omega)
            subst t3
            subst t4
            subst t5
            go_enter Tryd.func33, Tryd.ntmps33
            go_wp2_with fail
            refine (three_b _ false (by decide) _).mono ?_
            rintro e w1 ⟨rfl, rfl⟩
            go_wp2_with fail
            go_ret
            exact ⟨ret_b HP.out.symm, Only.alloc _ _ _⟩
          · skip
            have HP := Lib.hid (show rightR ⟨15, d, a, b, imm⟩ = false from by simp [rightR, threeR, jumpR, t1, t2, t3, t4, t5] <;> omega)
            subst t3
            subst t4
            have t5b : (imm == 0) = false := by simpa using t5
            clear t5
            go_enter Tryd.func33, Tryd.ntmps33
            go_wp2_with fail
            refine (three_b _ false (by decide) _).mono ?_
            rintro e w1 ⟨rfl, rfl⟩
            go_wp2_with fail
            go_ret
            exact ⟨ret_b HP.out.symm, Only.alloc _ _ _⟩
        · skip
          have HP := Lib.hid (show rightR ⟨15, d, a, b, imm⟩ = false from by simp [rightR, threeR, jumpR, t1, t2, t3, t4] <;> omega)
          subst t3
          have t4b : (b == 0) = false := by simpa using t4
          clear t4
          go_enter Tryd.func33, Tryd.ntmps33
          go_wp2_with fail
          refine (three_b _ false (by decide) _).mono ?_
          rintro e w1 ⟨rfl, rfl⟩
          go_wp2_with fail
          go_ret
          exact ⟨ret_b HP.out.symm, Only.alloc _ _ _⟩
      · skip
        have HP := Lib.hid (show rightR ⟨15, d, a, b, imm⟩ = false from by simp [rightR, threeR, jumpR, t1, t2, t3] <;> omega)
        have t3b : (a == 0) = false := by simpa using t3
        clear t3
        go_enter Tryd.func33, Tryd.ntmps33
        go_wp2_with fail
        refine (three_b _ false (by decide) _).mono ?_
        rintro e w1 ⟨rfl, rfl⟩
        go_wp2_with fail
        go_ret
        exact ⟨ret_b HP.out.symm, Only.alloc _ _ _⟩
    · skip
      have HP := Lib.hid (show rightR ⟨15, d, a, b, imm⟩ = false from by simp [rightR, threeR, jumpR, t1, t2] <;> omega)
      go_enter Tryd.func33, Tryd.ntmps33
      go_wp2_with fail
      refine (three_b _ false (by decide) _).mono ?_
      rintro e w1 ⟨rfl, rfl⟩
      go_wp2_with fail
      go_ret
      exact ⟨ret_b (by rw [HP.out]; try first | rfl | simpa using t2), Only.alloc _ _ _⟩
  · skip
    have HP := Lib.hid (show rightR ⟨15, d, a, b, imm⟩ = false from by simp [rightR, threeR, jumpR, t1] <;> omega)
    go_enter Tryd.func33, Tryd.ntmps33
    go_wp2_with fail
    refine (three_b _ false (by decide) _).mono ?_
    rintro e w1 ⟨rfl, rfl⟩
    go_wp2_with fail
    go_ret
    exact ⟨ret_b HP.out.symm, Only.alloc _ _ _⟩
set_option maxRecDepth 100000 in
set_option maxHeartbeats 4000000 in
theorem refRight_jump (op d a b imm : Int) (h1 : 16 ≤ op ∧ op ≤ 19) (w : World) :
    Calls Tryd.prog 33 #[(In.mk op d a b imm).v] w fun e w' => e = .returned (.bool (rightR ⟨op, d, a, b, imm⟩)) ∧ Only (fun _ => False) w w' := by
  by_cases t1 : 0 ≤ d
  · skip
    by_cases t2 : d ≤ 63
    · skip
      cases t3 : regB a
      · skip
        have HP := Lib.hid (show rightR ⟨op, d, a, b, imm⟩ = false from by rw [rightJ _ h1]; simp [t1, t2, t3])
        have Ht3 := Lib.hid t3
        clear t3
        obtain ⟨e0, e11, e12, e13, e14, e15, e20, e21, e22⟩ : (op == 0) = false ∧ (op == 11) = false ∧ (op == 12) = false ∧ (op == 13) = false ∧ (op == 14) = false ∧ (op == 15) = false ∧ (op == 20) = false ∧ (op == 21) = false ∧ (op == 22) = false := by simp; omega
        have H1 := Lib.hid h1
        clear h1
        go_enter Tryd.func33, Tryd.ntmps33
        go_wp2_with fail
        refine (three_b _ false (three_j _ H1.out) _).mono ?_
        rintro e w1 ⟨rfl, rfl⟩
        go_wp2_with fail
        refine (jump_b _ true (jump_in _ H1.out) _).mono ?_
        rintro e w1 ⟨rfl, rfl⟩
        go_wp2_with fail
        refine (reg_b a _ Ht3.out _).mono ?_
        rintro e w1 ⟨rfl, rfl⟩
        go_wp2_with fail
        go_ret
        exact ⟨ret_b HP.out.symm, Only.alloc _ _ _⟩
      · skip
        have HP := Lib.hid (show rightR ⟨op, d, a, b, imm⟩ = sourcedR ⟨op, d, a, b, imm⟩ from by rw [rightJ _ h1]; simp [t1, t2, t3])
        have Ht3 := Lib.hid t3
        clear t3
        obtain ⟨e0, e11, e12, e13, e14, e15, e20, e21, e22⟩ : (op == 0) = false ∧ (op == 11) = false ∧ (op == 12) = false ∧ (op == 13) = false ∧ (op == 14) = false ∧ (op == 15) = false ∧ (op == 20) = false ∧ (op == 21) = false ∧ (op == 22) = false := by simp; omega
        have H1 := Lib.hid h1
        clear h1
        go_enter Tryd.func33, Tryd.ntmps33
        go_wp2_with fail
        refine (three_b _ false (three_j _ H1.out) _).mono ?_
        rintro e w1 ⟨rfl, rfl⟩
        go_wp2_with fail
        refine (jump_b _ true (jump_in _ H1.out) _).mono ?_
        rintro e w1 ⟨rfl, rfl⟩
        go_wp2_with fail
        refine (reg_b a _ Ht3.out _).mono ?_
        rintro e w1 ⟨rfl, rfl⟩
        go_wp2_with fail
        refine (sourced_any ⟨op, d, a, b, imm⟩ _).mono ?_
        rintro e w1 ⟨rfl, ho⟩
        go_wp2_with fail
        go_ret
        exact ⟨ret_b HP.out.symm, (Only.alloc _ _ _).tr ho⟩
    · skip
      have HP := Lib.hid (show rightR ⟨op, d, a, b, imm⟩ = false from by rw [rightJ _ h1]; simp [t1, t2])
      obtain ⟨e0, e11, e12, e13, e14, e15, e20, e21, e22⟩ : (op == 0) = false ∧ (op == 11) = false ∧ (op == 12) = false ∧ (op == 13) = false ∧ (op == 14) = false ∧ (op == 15) = false ∧ (op == 20) = false ∧ (op == 21) = false ∧ (op == 22) = false := by simp; omega
      have H1 := Lib.hid h1
      clear h1
      go_enter Tryd.func33, Tryd.ntmps33
      go_wp2_with fail
      refine (three_b _ false (three_j _ H1.out) _).mono ?_
      rintro e w1 ⟨rfl, rfl⟩
      go_wp2_with fail
      refine (jump_b _ true (jump_in _ H1.out) _).mono ?_
      rintro e w1 ⟨rfl, rfl⟩
      go_wp2_with fail
      go_ret
      exact ⟨ret_b (by rw [HP.out]; try first | rfl | simpa using t2), Only.alloc _ _ _⟩
  · skip
    have HP := Lib.hid (show rightR ⟨op, d, a, b, imm⟩ = false from by rw [rightJ _ h1]; simp [t1])
    obtain ⟨e0, e11, e12, e13, e14, e15, e20, e21, e22⟩ : (op == 0) = false ∧ (op == 11) = false ∧ (op == 12) = false ∧ (op == 13) = false ∧ (op == 14) = false ∧ (op == 15) = false ∧ (op == 20) = false ∧ (op == 21) = false ∧ (op == 22) = false := by simp; omega
    have H1 := Lib.hid h1
    clear h1
    go_enter Tryd.func33, Tryd.ntmps33
    go_wp2_with fail
    refine (three_b _ false (three_j _ H1.out) _).mono ?_
    rintro e w1 ⟨rfl, rfl⟩
    go_wp2_with fail
    refine (jump_b _ true (jump_in _ H1.out) _).mono ?_
    rintro e w1 ⟨rfl, rfl⟩
    go_wp2_with fail
    go_ret
    exact ⟨ret_b HP.out.symm, Only.alloc _ _ _⟩
set_option maxRecDepth 100000 in
set_option maxHeartbeats 4000000 in
theorem refRight_c20 (d a b imm : Int) (w : World) :
    Calls Tryd.prog 33 #[(In.mk 20 d a b imm).v] w fun e w' => e = .returned (.bool (rightR ⟨20, d, a, b, imm⟩)) ∧ Only (fun _ => False) w w' := by
  by_cases t1 : 1 ≤ d
  · skip
    by_cases t2 : d ≤ 63
    · skip
      cases t3 : regB a
      · skip
        have HP := Lib.hid (show rightR ⟨20, d, a, b, imm⟩ = false from by simp [rightR, threeR, jumpR, t1, t2, t3] <;> omega)
        have Ht3 := Lib.hid t3
        clear t3
        go_enter Tryd.func33, Tryd.ntmps33
        go_wp2_with fail
        refine (three_b _ false (by decide) _).mono ?_
        rintro e w1 ⟨rfl, rfl⟩
        go_wp2_with fail
        refine (jump_b _ false (by decide) _).mono ?_
        rintro e w1 ⟨rfl, rfl⟩
        go_wp2_with fail
        refine (reg_b a _ Ht3.out _).mono ?_
        rintro e w1 ⟨rfl, rfl⟩
        go_wp2_with fail
        go_ret
        exact ⟨ret_b HP.out.symm, Only.alloc _ _ _⟩
      · skip
        by_cases t4 : b = 0
        · skip
          by_cases t5 : 1 ≤ imm
          · skip
            by_cases t6 : imm ≤ 255
            · skip
              have HP := Lib.hid (show rightR ⟨20, d, a, b, imm⟩ = true from by simp [rightR, threeR, jumpR, t1, t2, t3, t4, t5, t6] <;> omega)
              have Ht3 := Lib.hid t3
              clear t3
              subst t4
              go_enter Tryd.func33, Tryd.ntmps33
              go_wp2_with fail
              refine (three_b _ false (by decide) _).mono ?_
              rintro e w1 ⟨rfl, rfl⟩
              go_wp2_with fail
              refine (jump_b _ false (by decide) _).mono ?_
              rintro e w1 ⟨rfl, rfl⟩
              go_wp2_with fail
              refine (reg_b a _ Ht3.out _).mono ?_
              rintro e w1 ⟨rfl, rfl⟩
              go_wp2_with fail
              go_ret
              exact ⟨ret_b HP.out.symm, Only.alloc _ _ _⟩
            · skip
              have HP := Lib.hid (show rightR ⟨20, d, a, b, imm⟩ = false from by simp [rightR, threeR, jumpR, t1, t2, t3, t4, t5, t6] <;> omega)
              have Ht3 := Lib.hid t3
              clear t3
              subst t4
              go_enter Tryd.func33, Tryd.ntmps33
              go_wp2_with fail
              refine (three_b _ false (by decide) _).mono ?_
              rintro e w1 ⟨rfl, rfl⟩
              go_wp2_with fail
              refine (jump_b _ false (by decide) _).mono ?_
              rintro e w1 ⟨rfl, rfl⟩
              go_wp2_with fail
              refine (reg_b a _ Ht3.out _).mono ?_
              rintro e w1 ⟨rfl, rfl⟩
              go_wp2_with fail
              go_ret
              exact ⟨ret_b (by rw [HP.out]; try first | rfl | simpa using t6), Only.alloc _ _ _⟩
          · skip
            have HP := Lib.hid (show rightR ⟨20, d, a, b, imm⟩ = false from by simp [rightR, threeR, jumpR, t1, t2, t3, t4, t5] <;> omega)
            have Ht3 := Lib.hid t3
            clear t3
            subst t4
            go_enter Tryd.func33, Tryd.ntmps33
            go_wp2_with fail
            refine (three_b _ false (by decide) _).mono ?_
            rintro e w1 ⟨rfl, rfl⟩
            go_wp2_with fail
            refine (jump_b _ false (by decide) _).mono ?_
            rintro e w1 ⟨rfl, rfl⟩
            go_wp2_with fail
            refine (reg_b a _ Ht3.out _).mono ?_
            rintro e w1 ⟨rfl, rfl⟩
            go_wp2_with fail
            go_ret
            exact ⟨ret_b HP.out.symm, Only.alloc _ _ _⟩
        · skip
          have HP := Lib.hid (show rightR ⟨20, d, a, b, imm⟩ = false from by simp [rightR, threeR, jumpR, t1, t2, t3, t4] <;> omega)
          have Ht3 := Lib.hid t3
          clear t3
          have t4b : (b == 0) = false := by simpa using t4
          clear t4
          go_enter Tryd.func33, Tryd.ntmps33
          go_wp2_with fail
          refine (three_b _ false (by decide) _).mono ?_
          rintro e w1 ⟨rfl, rfl⟩
          go_wp2_with fail
          refine (jump_b _ false (by decide) _).mono ?_
          rintro e w1 ⟨rfl, rfl⟩
          go_wp2_with fail
          refine (reg_b a _ Ht3.out _).mono ?_
          rintro e w1 ⟨rfl, rfl⟩
          go_wp2_with fail
          go_ret
          exact ⟨ret_b HP.out.symm, Only.alloc _ _ _⟩
    · skip
      have HP := Lib.hid (show rightR ⟨20, d, a, b, imm⟩ = false from by simp [rightR, threeR, jumpR, t1, t2] <;> omega)
      go_enter Tryd.func33, Tryd.ntmps33
      go_wp2_with fail
      refine (three_b _ false (by decide) _).mono ?_
      rintro e w1 ⟨rfl, rfl⟩
      go_wp2_with fail
      refine (jump_b _ false (by decide) _).mono ?_
      rintro e w1 ⟨rfl, rfl⟩
      go_wp2_with fail
      go_ret
      exact ⟨ret_b (by rw [HP.out]; try first | rfl | simpa using t2), Only.alloc _ _ _⟩
  · skip
    have HP := Lib.hid (show rightR ⟨20, d, a, b, imm⟩ = false from by simp [rightR, threeR, jumpR, t1] <;> omega)
    go_enter Tryd.func33, Tryd.ntmps33
    go_wp2_with fail
    refine (three_b _ false (by decide) _).mono ?_
    rintro e w1 ⟨rfl, rfl⟩
    go_wp2_with fail
    refine (jump_b _ false (by decide) _).mono ?_
    rintro e w1 ⟨rfl, rfl⟩
    go_wp2_with fail
    go_ret
    exact ⟨ret_b HP.out.symm, Only.alloc _ _ _⟩
set_option maxRecDepth 100000 in
set_option maxHeartbeats 4000000 in
theorem refRight_c21 (d a b imm : Int) (w : World) :
    Calls Tryd.prog 33 #[(In.mk 21 d a b imm).v] w fun e w' => e = .returned (.bool (rightR ⟨21, d, a, b, imm⟩)) ∧ Only (fun _ => False) w w' := by
  by_cases t1 : d = 0
  · skip
    by_cases t2 : a = 0
    · skip
      by_cases t3 : b = 0
      · skip
        by_cases t4 : 0 ≤ imm
        · skip
          by_cases t5 : imm ≤ 6
          · skip
            have HP := Lib.hid (show rightR ⟨21, d, a, b, imm⟩ = true from by simp [rightR, threeR, jumpR, t1, t2, t3, t4, t5] <;> omega)
            subst t1
            subst t2
            subst t3
            go_enter Tryd.func33, Tryd.ntmps33
            go_wp2_with fail
            refine (three_b _ false (by decide) _).mono ?_
            rintro e w1 ⟨rfl, rfl⟩
            go_wp2_with fail
            refine (jump_b _ false (by decide) _).mono ?_
            rintro e w1 ⟨rfl, rfl⟩
            go_wp2_with fail
            go_ret
            exact ⟨ret_b HP.out.symm, Only.alloc _ _ _⟩
          · skip
            have HP := Lib.hid (show rightR ⟨21, d, a, b, imm⟩ = false from by simp [rightR, threeR, jumpR, t1, t2, t3, t4, t5] <;> omega)
            subst t1
            subst t2
            subst t3
            go_enter Tryd.func33, Tryd.ntmps33
            go_wp2_with fail
            refine (three_b _ false (by decide) _).mono ?_
            rintro e w1 ⟨rfl, rfl⟩
            go_wp2_with fail
            refine (jump_b _ false (by decide) _).mono ?_
            rintro e w1 ⟨rfl, rfl⟩
            go_wp2_with fail
            go_ret
            exact ⟨ret_b (by rw [HP.out]; try first | rfl | simpa using t5), Only.alloc _ _ _⟩
        · skip
          have HP := Lib.hid (show rightR ⟨21, d, a, b, imm⟩ = false from by simp [rightR, threeR, jumpR, t1, t2, t3, t4] <;> omega)
          subst t1
          subst t2
          subst t3
          go_enter Tryd.func33, Tryd.ntmps33
          go_wp2_with fail
          refine (three_b _ false (by decide) _).mono ?_
          rintro e w1 ⟨rfl, rfl⟩
          go_wp2_with fail
          refine (jump_b _ false (by decide) _).mono ?_
          rintro e w1 ⟨rfl, rfl⟩
          go_wp2_with fail
          go_ret
          exact ⟨ret_b HP.out.symm, Only.alloc _ _ _⟩
      · skip
        have HP := Lib.hid (show rightR ⟨21, d, a, b, imm⟩ = false from by simp [rightR, threeR, jumpR, t1, t2, t3] <;> omega)
        subst t1
        subst t2
        have t3b : (b == 0) = false := by simpa using t3
        clear t3
        go_enter Tryd.func33, Tryd.ntmps33
        go_wp2_with fail
        refine (three_b _ false (by decide) _).mono ?_
        rintro e w1 ⟨rfl, rfl⟩
        go_wp2_with fail
        refine (jump_b _ false (by decide) _).mono ?_
        rintro e w1 ⟨rfl, rfl⟩
        go_wp2_with fail
        go_ret
        exact ⟨ret_b HP.out.symm, Only.alloc _ _ _⟩
    · skip
      have HP := Lib.hid (show rightR ⟨21, d, a, b, imm⟩ = false from by simp [rightR, threeR, jumpR, t1, t2] <;> omega)
      subst t1
      have t2b : (a == 0) = false := by simpa using t2
      clear t2
      go_enter Tryd.func33, Tryd.ntmps33
      go_wp2_with fail
      refine (three_b _ false (by decide) _).mono ?_
      rintro e w1 ⟨rfl, rfl⟩
      go_wp2_with fail
      refine (jump_b _ false (by decide) _).mono ?_
      rintro e w1 ⟨rfl, rfl⟩
      go_wp2_with fail
      go_ret
      exact ⟨ret_b HP.out.symm, Only.alloc _ _ _⟩
  · skip
    have HP := Lib.hid (show rightR ⟨21, d, a, b, imm⟩ = false from by simp [rightR, threeR, jumpR, t1] <;> omega)
    have t1b : (d == 0) = false := by simpa using t1
    clear t1
    go_enter Tryd.func33, Tryd.ntmps33
    go_wp2_with fail
    refine (three_b _ false (by decide) _).mono ?_
    rintro e w1 ⟨rfl, rfl⟩
    go_wp2_with fail
    refine (jump_b _ false (by decide) _).mono ?_
    rintro e w1 ⟨rfl, rfl⟩
    go_wp2_with fail
    go_ret
    exact ⟨ret_b HP.out.symm, Only.alloc _ _ _⟩
set_option maxRecDepth 100000 in
set_option maxHeartbeats 4000000 in
theorem refRight_c22 (d a b imm : Int) (w : World) :
    Calls Tryd.prog 33 #[(In.mk 22 d a b imm).v] w fun e w' => e = .returned (.bool (rightR ⟨22, d, a, b, imm⟩)) ∧ Only (fun _ => False) w w' := by
  by_cases t1 : d = 0
  · skip
    cases t2 : regB a
    · skip
      have HP := Lib.hid (show rightR ⟨22, d, a, b, imm⟩ = false from by simp [rightR, threeR, jumpR, t1, t2] <;> omega)
      subst t1
      have Ht2 := Lib.hid t2
      clear t2
      go_enter Tryd.func33, Tryd.ntmps33
      go_wp2_with fail
      refine (three_b _ false (by decide) _).mono ?_
      rintro e w1 ⟨rfl, rfl⟩
      go_wp2_with fail
      refine (jump_b _ false (by decide) _).mono ?_
      rintro e w1 ⟨rfl, rfl⟩
      go_wp2_with fail
      refine (reg_b a _ Ht2.out _).mono ?_
      rintro e w1 ⟨rfl, rfl⟩
      go_wp2_with fail
      go_ret
      exact ⟨ret_b HP.out.symm, Only.alloc _ _ _⟩
    · skip
      by_cases t3 : b = 0
      · skip
        by_cases t4 : imm = 0
        · skip
          have HP := Lib.hid (show rightR ⟨22, d, a, b, imm⟩ = true from by simp [rightR, threeR, jumpR, t1, t2, t3, t4] <;> omega)
          subst t1
          have Ht2 := Lib.hid t2
          clear t2
          subst t3
          subst t4
          go_enter Tryd.func33, Tryd.ntmps33
          go_wp2_with fail
          refine (three_b _ false (by decide) _).mono ?_
          rintro e w1 ⟨rfl, rfl⟩
          go_wp2_with fail
          refine (jump_b _ false (by decide) _).mono ?_
          rintro e w1 ⟨rfl, rfl⟩
          go_wp2_with fail
          refine (reg_b a _ Ht2.out _).mono ?_
          rintro e w1 ⟨rfl, rfl⟩
          go_wp2_with fail
          go_ret
          exact ⟨ret_b HP.out.symm, Only.alloc _ _ _⟩
        · skip
          have HP := Lib.hid (show rightR ⟨22, d, a, b, imm⟩ = false from by simp [rightR, threeR, jumpR, t1, t2, t3, t4] <;> omega)
          subst t1
          have Ht2 := Lib.hid t2
          clear t2
          subst t3
          have t4b : (imm == 0) = false := by simpa using t4
          clear t4
          go_enter Tryd.func33, Tryd.ntmps33
          go_wp2_with fail
          refine (three_b _ false (by decide) _).mono ?_
          rintro e w1 ⟨rfl, rfl⟩
          go_wp2_with fail
          refine (jump_b _ false (by decide) _).mono ?_
          rintro e w1 ⟨rfl, rfl⟩
          go_wp2_with fail
          refine (reg_b a _ Ht2.out _).mono ?_
          rintro e w1 ⟨rfl, rfl⟩
          go_wp2_with fail
          go_ret
          exact ⟨ret_b HP.out.symm, Only.alloc _ _ _⟩
      · skip
        have HP := Lib.hid (show rightR ⟨22, d, a, b, imm⟩ = false from by simp [rightR, threeR, jumpR, t1, t2, t3] <;> omega)
        subst t1
        have Ht2 := Lib.hid t2
        clear t2
        have t3b : (b == 0) = false := by simpa using t3
        clear t3
        go_enter Tryd.func33, Tryd.ntmps33
        go_wp2_with fail
        refine (three_b _ false (by decide) _).mono ?_
        rintro e w1 ⟨rfl, rfl⟩
        go_wp2_with fail
        refine (jump_b _ false (by decide) _).mono ?_
        rintro e w1 ⟨rfl, rfl⟩
        go_wp2_with fail
        refine (reg_b a _ Ht2.out _).mono ?_
        rintro e w1 ⟨rfl, rfl⟩
        go_wp2_with fail
        go_ret
        exact ⟨ret_b HP.out.symm, Only.alloc _ _ _⟩
  · skip
    have HP := Lib.hid (show rightR ⟨22, d, a, b, imm⟩ = false from by simp [rightR, threeR, jumpR, t1] <;> omega)
    have t1b : (d == 0) = false := by simpa using t1
    clear t1
    go_enter Tryd.func33, Tryd.ntmps33
    go_wp2_with fail
    refine (three_b _ false (by decide) _).mono ?_
    rintro e w1 ⟨rfl, rfl⟩
    go_wp2_with fail
    refine (jump_b _ false (by decide) _).mono ?_
    rintro e w1 ⟨rfl, rfl⟩
    go_wp2_with fail
    go_ret
    exact ⟨ret_b HP.out.symm, Only.alloc _ _ _⟩
set_option maxRecDepth 100000 in
set_option maxHeartbeats 4000000 in
theorem refRight_other (op d a b imm : Int) (h1 : op < 0 ∨ 22 < op) (w : World) :
    Calls Tryd.prog 33 #[(In.mk op d a b imm).v] w fun e w' => e = .returned (.bool (rightR ⟨op, d, a, b, imm⟩)) ∧ Only (fun _ => False) w w' := by
  have HP := Lib.hid (show rightR ⟨op, d, a, b, imm⟩ = false from by rw [rightO _ h1])
  obtain ⟨e0, e11, e12, e13, e14, e15, e20, e21, e22⟩ : (op == 0) = false ∧ (op == 11) = false ∧ (op == 12) = false ∧ (op == 13) = false ∧ (op == 14) = false ∧ (op == 15) = false ∧ (op == 20) = false ∧ (op == 21) = false ∧ (op == 22) = false := by simp; omega
  have H1 := Lib.hid h1
  clear h1
  go_enter Tryd.func33, Tryd.ntmps33
  go_wp2_with fail
  refine (three_b _ false (three_o _ H1.out) _).mono ?_
  rintro e w1 ⟨rfl, rfl⟩
  go_wp2_with fail
  refine (jump_b _ false (jump_o _ H1.out) _).mono ?_
  rintro e w1 ⟨rfl, rfl⟩
  go_wp2_with fail
  go_ret
  exact ⟨ret_b HP.out.symm, Only.alloc _ _ _⟩
theorem refRight_any (i : In) (w : World) :
    Calls Tryd.prog 33 #[i.v] w fun e w' => e = .returned (.bool (rightR i)) ∧ Only (fun _ => False) w w' := by
  obtain ⟨op, d, a, b, imm⟩ := i
  by_cases h0 : op = 0
  · subst h0; exact refRight_c0 d a b imm w
  by_cases h11 : op = 11
  · subst h11; exact refRight_c11 d a b imm w
  by_cases h3 : 1 ≤ op ∧ op ≤ 10
  · exact refRight_three op d a b imm h3 w
  by_cases h12 : op = 12
  · subst h12; exact refRight_c12 d a b imm w
  by_cases h13 : op = 13
  · subst h13; exact refRight_c13 d a b imm w
  by_cases h14 : op = 14
  · subst h14; exact refRight_c14 d a b imm w
  by_cases h15 : op = 15
  · subst h15; exact refRight_c15 d a b imm w
  by_cases hj : 16 ≤ op ∧ op ≤ 19
  · exact refRight_jump op d a b imm hj w
  by_cases h20 : op = 20
  · subst h20; exact refRight_c20 d a b imm w
  by_cases h21 : op = 21
  · subst h21; exact refRight_c21 d a b imm w
  by_cases h22 : op = 22
  · subst h22; exact refRight_c22 d a b imm w
  exact refRight_other op d a b imm (by omega) w
end Go.Proofs.YtkocfgaajghggaaDoor
