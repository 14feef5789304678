/- ops: the reference's Source and Writes. -/
import Derived.Test.YtjmjmgemhkjomaaDoorOpsRefRight
import Derived.Test.YtjmjmgemhkjomaaDoorOpsSource
import Derived.Test.YtjmjmgemhkjomaaDoorOpsWrites
namespace Go.Proofs.YtjmjmgemhkjomaaDoor
open Go.RowKit
set_option linter.unusedVariables false
set_option linter.unusedSimpArgs false

def sourceR (i : In) : Bool := rightR i && (decide (i.op ≤ 12) || jumpR i.op)
def writesR (i : In) : Int × Bool := if rightR i then (if i.op ≤ 11 ∨ i.op = 13 ∨ i.op = 14 then (i.d, true) else (0, i.op == 21)) else (0, false)

theorem usesOp_at (k : Nat) (hk : k < 23) (c : UInt8) : usesOp (k : Int) c = (fieldsB[k]'(by rw [fieldsB_val]; exact hk)).any fun x => x.toNat == c.toNat := by
  unfold usesOp formB
  rw [if_pos (by omega)]
  have : fieldsB[((k : Int)).toNat]? = some (fieldsB[k]'(by rw [fieldsB_val]; exact hk)) := by simp
  simp only [this]
theorem rightR_range {i : In} (h : rightR i = true) : 0 ≤ i.op ∧ i.op < 23 := by
  by_cases hr : i.op < 0 ∨ 22 < i.op
  · rw [rightO i hr] at h; cases h
  · omega
theorem source_eq (i : In) : sourceP i = sourceR i := by
  unfold sourceP sourceR
  rw [right_eq]
  cases h : rightR i
  · rfl
  · have hr := rightR_range h
    obtain ⟨op, d, a, b, imm⟩ := i
    obtain ⟨k, rfl⟩ : ∃ k : Nat, op = (k : Int) := ⟨op.toNat, by dsimp only at hr; omega⟩
    have hk : k < 23 := by dsimp only at hr; omega
    clear h hr
    dsimp only
    rw [usesOp_at k hk]
    match k, hk with
    | 0, _ | 1, _ | 2, _ | 3, _ | 4, _ | 5, _ | 6, _ | 7, _ | 8, _ | 9, _ | 10, _ | 11, _ | 12, _ | 13, _ | 14, _ | 15, _ | 16, _ | 17, _ | 18, _ | 19, _ | 20, _ | 21, _ | 22, _ => rfl
    | n + 23, h' => exact absurd h' (by omega)
theorem writes_eq (i : In) : writesP i = writesR i := by
  unfold writesP writesR
  rw [right_eq]
  cases h : rightR i
  · rfl
  · have hr := rightR_range h
    obtain ⟨op, d, a, b, imm⟩ := i
    obtain ⟨k, rfl⟩ : ∃ k : Nat, op = (k : Int) := ⟨op.toNat, by dsimp only at hr; omega⟩
    have hk : k < 23 := by dsimp only at hr; omega
    clear h hr
    dsimp only
    rw [usesOp_at k hk]
    match k, hk with
    | 0, _ | 1, _ | 2, _ | 3, _ | 4, _ | 5, _ | 6, _ | 7, _ | 8, _ | 9, _ | 10, _ | 11, _ | 12, _ | 13, _ | 14, _ | 15, _ | 16, _ | 17, _ | 18, _ | 19, _ | 20, _ | 21, _ | 22, _ => rfl
    | n + 23, h' => exact absurd h' (by omega)

set_option maxHeartbeats 1000000 in
theorem refSource_any (i : In) (w : World) :
    Calls Tryd.prog 15 #[i.v] w fun e w' => e = .returned (.bool (sourceR i)) ∧ Only (fun _ => False) w w' := by
  obtain ⟨op, d, a, b, imm⟩ := i
  cases hr : rightR ⟨op, d, a, b, imm⟩ <;> by_cases h12 : op ≤ 12
  all_goals
    have HP := Lib.hid (show sourceR ⟨op, d, a, b, imm⟩ = _ from by unfold sourceR; rw [hr])
    have HR := Lib.hid (fun W => hr ▸ refRight_any ⟨op, d, a, b, imm⟩ W)
    have H12 := Lib.hid h12
    clear hr
    go_enter Tryd.func15, Tryd.ntmps15
    go_wp2_with fail
    refine (HR.out _).mono ?_
    rintro e w1 ⟨rfl, ho⟩
    have HO := Lib.hid ((Only.alloc _ w _).tr ho)
    clear ho
    go_wp2_with (go_at_call 27; refine (jump_any _ _).mono ?_; rintro e w2 ⟨rfl, rfl⟩)
    go_ret
    exact ⟨ret_b (by rw [HP.out]; simp [H12.out]), HO.out⟩

set_option maxHeartbeats 1000000 in
theorem refWrites_any (i : In) (w : World) :
    Calls Tryd.prog 20 #[i.v] w fun e w' => e = .returned (.tuple #[.int .i64 (writesR i).1, .bool (writesR i).2]) ∧ Only (fun _ => False) w w' := by
  obtain ⟨op, d, a, b, imm⟩ := i
  cases hr : rightR ⟨op, d, a, b, imm⟩
  · have HP := Lib.hid (show writesR ⟨op, d, a, b, imm⟩ = (0, false) from by unfold writesR; rw [hr]; rfl)
    have HR := Lib.hid (fun W => hr ▸ refRight_any ⟨op, d, a, b, imm⟩ W)
    clear hr
    go_enter Tryd.func20, Tryd.ntmps20
    go_wp2_with fail
    refine (HR.out _).mono ?_
    rintro e w1 ⟨rfl, ho⟩
    have HO := Lib.hid ((Only.alloc _ w _).tr ho)
    clear ho
    go_wp2_with fail
    go_ret2
    exact ⟨ret_ib (by rw [HP.out]), HO.out⟩
  · have HR := Lib.hid (fun W => hr ▸ refRight_any ⟨op, d, a, b, imm⟩ W)
    by_cases h11 : op ≤ 11
    · have HP := Lib.hid (show writesR ⟨op, d, a, b, imm⟩ = (d, true) from by unfold writesR; rw [hr]; simp [h11])
      clear hr
      go_enter Tryd.func20, Tryd.ntmps20
      go_wp2_with fail
      refine (HR.out _).mono ?_
      rintro e w1 ⟨rfl, ho⟩
      have hb1 := ho.heap (heap_alloc_new w _) (fun h => h)
      have c1 := cells_of_heap hb1 1 (.int .i64 d) rfl
      have HO := Lib.hid ((Only.alloc _ w _).tr ho)
      clear ho hb1
      go_wp2_with fail
      go_ret2
      exact ⟨ret_ib (by rw [HP.out]), HO.out⟩
    · by_cases h13 : op = 13 ∨ op = 14
      · have HP := Lib.hid (show writesR ⟨op, d, a, b, imm⟩ = (d, true) from by unfold writesR; rw [hr]; simp [h13])
        clear hr
        rcases h13 with rfl | rfl
        all_goals
          clear h11
          go_enter Tryd.func20, Tryd.ntmps20
          go_wp2_with fail
          refine (HR.out _).mono ?_
          rintro e w1 ⟨rfl, ho⟩
          have hb1 := ho.heap (heap_alloc_new w _) (fun h => h)
          have c1 := cells_of_heap hb1 1 (.int .i64 d) rfl
          have HO := Lib.hid ((Only.alloc _ w _).tr ho)
          clear ho hb1
          go_wp2_with fail
          go_ret2
          exact ⟨ret_ib (by rw [HP.out]), HO.out⟩
      · have HP := Lib.hid (show writesR ⟨op, d, a, b, imm⟩ = (0, op == 21) from by unfold writesR; rw [hr]; simp [h11, h13])
        clear hr
        have e13 : (op == 13) = false := by simp; omega
        have e14 : (op == 14) = false := by simp; omega
        clear h13
        go_enter Tryd.func20, Tryd.ntmps20
        go_wp2_with fail
        refine (HR.out _).mono ?_
        rintro e w1 ⟨rfl, ho⟩
        have HO := Lib.hid ((Only.alloc _ w _).tr ho)
        clear ho
        go_wp2_with fail
        go_ret2
        exact ⟨ret_ib (by rw [HP.out]), HO.out⟩
end Go.Proofs.YtjmjmgemhkjomaaDoor
