/- ops: Writes; Goes of the document's example. -/
import Derived.Test.YtjmjmgemhkjomaaDoorOpsSource
namespace Go.Proofs.YtjmjmgemhkjomaaDoor
open Go.RowKit
set_option linter.unusedVariables false
set_option linter.unusedSimpArgs false

def writesP (i : In) : Int × Bool := if rightP i then (if usesOp i.op 100 then (i.d, true) else (0, i.op == 21)) else (0, false)
theorem ret_ib {a b : Int} {c d : Bool} (h : (a, c) = (b, d)) : Ending.returned (.tuple #[.int .i64 a, .bool c]) = .returned (.tuple #[.int .i64 b, .bool d]) := by cases h; rfl
set_option maxHeartbeats 2000000 in
theorem writes_any (i : In) (w : World) (hF : Forms w) :
    Calls Tryd.prog 19 #[i.v] w fun e w' => e = .returned (.tuple #[.int .i64 (writesP i).1, .bool (writesP i).2]) ∧ Only (fun _ => False) w w' := by
  cases hr : rightP i
  · have HP := Lib.hid (show writesP i = _ from by unfold writesP; rw [hr])
    have HR := Lib.hid (show ∀ W, Forms W → Calls Tryd.prog 28 #[i.v] W fun e w' => e = .returned (.bool _) ∧ Only (fun _ => False) W w' from fun W h => hr ▸ right_any i W h)
    clear hr
    obtain ⟨op, d, a, b, imm⟩ := i
    have hF1 := Lib.hid (hF.only (Only.alloc _ w (.cells #[.int .i64 op, .int .i64 d, .int .i64 a, .int .i64 b, .int .i64 imm] 34)))
    clear hF
    go_enter Tryd.func19, Tryd.ntmps19
    go_wp2_with fail
    refine (HR.out _ hF1.out).mono ?_
    rintro e w2 ⟨rfl, ho2⟩
    go_wp2_with fail
    go_ret2
    exact ⟨ret_ib (by rw [HP.out]; rfl), (Only.alloc _ _ _).tr ho2⟩
  · cases hu : usesOp i.op 100
    all_goals
      have HP := Lib.hid (show writesP i = _ from by unfold writesP; rw [hr, hu])
      have HR := Lib.hid (show ∀ W, Forms W → Calls Tryd.prog 28 #[i.v] W fun e w' => e = .returned (.bool _) ∧ Only (fun _ => False) W w' from fun W h => hr ▸ right_any i W h)
      have HU := Lib.hid hu
      clear hr hu
      obtain ⟨op, d, a, b, imm⟩ := i
      have hF1 := Lib.hid (hF.only (Only.alloc _ w (.cells #[.int .i64 op, .int .i64 d, .int .i64 a, .int .i64 b, .int .i64 imm] 34)))
      clear hF
      go_enter Tryd.func19, Tryd.ntmps19
      go_wp2_with fail
      refine (HR.out _ hF1.out).mono ?_
      rintro e w1 ⟨rfl, ho⟩
      have hb1 := ho.heap (heap_alloc_new w _) (fun h => h)
      have HB1 := Lib.hid hb1
      have c0 := cells_of_heap hb1 0 (.int .i64 op) rfl
      have HO := Lib.hid ((Only.alloc _ w _).tr ho)
      have HF2 := Lib.hid (hF1.out.only ho)
      clear hb1 ho
      go_wp2_with fail
      refine (of_any op _ HF2.out).mono ?_
      rintro e w2 ⟨nm, s, ok, rfl, hfo, ho2⟩
      have hb2 := ho2.heap HB1.out (fun h => h)
      have hz2 : w.heap.size < w2.heap.size := heap_lt hb2
      have d0 := cells_of_heap hb2 0 (.int .i64 op) rfl
      have d1 := cells_of_heap hb2 1 (.int .i64 d) rfl
      have HFO := Lib.hid hfo
      have HB2 := Lib.hid hb2
      have HO2 := Lib.hid (HO.out.tr ho2)
      clear hb2 ho2 hfo c0
      go_wp2_with fail
      refine (uses_of op nm s HFO.out 100 100 (by decide) _ HU.out _).mono ?_
      rintro e w3 ⟨rfl, ho3⟩
      have hb3 := ho3.heap (heap_alloc (p := .cells #[.string nm, .string s] 45) HB2.out) (fun h => h)
      have e0 := cells_of_heap hb3 0 (.int .i64 op) rfl
      have e1 := cells_of_heap hb3 1 (.int .i64 d) rfl
      have HO3 := Lib.hid ((HO2.out.tr (Only.alloc _ _ _)).tr ho3)
      clear hb3 ho3 d0 d1
      go_wp2_with fail
      first
        | (go_ret2; exact ⟨ret_ib (by rw [HP.out]; rfl), HO3.out⟩)
        | (go_quiet (fail); go_wp2_with fail; go_ret2; exact ⟨ret_ib (by rw [HP.out]; rfl), HO3.out.drewN _⟩)

set_option maxHeartbeats 2000000 in
theorem goes_awake (w : World) (hF : Forms w) :
    Calls Tryd.prog 21 #[.agg #[.int .i64 15, .int .i64 3, .int .i64 0, .int .i64 0, .int .i64 0]] w fun e w' => e = .returned (.tuple #[.int .i64 4, .bool true, .bool false]) ∧ Only (fun _ => False) w w' := by
  have HR := Lib.hid (show ∀ W, Forms W → Calls Tryd.prog 28 #[.agg #[.int .i64 15, .int .i64 3, .int .i64 0, .int .i64 0, .int .i64 0]] W fun e w' => e = .returned (.bool true) ∧ Only (fun _ => False) W w' from fun W h => by
    have := right_any ⟨15, 3, 0, 0, 0⟩ W h
    rw [show rightP ⟨15, 3, 0, 0, 0⟩ = true by decide +kernel] at this
    exact this)
  have hF1 := Lib.hid (hF.only (Only.alloc _ w (.cells #[.int .i64 15, .int .i64 3, .int .i64 0, .int .i64 0, .int .i64 0] 34)))
  clear hF
  go_enter Tryd.func21, Tryd.ntmps21
  go_wp2_with fail
  refine (HR.out _ hF1.out).mono ?_
  rintro e w1 ⟨rfl, ho⟩
  have hb1 := ho.heap (heap_alloc_new w _) (fun h => h)
  have HB1 := Lib.hid hb1
  have c0 := cells_of_heap hb1 0 (.int .i64 15) rfl
  have HO := Lib.hid ((Only.alloc _ w _).tr ho)
  have HF2 := Lib.hid (hF1.out.only ho)
  clear hb1 ho
  go_wp2_with fail
  refine (of_any 15 _ HF2.out).mono ?_
  rintro e w2 ⟨nm, s, ok, rfl, hfo, ho2⟩
  have hb2 := ho2.heap HB1.out (fun h => h)
  have hz2 : w.heap.size < w2.heap.size := heap_lt hb2
  have HFO := Lib.hid hfo
  have HB2 := Lib.hid hb2
  have HO2 := Lib.hid (HO.out.tr ho2)
  clear hb2 ho2 hfo c0
  go_wp2_with fail
  refine (uses_of 15 nm s HFO.out 106 106 (by decide) true (by decide +kernel) _).mono ?_
  rintro e w3 ⟨rfl, ho3⟩
  have hb3 := ho3.heap (heap_alloc (p := .cells #[.string nm, .string s] 45) HB2.out) (fun h => h)
  have e0 := cells_of_heap hb3 0 (.int .i64 15) rfl
  have e1 := cells_of_heap hb3 1 (.int .i64 3) rfl
  have HO3 := Lib.hid ((HO2.out.tr (Only.alloc _ _ _)).tr ho3)
  clear hb3 ho3
  go_wp2_with fail
  go_quiet (fail)
  go_wp2_with fail
  go_ret3
  exact ⟨rfl, HO3.out.drewN _⟩
end Go.Proofs.YtjmjmgemhkjomaaDoor
