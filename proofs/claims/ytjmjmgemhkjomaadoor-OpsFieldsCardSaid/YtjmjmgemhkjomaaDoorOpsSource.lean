/- ops: of and uses of whatever operation; Source; Writes. -/
import Derived.Test.YtjmjmgemhkjomaaDoorOpsAll
namespace Go.Proofs.YtjmjmgemhkjomaaDoor
open Go.RowKit
set_option linter.unusedVariables false
set_option linter.unusedSimpArgs false

def usesOp (op : Int) (c : UInt8) : Bool := match formB op with
  | none => false
  | some fs => fs.any fun x => x.toNat == c.toNat
/-- what of leaves: two strings, of which the second answers usesOp -/
def FormOf (op : Int) (s : ByteArray) : Prop := s.size ≤ 3 ∧ ∀ c, usesB s c = usesOp op c
theorem of_any (op : Int) (w : World) (hF : Forms w) :
    Calls Tryd.prog 23 #[.int .i64 op] w fun e w' => ∃ nm s ok, e = .returned (.tuple #[.agg #[.string nm, .string s], .bool ok]) ∧ FormOf op s ∧ Only (fun _ => False) w w' := by
  by_cases h : 0 ≤ op ∧ op < 23
  · obtain ⟨k, rfl⟩ : ∃ k : Nat, op = (k : Int) := ⟨op.toNat, by omega⟩
    obtain ⟨nb, fb, hrow, hfb, hlen, _⟩ := row_of k (by omega)
    refine (of_in k nb fb w (by omega) hF hrow).mono ?_
    rintro e w' ⟨rfl, ho⟩
    refine ⟨_, _, _, rfl, ⟨by show fb.toArray.size ≤ 3; simpa using hlen, fun c => ?_⟩, ho⟩
    unfold usesOp formB usesB
    rw [if_pos h]
    have h1 : fieldsB[((k : Int)).toNat]? = some fb := by simpa using hfb
    simp only [h1]
  · refine (of_out op w (by omega)).mono ?_
    rintro e w' ⟨rfl, ho⟩
    refine ⟨_, _, _, rfl, ⟨by decide, fun c => ?_⟩, ho⟩
    unfold usesOp formB usesB
    rw [if_neg h]
    rfl
theorem uses_of (op : Int) (nm s : ByteArray) (h : FormOf op s) (c : UInt8) (n : Int) (hn : n = c.toNat) (b : Bool) (hb : usesOp op c = b) (w : World) :
    Calls Tryd.prog 29 #[.agg #[.string nm, .string s], .int .u8 n] w fun e w' => e = .returned (.bool b) ∧ Only (fun _ => False) w w' := by
  subst hn hb
  have := uses_any nm s c w (by have := h.1; unfold maxLen; omega)
  rw [h.2 c] at this
  exact this

def sourceP (i : In) : Bool := rightP i && usesOp i.op 115
set_option maxHeartbeats 1000000 in
theorem source_any (i : In) (w : World) (hF : Forms w) :
    Calls Tryd.prog 14 #[i.v] w fun e w' => e = .returned (.bool (sourceP i)) ∧ Only (fun _ => False) w w' := by
  cases hr : rightP i <;> cases hu : usesOp i.op 115
  all_goals
    have HP := Lib.hid (show sourceP i = _ from by unfold sourceP; rw [hr, hu])
    have HR := Lib.hid (show ∀ W, Forms W → Calls Tryd.prog 28 #[i.v] W fun e w' => e = .returned (.bool _) ∧ Only (fun _ => False) W w' from fun W h => hr ▸ right_any i W h)
    have HU := Lib.hid hu
    have HF := Lib.hid hF
    clear hr hu
    obtain ⟨op, d, a, b, imm⟩ := i
    have hF1 := Lib.hid (hF.only (Only.alloc _ w (.cells #[.int .i64 op, .int .i64 d, .int .i64 a, .int .i64 b, .int .i64 imm] 34)))
    clear hF
    go_enter Tryd.func14, Tryd.ntmps14
    go_wp2_with fail
    refine (of_any op _ hF1.out).mono ?_
    rintro e w1 ⟨nm, s, ok, rfl, hfo, ho⟩
    have hb1 := ho.heap (heap_alloc_new w _) (fun h => h)
    have hz1 : w.heap.size < w1.heap.size := by have := ho.size; simp at this; omega
    have c0 := cells_of_heap hb1 0 (.int .i64 op) rfl
    have c1 := cells_of_heap hb1 1 (.int .i64 d) rfl
    have c2 := cells_of_heap hb1 2 (.int .i64 a) rfl
    have c3 := cells_of_heap hb1 3 (.int .i64 b) rfl
    have c4 := cells_of_heap hb1 4 (.int .i64 imm) rfl
    have HFO := Lib.hid hfo
    have HO := Lib.hid ((Only.alloc _ w _).tr ho)
    have HF2 := Lib.hid (hF1.out.only ho)
    clear hb1 hfo ho
    go_wp2_with fail
    refine (HR.out _ (HF2.out.only (Only.alloc _ _ _))).mono ?_
    rintro e w2 ⟨rfl, ho2⟩
    have hb2 := ho2.heap (heap_alloc_new w1 _) (fun h => h)
    have d0 := cells_of_heap hb2 0 (.string nm) rfl
    have d1 := cells_of_heap hb2 1 (.string s) rfl
    have HO2 := Lib.hid ((HO.out.tr (Only.alloc _ _ _)).tr ho2)
    clear hb2 ho2 c0 c1 c2 c3 c4
    go_wp2_with (go_at_call 29; refine (uses_of op nm s HFO.out 115 115 (by decide) _ HU.out _).mono ?_; rintro e w3 ⟨rfl, ho3⟩)
    go_ret
    first
      | exact ⟨ret_b HP.out.symm, HO2.out⟩
      | exact ⟨ret_b HP.out.symm, HO2.out.tr ho3⟩
end Go.Proofs.YtjmjmgemhkjomaaDoor
