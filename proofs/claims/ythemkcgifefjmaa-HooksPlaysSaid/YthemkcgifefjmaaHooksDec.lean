/- Structs that came in: from the datum to the encoding (printed by gen_enc.py). -/
import Derived.Test.YthemkcgifefjmaaHooksEnc
import Derived.Test.YthemkcgifefjmaaOpen
namespace Go.Proofs.Ythemkcgifefjmaa
open Go.RowKit
set_option linter.unusedVariables false

def Pub.ok (x : Pub) : Prop := (Lit.int .i64 x.1).wf = true ∧ (Lit.int .i64 x.2).wf = true
theorem ePub_dec {w : World} : Dec w 53 ePub Pub.ok := by
  refine ⟨by kernel_rfl, fun H enc fuel cs d h => ?_⟩
  obtain ⟨_, _, _, _, hl, _, _⟩ := DataW.trod_struct Try.underlying53 h
  rw [show Try.prog.cellsOf 53 = 2 by kernel_rfl] at hl
  match cs, hl with
  | [c0, c1], _ =>
    obtain ⟨ys0, n0, _, _, _, hlen0, hg0⟩ := DataW.trod_struct Try.underlying53 h
    have h0_0 : DataW.trod enc Try.prog w 0 (fun _ => true) true n0 3 (List.take (Try.prog.cellsOf 3) (List.drop 0 [c0, c1])) = ys0[0]? := by have h := hg0 0 _ rfl; exact h
    have hs0_0 := List.getElem?_eq_getElem (l := ys0) (i := 0) (by rw [hlen0]; decide)
    rw [show Try.prog.cellsOf 3 = 1 by kernel_rfl, hs0_0] at h0_0
    have k0_0 : DataW.trod enc Try.prog w 0 (fun _ => true) true n0 3 [c0] = some _ := h0_0
    obtain ⟨x0, e0, _, w0⟩ := DataW.trod_int Try.underlying3 k0_0
    have q0 : c0 = .int .i64 x0 := by simpa using e0
    have h0_1 : DataW.trod enc Try.prog w 0 (fun _ => true) true n0 3 (List.take (Try.prog.cellsOf 3) (List.drop 1 [c0, c1])) = ys0[1]? := by have h := hg0 1 _ rfl; exact h
    have hs0_1 := List.getElem?_eq_getElem (l := ys0) (i := 1) (by rw [hlen0]; decide)
    rw [show Try.prog.cellsOf 3 = 1 by kernel_rfl, hs0_1] at h0_1
    have k0_1 : DataW.trod enc Try.prog w 0 (fun _ => true) true n0 3 [c1] = some _ := h0_1
    obtain ⟨x1, e1, _, w1⟩ := DataW.trod_int Try.underlying3 k0_1
    have q1 : c1 = .int .i64 x1 := by simpa using e1
    subst q0 q1
    exact ⟨(x0, x1), rfl, ⟨w0, w1⟩⟩
def StepD.ok (x : StepD) : Prop := (Lit.int .i64 x.1).wf = true ∧ (Lit.int .i64 x.2.1).wf = true ∧ (Lit.int .i64 x.2.2).wf = true
theorem eStep_dec {w : World} : Dec w 62 eStep StepD.ok := by
  refine ⟨by kernel_rfl, fun H enc fuel cs d h => ?_⟩
  obtain ⟨_, _, _, _, hl, _, _⟩ := DataW.trod_struct Try.underlying62 h
  rw [show Try.prog.cellsOf 62 = 3 by kernel_rfl] at hl
  match cs, hl with
  | [c0, c1, c2], _ =>
    obtain ⟨ys0, n0, _, _, _, hlen0, hg0⟩ := DataW.trod_struct Try.underlying62 h
    have h0_0 : DataW.trod enc Try.prog w 0 (fun _ => true) true n0 3 (List.take (Try.prog.cellsOf 3) (List.drop 0 [c0, c1, c2])) = ys0[0]? := by have h := hg0 0 _ rfl; exact h
    have hs0_0 := List.getElem?_eq_getElem (l := ys0) (i := 0) (by rw [hlen0]; decide)
    rw [show Try.prog.cellsOf 3 = 1 by kernel_rfl, hs0_0] at h0_0
    have k0_0 : DataW.trod enc Try.prog w 0 (fun _ => true) true n0 3 [c0] = some _ := h0_0
    obtain ⟨x0, e0, _, w0⟩ := DataW.trod_int Try.underlying3 k0_0
    have q0 : c0 = .int .i64 x0 := by simpa using e0
    have h0_1 : DataW.trod enc Try.prog w 0 (fun _ => true) true n0 3 (List.take (Try.prog.cellsOf 3) (List.drop 1 [c0, c1, c2])) = ys0[1]? := by have h := hg0 1 _ rfl; exact h
    have hs0_1 := List.getElem?_eq_getElem (l := ys0) (i := 1) (by rw [hlen0]; decide)
    rw [show Try.prog.cellsOf 3 = 1 by kernel_rfl, hs0_1] at h0_1
    have k0_1 : DataW.trod enc Try.prog w 0 (fun _ => true) true n0 3 [c1] = some _ := h0_1
    obtain ⟨x1, e1, _, w1⟩ := DataW.trod_int Try.underlying3 k0_1
    have q1 : c1 = .int .i64 x1 := by simpa using e1
    have h0_2 : DataW.trod enc Try.prog w 0 (fun _ => true) true n0 3 (List.take (Try.prog.cellsOf 3) (List.drop 2 [c0, c1, c2])) = ys0[2]? := by have h := hg0 2 _ rfl; exact h
    have hs0_2 := List.getElem?_eq_getElem (l := ys0) (i := 2) (by rw [hlen0]; decide)
    rw [show Try.prog.cellsOf 3 = 1 by kernel_rfl, hs0_2] at h0_2
    have k0_2 : DataW.trod enc Try.prog w 0 (fun _ => true) true n0 3 [c2] = some _ := h0_2
    obtain ⟨x2, e2, _, w2⟩ := DataW.trod_int Try.underlying3 k0_2
    have q2 : c2 = .int .i64 x2 := by simpa using e2
    subst q0 q1 q2
    exact ⟨(x0, x1, x2), rfl, ⟨w0, w1, w2⟩⟩
def OpD.ok (x : OpD) : Prop := (Lit.int .i64 x.1).wf = true ∧ (Lit.int .i64 x.2.1).wf = true ∧ (Lit.int .i64 x.2.2.1).wf = true
theorem eOp_dec {w : World} : Dec w 30 eOp OpD.ok := by
  refine ⟨by kernel_rfl, fun H enc fuel cs d h => ?_⟩
  obtain ⟨_, _, _, _, hl, _, _⟩ := DataW.trod_struct Try.underlying30 h
  rw [show Try.prog.cellsOf 30 = 4 by kernel_rfl] at hl
  match cs, hl with
  | [c0, c1, c2, c3], _ =>
    obtain ⟨ys0, n0, _, _, _, hlen0, hg0⟩ := DataW.trod_struct Try.underlying30 h
    have h0_0 : DataW.trod enc Try.prog w 0 (fun _ => true) true n0 3 (List.take (Try.prog.cellsOf 3) (List.drop 0 [c0, c1, c2, c3])) = ys0[0]? := by have h := hg0 0 _ rfl; exact h
    have hs0_0 := List.getElem?_eq_getElem (l := ys0) (i := 0) (by rw [hlen0]; decide)
    rw [show Try.prog.cellsOf 3 = 1 by kernel_rfl, hs0_0] at h0_0
    have k0_0 : DataW.trod enc Try.prog w 0 (fun _ => true) true n0 3 [c0] = some _ := h0_0
    obtain ⟨x0, e0, _, w0⟩ := DataW.trod_int Try.underlying3 k0_0
    have q0 : c0 = .int .i64 x0 := by simpa using e0
    have h0_1 : DataW.trod enc Try.prog w 0 (fun _ => true) true n0 3 (List.take (Try.prog.cellsOf 3) (List.drop 1 [c0, c1, c2, c3])) = ys0[1]? := by have h := hg0 1 _ rfl; exact h
    have hs0_1 := List.getElem?_eq_getElem (l := ys0) (i := 1) (by rw [hlen0]; decide)
    rw [show Try.prog.cellsOf 3 = 1 by kernel_rfl, hs0_1] at h0_1
    have k0_1 : DataW.trod enc Try.prog w 0 (fun _ => true) true n0 3 [c1] = some _ := h0_1
    obtain ⟨x1, e1, _, w1⟩ := DataW.trod_int Try.underlying3 k0_1
    have q1 : c1 = .int .i64 x1 := by simpa using e1
    have h0_2 : DataW.trod enc Try.prog w 0 (fun _ => true) true n0 3 (List.take (Try.prog.cellsOf 3) (List.drop 2 [c0, c1, c2, c3])) = ys0[2]? := by have h := hg0 2 _ rfl; exact h
    have hs0_2 := List.getElem?_eq_getElem (l := ys0) (i := 2) (by rw [hlen0]; decide)
    rw [show Try.prog.cellsOf 3 = 1 by kernel_rfl, hs0_2] at h0_2
    have k0_2 : DataW.trod enc Try.prog w 0 (fun _ => true) true n0 3 [c2] = some _ := h0_2
    obtain ⟨x2, e2, _, w2⟩ := DataW.trod_int Try.underlying3 k0_2
    have q2 : c2 = .int .i64 x2 := by simpa using e2
    have h0_3 : DataW.trod enc Try.prog w 0 (fun _ => true) true n0 23 (List.take (Try.prog.cellsOf 23) (List.drop 3 [c0, c1, c2, c3])) = ys0[3]? := by have h := hg0 3 _ rfl; exact h
    have hs0_3 := List.getElem?_eq_getElem (l := ys0) (i := 3) (by rw [hlen0]; decide)
    rw [show Try.prog.cellsOf 23 = 1 by kernel_rfl, hs0_3] at h0_3
    have k0_3 : DataW.trod enc Try.prog w 0 (fun _ => true) true n0 23 [c3] = some _ := h0_3
    obtain ⟨x3, q3⟩ : ∃ x : Option Addr × Nat × Nat, c3 = .slice x.1 x.2.1 x.2.2 := by
      rcases DataW.trod_slice Try.underlying23 k0_3 with ⟨e, _⟩ | ⟨a, l, c, _, _, _, _, e, _⟩
      · exact ⟨(none, 0, 0), by simpa using e⟩
      · exact ⟨(some a, l, c), by simpa using e⟩
    subst q0 q1 q2 q3
    exact ⟨(x0, x1, x2, x3), rfl, ⟨w0, w1, w2⟩⟩
end Go.Proofs.Ythemkcgifefjmaa
