/- Structs that came in: from the datum to the encoding (printed by gen_enc.py). -/
import Derived.Test.YtodacnpbhlkoiaaBookEnc
import Derived.Test.YtodacnpbhlkoiaaOpen
namespace Go.Proofs.Ytodacnpbhlkoiaa
open Go.RowKit
set_option linter.unusedVariables false

def PairD.ok (x : PairD) : Prop := (Lit.int .u64 x.1).wf = true ∧ (Lit.int .u64 x.2).wf = true
theorem ePair_dec {w : World} : Dec w 46 ePair PairD.ok := by
  refine ⟨by kernel_rfl, fun H enc fuel cs d h => ?_⟩
  obtain ⟨_, _, _, _, hl, _, _⟩ := DataW.trod_struct Try.underlying46 h
  rw [show Try.prog.cellsOf 46 = 2 by kernel_rfl] at hl
  match cs, hl with
  | [c0, c1], _ =>
    obtain ⟨ys0, n0, _, _, _, hlen0, hg0⟩ := DataW.trod_struct Try.underlying46 h
    have h0_0 : DataW.trod enc Try.prog w 0 (fun _ => true) true n0 28 (List.take (Try.prog.cellsOf 28) (List.drop 0 [c0, c1])) = ys0[0]? := by have h := hg0 0 _ rfl; exact h
    have hs0_0 := List.getElem?_eq_getElem (l := ys0) (i := 0) (by rw [hlen0]; decide)
    rw [show Try.prog.cellsOf 28 = 1 by kernel_rfl, hs0_0] at h0_0
    have k0_0 : DataW.trod enc Try.prog w 0 (fun _ => true) true n0 28 [c0] = some _ := h0_0
    obtain ⟨x0, e0, _, w0⟩ := DataW.trod_int Try.underlying28 k0_0
    have q0 : c0 = .int .u64 x0 := by simpa using e0
    have h0_1 : DataW.trod enc Try.prog w 0 (fun _ => true) true n0 28 (List.take (Try.prog.cellsOf 28) (List.drop 1 [c0, c1])) = ys0[1]? := by have h := hg0 1 _ rfl; exact h
    have hs0_1 := List.getElem?_eq_getElem (l := ys0) (i := 1) (by rw [hlen0]; decide)
    rw [show Try.prog.cellsOf 28 = 1 by kernel_rfl, hs0_1] at h0_1
    have k0_1 : DataW.trod enc Try.prog w 0 (fun _ => true) true n0 28 [c1] = some _ := h0_1
    obtain ⟨x1, e1, _, w1⟩ := DataW.trod_int Try.underlying28 k0_1
    have q1 : c1 = .int .u64 x1 := by simpa using e1
    subst q0 q1
    exact ⟨(x0, x1), rfl, ⟨w0, w1⟩⟩
def ResD.ok (x : ResD) : Prop := (Lit.int .i64 x.1).wf = true ∧ (Lit.int .u64 x.2.2.1).wf = true ∧ (Lit.int .u64 x.2.2.2.2.1).wf = true ∧ (Lit.int .u64 x.2.2.2.2.2).wf = true
theorem eRes_dec {w : World} : Dec w 35 eRes ResD.ok := by
  refine ⟨by kernel_rfl, fun H enc fuel cs d h => ?_⟩
  obtain ⟨_, _, _, _, hl, _, _⟩ := DataW.trod_struct Try.underlying35 h
  rw [show Try.prog.cellsOf 35 = 6 by kernel_rfl] at hl
  match cs, hl with
  | [c0, c1, c2, c3, c4, c5], _ =>
    obtain ⟨ys0, n0, _, _, _, hlen0, hg0⟩ := DataW.trod_struct Try.underlying35 h
    have h0_0 : DataW.trod enc Try.prog w 0 (fun _ => true) true n0 25 (List.take (Try.prog.cellsOf 25) (List.drop 0 [c0, c1, c2, c3, c4, c5])) = ys0[0]? := by have h := hg0 0 _ rfl; exact h
    have hs0_0 := List.getElem?_eq_getElem (l := ys0) (i := 0) (by rw [hlen0]; decide)
    rw [show Try.prog.cellsOf 25 = 1 by kernel_rfl, hs0_0] at h0_0
    have k0_0 : DataW.trod enc Try.prog w 0 (fun _ => true) true n0 25 [c0] = some _ := h0_0
    obtain ⟨x0, e0, _, w0⟩ := DataW.trod_int Try.underlying25 k0_0
    have q0 : c0 = .int .i64 x0 := by simpa using e0
    have h0_1 : DataW.trod enc Try.prog w 0 (fun _ => true) true n0 4 (List.take (Try.prog.cellsOf 4) (List.drop 1 [c0, c1, c2, c3, c4, c5])) = ys0[1]? := by have h := hg0 1 _ rfl; exact h
    have hs0_1 := List.getElem?_eq_getElem (l := ys0) (i := 1) (by rw [hlen0]; decide)
    rw [show Try.prog.cellsOf 4 = 1 by kernel_rfl, hs0_1] at h0_1
    have k0_1 : DataW.trod enc Try.prog w 0 (fun _ => true) true n0 4 [c1] = some _ := h0_1
    obtain ⟨x1, e1, _⟩ := DataW.trod_bool Try.underlying4 k0_1
    have q1 : c1 = .bool x1 := by simpa using e1
    have h0_2 : DataW.trod enc Try.prog w 0 (fun _ => true) true n0 28 (List.take (Try.prog.cellsOf 28) (List.drop 2 [c0, c1, c2, c3, c4, c5])) = ys0[2]? := by have h := hg0 2 _ rfl; exact h
    have hs0_2 := List.getElem?_eq_getElem (l := ys0) (i := 2) (by rw [hlen0]; decide)
    rw [show Try.prog.cellsOf 28 = 1 by kernel_rfl, hs0_2] at h0_2
    have k0_2 : DataW.trod enc Try.prog w 0 (fun _ => true) true n0 28 [c2] = some _ := h0_2
    obtain ⟨x2, e2, _, w2⟩ := DataW.trod_int Try.underlying28 k0_2
    have q2 : c2 = .int .u64 x2 := by simpa using e2
    have h0_3 : DataW.trod enc Try.prog w 0 (fun _ => true) true n0 4 (List.take (Try.prog.cellsOf 4) (List.drop 3 [c0, c1, c2, c3, c4, c5])) = ys0[3]? := by have h := hg0 3 _ rfl; exact h
    have hs0_3 := List.getElem?_eq_getElem (l := ys0) (i := 3) (by rw [hlen0]; decide)
    rw [show Try.prog.cellsOf 4 = 1 by kernel_rfl, hs0_3] at h0_3
    have k0_3 : DataW.trod enc Try.prog w 0 (fun _ => true) true n0 4 [c3] = some _ := h0_3
    obtain ⟨x3, e3, _⟩ := DataW.trod_bool Try.underlying4 k0_3
    have q3 : c3 = .bool x3 := by simpa using e3
    have h0_4 : DataW.trod enc Try.prog w 0 (fun _ => true) true n0 28 (List.take (Try.prog.cellsOf 28) (List.drop 4 [c0, c1, c2, c3, c4, c5])) = ys0[4]? := by have h := hg0 4 _ rfl; exact h
    have hs0_4 := List.getElem?_eq_getElem (l := ys0) (i := 4) (by rw [hlen0]; decide)
    rw [show Try.prog.cellsOf 28 = 1 by kernel_rfl, hs0_4] at h0_4
    have k0_4 : DataW.trod enc Try.prog w 0 (fun _ => true) true n0 28 [c4] = some _ := h0_4
    obtain ⟨x4, e4, _, w4⟩ := DataW.trod_int Try.underlying28 k0_4
    have q4 : c4 = .int .u64 x4 := by simpa using e4
    have h0_5 : DataW.trod enc Try.prog w 0 (fun _ => true) true n0 28 (List.take (Try.prog.cellsOf 28) (List.drop 5 [c0, c1, c2, c3, c4, c5])) = ys0[5]? := by have h := hg0 5 _ rfl; exact h
    have hs0_5 := List.getElem?_eq_getElem (l := ys0) (i := 5) (by rw [hlen0]; decide)
    rw [show Try.prog.cellsOf 28 = 1 by kernel_rfl, hs0_5] at h0_5
    have k0_5 : DataW.trod enc Try.prog w 0 (fun _ => true) true n0 28 [c5] = some _ := h0_5
    obtain ⟨x5, e5, _, w5⟩ := DataW.trod_int Try.underlying28 k0_5
    have q5 : c5 = .int .u64 x5 := by simpa using e5
    subst q0 q1 q2 q3 q4 q5
    exact ⟨(x0, x1, x2, x3, x4, x5), rfl, ⟨w0, w2, w4, w5⟩⟩
def DoD.ok (x : DoD) : Prop := (Lit.int .i64 x.1).wf = true ∧ (Lit.int .u64 x.2.1).wf = true ∧ (Lit.int .u64 x.2.2).wf = true
theorem eDo_dec {w : World} : Dec w 30 eDo DoD.ok := by
  refine ⟨by kernel_rfl, fun H enc fuel cs d h => ?_⟩
  obtain ⟨_, _, _, _, hl, _, _⟩ := DataW.trod_struct Try.underlying30 h
  rw [show Try.prog.cellsOf 30 = 3 by kernel_rfl] at hl
  match cs, hl with
  | [c0, c1, c2], _ =>
    obtain ⟨ys0, n0, _, _, _, hlen0, hg0⟩ := DataW.trod_struct Try.underlying30 h
    have h0_0 : DataW.trod enc Try.prog w 0 (fun _ => true) true n0 3 (List.take (Try.prog.cellsOf 3) (List.drop 0 [c0, c1, c2])) = ys0[0]? := by have h := hg0 0 _ rfl; exact h
    have hs0_0 := List.getElem?_eq_getElem (l := ys0) (i := 0) (by rw [hlen0]; decide)
    rw [show Try.prog.cellsOf 3 = 1 by kernel_rfl, hs0_0] at h0_0
    have k0_0 : DataW.trod enc Try.prog w 0 (fun _ => true) true n0 3 [c0] = some _ := h0_0
    obtain ⟨x0, e0, _, w0⟩ := DataW.trod_int Try.underlying3 k0_0
    have q0 : c0 = .int .i64 x0 := by simpa using e0
    have h0_1 : DataW.trod enc Try.prog w 0 (fun _ => true) true n0 28 (List.take (Try.prog.cellsOf 28) (List.drop 1 [c0, c1, c2])) = ys0[1]? := by have h := hg0 1 _ rfl; exact h
    have hs0_1 := List.getElem?_eq_getElem (l := ys0) (i := 1) (by rw [hlen0]; decide)
    rw [show Try.prog.cellsOf 28 = 1 by kernel_rfl, hs0_1] at h0_1
    have k0_1 : DataW.trod enc Try.prog w 0 (fun _ => true) true n0 28 [c1] = some _ := h0_1
    obtain ⟨x1, e1, _, w1⟩ := DataW.trod_int Try.underlying28 k0_1
    have q1 : c1 = .int .u64 x1 := by simpa using e1
    have h0_2 : DataW.trod enc Try.prog w 0 (fun _ => true) true n0 28 (List.take (Try.prog.cellsOf 28) (List.drop 2 [c0, c1, c2])) = ys0[2]? := by have h := hg0 2 _ rfl; exact h
    have hs0_2 := List.getElem?_eq_getElem (l := ys0) (i := 2) (by rw [hlen0]; decide)
    rw [show Try.prog.cellsOf 28 = 1 by kernel_rfl, hs0_2] at h0_2
    have k0_2 : DataW.trod enc Try.prog w 0 (fun _ => true) true n0 28 [c2] = some _ := h0_2
    obtain ⟨x2, e2, _, w2⟩ := DataW.trod_int Try.underlying28 k0_2
    have q2 : c2 = .int .u64 x2 := by simpa using e2
    subst q0 q1 q2
    exact ⟨(x0, x1, x2), rfl, ⟨w0, w1, w2⟩⟩
end Go.Proofs.Ytodacnpbhlkoiaa
