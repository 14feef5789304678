/- Structs that came in: from the datum to the encoding (printed by gen_enc.py). -/
import Derived.Test.YtkocfgaajghggaaDoorOpsEnc
import Derived.Test.YtkocfgaajghggaaDoorOpen
namespace Go.Proofs.YtkocfgaajghggaaDoor
open Go.RowKit
set_option linter.unusedVariables false

def InstD.ok (x : InstD) : Prop := (Lit.int .i64 x.1).wf = true ∧ (Lit.int .i64 x.2.1).wf = true ∧ (Lit.int .i64 x.2.2.1).wf = true ∧ (Lit.int .i64 x.2.2.2.1).wf = true ∧ (Lit.int .i64 x.2.2.2.2).wf = true
theorem eInst_dec {w : World} : Dec w 44 eInst InstD.ok := by
  refine ⟨by kernel_rfl, fun H enc fuel cs d h => ?_⟩
  obtain ⟨_, _, _, _, hl, _, _⟩ := DataW.trod_struct Tryd.underlying44 h
  rw [show Tryd.prog.cellsOf 44 = 5 by kernel_rfl] at hl
  match cs, hl with
  | [c0, c1, c2, c3, c4], _ =>
    obtain ⟨ys0, n0, _, _, _, hlen0, hg0⟩ := DataW.trod_struct Tryd.underlying44 h
    have h0_0 : DataW.trod enc Tryd.prog w 0 (fun _ => true) true n0 42 (List.take (Tryd.prog.cellsOf 42) (List.drop 0 [c0, c1, c2, c3, c4])) = ys0[0]? := by have h := hg0 0 _ rfl; exact h
    have hs0_0 := List.getElem?_eq_getElem (l := ys0) (i := 0) (by rw [hlen0]; decide)
    rw [show Tryd.prog.cellsOf 42 = 1 by kernel_rfl, hs0_0] at h0_0
    have k0_0 : DataW.trod enc Tryd.prog w 0 (fun _ => true) true n0 42 [c0] = some _ := h0_0
    obtain ⟨x0, e0, _, w0⟩ := DataW.trod_int Tryd.underlying42 k0_0
    have q0 : c0 = .int .i64 x0 := by simpa using e0
    have h0_1 : DataW.trod enc Tryd.prog w 0 (fun _ => true) true n0 3 (List.take (Tryd.prog.cellsOf 3) (List.drop 1 [c0, c1, c2, c3, c4])) = ys0[1]? := by have h := hg0 1 _ rfl; exact h
    have hs0_1 := List.getElem?_eq_getElem (l := ys0) (i := 1) (by rw [hlen0]; decide)
    rw [show Tryd.prog.cellsOf 3 = 1 by kernel_rfl, hs0_1] at h0_1
    have k0_1 : DataW.trod enc Tryd.prog w 0 (fun _ => true) true n0 3 [c1] = some _ := h0_1
    obtain ⟨x1, e1, _, w1⟩ := DataW.trod_int Tryd.underlying3 k0_1
    have q1 : c1 = .int .i64 x1 := by simpa using e1
    have h0_2 : DataW.trod enc Tryd.prog w 0 (fun _ => true) true n0 3 (List.take (Tryd.prog.cellsOf 3) (List.drop 2 [c0, c1, c2, c3, c4])) = ys0[2]? := by have h := hg0 2 _ rfl; exact h
    have hs0_2 := List.getElem?_eq_getElem (l := ys0) (i := 2) (by rw [hlen0]; decide)
    rw [show Tryd.prog.cellsOf 3 = 1 by kernel_rfl, hs0_2] at h0_2
    have k0_2 : DataW.trod enc Tryd.prog w 0 (fun _ => true) true n0 3 [c2] = some _ := h0_2
    obtain ⟨x2, e2, _, w2⟩ := DataW.trod_int Tryd.underlying3 k0_2
    have q2 : c2 = .int .i64 x2 := by simpa using e2
    have h0_3 : DataW.trod enc Tryd.prog w 0 (fun _ => true) true n0 3 (List.take (Tryd.prog.cellsOf 3) (List.drop 3 [c0, c1, c2, c3, c4])) = ys0[3]? := by have h := hg0 3 _ rfl; exact h
    have hs0_3 := List.getElem?_eq_getElem (l := ys0) (i := 3) (by rw [hlen0]; decide)
    rw [show Tryd.prog.cellsOf 3 = 1 by kernel_rfl, hs0_3] at h0_3
    have k0_3 : DataW.trod enc Tryd.prog w 0 (fun _ => true) true n0 3 [c3] = some _ := h0_3
    obtain ⟨x3, e3, _, w3⟩ := DataW.trod_int Tryd.underlying3 k0_3
    have q3 : c3 = .int .i64 x3 := by simpa using e3
    have h0_4 : DataW.trod enc Tryd.prog w 0 (fun _ => true) true n0 2 (List.take (Tryd.prog.cellsOf 2) (List.drop 4 [c0, c1, c2, c3, c4])) = ys0[4]? := by have h := hg0 4 _ rfl; exact h
    have hs0_4 := List.getElem?_eq_getElem (l := ys0) (i := 4) (by rw [hlen0]; decide)
    rw [show Tryd.prog.cellsOf 2 = 1 by kernel_rfl, hs0_4] at h0_4
    have k0_4 : DataW.trod enc Tryd.prog w 0 (fun _ => true) true n0 2 [c4] = some _ := h0_4
    obtain ⟨x4, e4, _, w4⟩ := DataW.trod_int Tryd.underlying2 k0_4
    have q4 : c4 = .int .i64 x4 := by simpa using e4
    subst q0 q1 q2 q3 q4
    exact ⟨(x0, x1, x2, x3, x4), rfl, ⟨w0, w1, w2, w3, w4⟩⟩
end Go.Proofs.YtkocfgaajghggaaDoor
