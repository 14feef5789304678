/- Structs that came in: from the datum to the encoding (printed by gen_enc.py). -/
import Derived.Test.YtdlkblklfoagbaaOwnEnc
import Derived.Test.YtdlkblklfoagbaaMH
namespace Go.Proofs.Ytdlkblklfoagbaa
open Go.RowKit
set_option linter.unusedVariables false

def ItemD.ok (x : ItemD) : Prop := (Lit.int .i64 x.1).wf = true ∧ (Lit.int .i64 x.2.1).wf = true ∧ (Lit.int .u64 x.2.2.1).wf = true ∧ (Lit.int .u64 x.2.2.2).wf = true
set_option maxRecDepth 100000 in
theorem eItem_dec {w : World} : Dec w 35 eItem ItemD.ok := by
  refine ⟨by kernel_rfl, fun H enc fuel cs d h => ?_⟩
  obtain ⟨_, _, _, _, hl, _, _⟩ := DataW.trod_struct Try.underlying35 h
  rw [show Try.prog.cellsOf 35 = 4 by kernel_rfl] at hl
  match cs, hl with
  | [c0, c1, c2, c3], _ =>
    obtain ⟨ys0, n0, _, _, _, hlen0, hg0⟩ := DataW.trod_struct Try.underlying35 h
    have h0_0 : DataW.trod enc Try.prog w 0 (fun _ => true) true n0 3 (List.take (Try.prog.cellsOf 3) (List.drop 0 [c0, c1, c2, c3])) = ys0[0]? := by have h := hg0 0 _ rfl; exact h
    have hs0_0 := List.getElem?_eq_getElem (l := ys0) (i := 0) (by rw [hlen0]; decide)
    rw [show Try.prog.cellsOf 3 = 1 by kernel_rfl, hs0_0] at h0_0
    have k0_0 : DataW.trod enc Try.prog w 0 (fun _ => true) true n0 3 [c0] = some _ := h0_0
    obtain ⟨x0, e0, _, w0⟩ := DataW.trod_int Try.underlying3 k0_0
    have q0 : c0 = .int .i64 x0 := by simpa using e0
    have h0_1 : DataW.trod enc Try.prog w 0 (fun _ => true) true n0 32 (List.take (Try.prog.cellsOf 32) (List.drop 1 [c0, c1, c2, c3])) = ys0[1]? := by have h := hg0 1 _ rfl; exact h
    have hs0_1 := List.getElem?_eq_getElem (l := ys0) (i := 1) (by rw [hlen0]; decide)
    rw [show Try.prog.cellsOf 32 = 1 by kernel_rfl, hs0_1] at h0_1
    have k0_1 : DataW.trod enc Try.prog w 0 (fun _ => true) true n0 32 [c1] = some _ := h0_1
    obtain ⟨x1, e1, _, w1⟩ := DataW.trod_int Try.underlying32 k0_1
    have q1 : c1 = .int .i64 x1 := by simpa using e1
    have h0_2 : DataW.trod enc Try.prog w 0 (fun _ => true) true n0 33 (List.take (Try.prog.cellsOf 33) (List.drop 2 [c0, c1, c2, c3])) = ys0[2]? := by have h := hg0 2 _ rfl; exact h
    have hs0_2 := List.getElem?_eq_getElem (l := ys0) (i := 2) (by rw [hlen0]; decide)
    rw [show Try.prog.cellsOf 33 = 1 by kernel_rfl, hs0_2] at h0_2
    have k0_2 : DataW.trod enc Try.prog w 0 (fun _ => true) true n0 33 [c2] = some _ := h0_2
    obtain ⟨x2, e2, _, w2⟩ := DataW.trod_int Try.underlying33 k0_2
    have q2 : c2 = .int .u64 x2 := by simpa using e2
    have h0_3 : DataW.trod enc Try.prog w 0 (fun _ => true) true n0 33 (List.take (Try.prog.cellsOf 33) (List.drop 3 [c0, c1, c2, c3])) = ys0[3]? := by have h := hg0 3 _ rfl; exact h
    have hs0_3 := List.getElem?_eq_getElem (l := ys0) (i := 3) (by rw [hlen0]; decide)
    rw [show Try.prog.cellsOf 33 = 1 by kernel_rfl, hs0_3] at h0_3
    have k0_3 : DataW.trod enc Try.prog w 0 (fun _ => true) true n0 33 [c3] = some _ := h0_3
    obtain ⟨x3, e3, _, w3⟩ := DataW.trod_int Try.underlying33 k0_3
    have q3 : c3 = .int .u64 x3 := by simpa using e3
    subst q0 q1 q2 q3
    exact ⟨(x0, x1, x2, x3), rfl, ⟨w0, w1, w2, w3⟩⟩
def DefD.ok (x : DefD) : Prop := (Lit.int .i64 x.1).wf = true ∧ (Lit.int .i64 x.2).wf = true
set_option maxRecDepth 100000 in
theorem eDef_dec {w : World} : Dec w 77 eDef DefD.ok := by
  refine ⟨by kernel_rfl, fun H enc fuel cs d h => ?_⟩
  obtain ⟨_, _, _, _, hl, _, _⟩ := DataW.trod_struct Try.underlying77 h
  rw [show Try.prog.cellsOf 77 = 2 by kernel_rfl] at hl
  match cs, hl with
  | [c0, c1], _ =>
    obtain ⟨ys0, n0, _, _, _, hlen0, hg0⟩ := DataW.trod_struct Try.underlying77 h
    have h0_0 : DataW.trod enc Try.prog w 0 (fun _ => true) true n0 75 (List.take (Try.prog.cellsOf 75) (List.drop 0 [c0, c1])) = ys0[0]? := by have h := hg0 0 _ rfl; exact h
    have hs0_0 := List.getElem?_eq_getElem (l := ys0) (i := 0) (by rw [hlen0]; decide)
    rw [show Try.prog.cellsOf 75 = 1 by kernel_rfl, hs0_0] at h0_0
    have k0_0 : DataW.trod enc Try.prog w 0 (fun _ => true) true n0 75 [c0] = some _ := h0_0
    obtain ⟨x0, e0, _, w0⟩ := DataW.trod_int Try.underlying75 k0_0
    have q0 : c0 = .int .i64 x0 := by simpa using e0
    have h0_1 : DataW.trod enc Try.prog w 0 (fun _ => true) true n0 3 (List.take (Try.prog.cellsOf 3) (List.drop 1 [c0, c1])) = ys0[1]? := by have h := hg0 1 _ rfl; exact h
    have hs0_1 := List.getElem?_eq_getElem (l := ys0) (i := 1) (by rw [hlen0]; decide)
    rw [show Try.prog.cellsOf 3 = 1 by kernel_rfl, hs0_1] at h0_1
    have k0_1 : DataW.trod enc Try.prog w 0 (fun _ => true) true n0 3 [c1] = some _ := h0_1
    obtain ⟨x1, e1, _, w1⟩ := DataW.trod_int Try.underlying3 k0_1
    have q1 : c1 = .int .i64 x1 := by simpa using e1
    subst q0 q1
    exact ⟨(x0, x1), rfl, ⟨w0, w1⟩⟩
def ReqD.ok (x : ReqD) : Prop := (Lit.int .i64 x.1).wf = true ∧ (Lit.int .i64 x.2.1).wf = true ∧ (Lit.int .i64 x.2.2.2.1).wf = true ∧ (Lit.int .i64 x.2.2.2.2.1).wf = true ∧ (Lit.int .u64 x.2.2.2.2.2.1).wf = true ∧ (Lit.int .u64 x.2.2.2.2.2.2).wf = true
set_option maxRecDepth 100000 in
theorem eReq_dec {w : World} : Dec w 37 eReq ReqD.ok := by
  refine ⟨by kernel_rfl, fun H enc fuel cs d h => ?_⟩
  obtain ⟨_, _, _, _, hl, _, _⟩ := DataW.trod_struct Try.underlying37 h
  rw [show Try.prog.cellsOf 37 = 7 by kernel_rfl] at hl
  match cs, hl with
  | [c0, c1, c2, c3, c4, c5, c6], _ =>
    obtain ⟨ys0, n0, _, _, _, hlen0, hg0⟩ := DataW.trod_struct Try.underlying37 h
    have h0_0 : DataW.trod enc Try.prog w 0 (fun _ => true) true n0 3 (List.take (Try.prog.cellsOf 3) (List.drop 0 [c0, c1, c2, c3, c4, c5, c6])) = ys0[0]? := by have h := hg0 0 _ rfl; exact h
    have hs0_0 := List.getElem?_eq_getElem (l := ys0) (i := 0) (by rw [hlen0]; decide)
    rw [show Try.prog.cellsOf 3 = 1 by kernel_rfl, hs0_0] at h0_0
    have k0_0 : DataW.trod enc Try.prog w 0 (fun _ => true) true n0 3 [c0] = some _ := h0_0
    obtain ⟨x0, e0, _, w0⟩ := DataW.trod_int Try.underlying3 k0_0
    have q0 : c0 = .int .i64 x0 := by simpa using e0
    have h0_1 : DataW.trod enc Try.prog w 0 (fun _ => true) true n0 3 (List.take (Try.prog.cellsOf 3) (List.drop 1 [c0, c1, c2, c3, c4, c5, c6])) = ys0[1]? := by have h := hg0 1 _ rfl; exact h
    have hs0_1 := List.getElem?_eq_getElem (l := ys0) (i := 1) (by rw [hlen0]; decide)
    rw [show Try.prog.cellsOf 3 = 1 by kernel_rfl, hs0_1] at h0_1
    have k0_1 : DataW.trod enc Try.prog w 0 (fun _ => true) true n0 3 [c1] = some _ := h0_1
    obtain ⟨x1, e1, _, w1⟩ := DataW.trod_int Try.underlying3 k0_1
    have q1 : c1 = .int .i64 x1 := by simpa using e1
    have h0_2 : DataW.trod enc Try.prog w 0 (fun _ => true) true n0 4 (List.take (Try.prog.cellsOf 4) (List.drop 2 [c0, c1, c2, c3, c4, c5, c6])) = ys0[2]? := by have h := hg0 2 _ rfl; exact h
    have hs0_2 := List.getElem?_eq_getElem (l := ys0) (i := 2) (by rw [hlen0]; decide)
    rw [show Try.prog.cellsOf 4 = 1 by kernel_rfl, hs0_2] at h0_2
    have k0_2 : DataW.trod enc Try.prog w 0 (fun _ => true) true n0 4 [c2] = some _ := h0_2
    obtain ⟨x2, e2, _⟩ := DataW.trod_bool Try.underlying4 k0_2
    have q2 : c2 = .bool x2 := by simpa using e2
    have h0_3 : DataW.trod enc Try.prog w 0 (fun _ => true) true n0 35 (List.take (Try.prog.cellsOf 35) (List.drop 3 [c0, c1, c2, c3, c4, c5, c6])) = ys0[3]? := by have h := hg0 3 _ rfl; exact h
    have hs0_3 := List.getElem?_eq_getElem (l := ys0) (i := 3) (by rw [hlen0]; decide)
    rw [show Try.prog.cellsOf 35 = 4 by kernel_rfl, hs0_3] at h0_3
    have k0_3 : DataW.trod enc Try.prog w 0 (fun _ => true) true n0 35 [c3, c4, c5, c6] = some _ := h0_3
    obtain ⟨ys1, n1, _, _, _, hlen1, hg1⟩ := DataW.trod_struct Try.underlying35 k0_3
    have h1_0 : DataW.trod enc Try.prog w 0 (fun _ => true) true n1 3 (List.take (Try.prog.cellsOf 3) (List.drop 0 [c3, c4, c5, c6])) = ys1[0]? := by have h := hg1 0 _ rfl; exact h
    have hs1_0 := List.getElem?_eq_getElem (l := ys1) (i := 0) (by rw [hlen1]; decide)
    rw [show Try.prog.cellsOf 3 = 1 by kernel_rfl, hs1_0] at h1_0
    have k1_0 : DataW.trod enc Try.prog w 0 (fun _ => true) true n1 3 [c3] = some _ := h1_0
    obtain ⟨x3, e3, _, w3⟩ := DataW.trod_int Try.underlying3 k1_0
    have q3 : c3 = .int .i64 x3 := by simpa using e3
    have h1_1 : DataW.trod enc Try.prog w 0 (fun _ => true) true n1 32 (List.take (Try.prog.cellsOf 32) (List.drop 1 [c3, c4, c5, c6])) = ys1[1]? := by have h := hg1 1 _ rfl; exact h
    have hs1_1 := List.getElem?_eq_getElem (l := ys1) (i := 1) (by rw [hlen1]; decide)
    rw [show Try.prog.cellsOf 32 = 1 by kernel_rfl, hs1_1] at h1_1
    have k1_1 : DataW.trod enc Try.prog w 0 (fun _ => true) true n1 32 [c4] = some _ := h1_1
    obtain ⟨x4, e4, _, w4⟩ := DataW.trod_int Try.underlying32 k1_1
    have q4 : c4 = .int .i64 x4 := by simpa using e4
    have h1_2 : DataW.trod enc Try.prog w 0 (fun _ => true) true n1 33 (List.take (Try.prog.cellsOf 33) (List.drop 2 [c3, c4, c5, c6])) = ys1[2]? := by have h := hg1 2 _ rfl; exact h
    have hs1_2 := List.getElem?_eq_getElem (l := ys1) (i := 2) (by rw [hlen1]; decide)
    rw [show Try.prog.cellsOf 33 = 1 by kernel_rfl, hs1_2] at h1_2
    have k1_2 : DataW.trod enc Try.prog w 0 (fun _ => true) true n1 33 [c5] = some _ := h1_2
    obtain ⟨x5, e5, _, w5⟩ := DataW.trod_int Try.underlying33 k1_2
    have q5 : c5 = .int .u64 x5 := by simpa using e5
    have h1_3 : DataW.trod enc Try.prog w 0 (fun _ => true) true n1 33 (List.take (Try.prog.cellsOf 33) (List.drop 3 [c3, c4, c5, c6])) = ys1[3]? := by have h := hg1 3 _ rfl; exact h
    have hs1_3 := List.getElem?_eq_getElem (l := ys1) (i := 3) (by rw [hlen1]; decide)
    rw [show Try.prog.cellsOf 33 = 1 by kernel_rfl, hs1_3] at h1_3
    have k1_3 : DataW.trod enc Try.prog w 0 (fun _ => true) true n1 33 [c6] = some _ := h1_3
    obtain ⟨x6, e6, _, w6⟩ := DataW.trod_int Try.underlying33 k1_3
    have q6 : c6 = .int .u64 x6 := by simpa using e6
    subst q0 q1 q2 q3 q4 q5 q6
    exact ⟨(x0, x1, x2, x3, x4, x5, x6), rfl, ⟨w0, w1, w3, w4, w5, w6⟩⟩
end Go.Proofs.Ytdlkblklfoagbaa
