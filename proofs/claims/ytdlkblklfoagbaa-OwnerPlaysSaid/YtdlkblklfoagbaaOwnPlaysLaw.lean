/- The law OwnerPlays, joined. -/
import Derived.Test.YtdlkblklfoagbaaOwnPlays
namespace Go.Proofs.Ytdlkblklfoagbaa
open Go.RowKit Go.WideShapes
set_option linter.unusedVariables false

set_option maxRecDepth 100000 in
theorem eOp_dec {w : World} : Dec w 59 eOp (OpL w) := by
  refine ⟨by kernel_rfl, fun H enc fuel cs d h => ?_⟩
  obtain ⟨_, _, _, _, hl, _, _⟩ := DataW.trod_struct Try.underlying59 h
  rw [show Try.prog.cellsOf 59 = 3 by kernel_rfl] at hl
  match cs, hl with
  | [c0, c1, c2], _ =>
    obtain ⟨ys0, n0, _, hd0, _, hlen0, hg0⟩ := DataW.trod_struct Try.underlying59 h
    have h0_0 : DataW.trod enc Try.prog w 0 (fun _ => true) true n0 3 (List.take (Try.prog.cellsOf 3) (List.drop 0 [c0, c1, c2])) = ys0[0]? := by have h := hg0 0 _ rfl; exact h
    have hs0_0 := List.getElem?_eq_getElem (l := ys0) (i := 0) (by rw [hlen0]; decide)
    rw [show Try.prog.cellsOf 3 = 1 by kernel_rfl, hs0_0] at h0_0
    have k0_0 : DataW.trod enc Try.prog w 0 (fun _ => true) true n0 3 [c0] = some _ := h0_0
    obtain ⟨x0, e0, _, w0⟩ := DataW.trod_int Try.underlying3 k0_0
    have q0 : c0 = .int .i64 x0 := by simpa using e0
    have h0_1 : DataW.trod enc Try.prog w 0 (fun _ => true) true n0 3 (List.take (Try.prog.cellsOf 3) (List.drop 1 [c0, c1, c2])) = ys0[1]? := by have h := hg0 1 _ rfl; exact h
    have hs0_1 := List.getElem?_eq_getElem (l := ys0) (i := 1) (by rw [hlen0]; decide)
    rw [show Try.prog.cellsOf 3 = 1 by kernel_rfl, hs0_1] at h0_1
    have k0_1 : DataW.trod enc Try.prog w 0 (fun _ => true) true n0 3 [c1] = some _ := h0_1
    obtain ⟨x1, e1, _, w1⟩ := DataW.trod_int Try.underlying3 k0_1
    have q1 : c1 = .int .i64 x1 := by simpa using e1
    have h0_2 : DataW.trod enc Try.prog w 0 (fun _ => true) true n0 25 (List.take (Try.prog.cellsOf 25) (List.drop 2 [c0, c1, c2])) = ys0[2]? := by have h := hg0 2 _ rfl; exact h
    have hs0_2 := List.getElem?_eq_getElem (l := ys0) (i := 2) (by rw [hlen0]; decide)
    rw [show Try.prog.cellsOf 25 = 1 by kernel_rfl, hs0_2] at h0_2
    have k0_2 : DataW.trod enc Try.prog w 0 (fun _ => true) true n0 25 [c2] = some _ := h0_2
    obtain ⟨x2, q2⟩ : ∃ x : Option Addr × Nat × Nat, c2 = .slice x.1 x.2.1 x.2.2 := by
      rcases DataW.trod_slice Try.underlying25 k0_2 with ⟨e, _⟩ | ⟨a, l, c, _, _, _, _, e, _⟩
      · exact ⟨(none, 0, 0), by simpa using e⟩
      · exact ⟨(some a, l, c), by simpa using e⟩
    subst q0 q1 q2
    have hb2 : 2 < ys0.length := by rw [hlen0]; decide
    have ht2 : DataW.Trod enc Try.prog w 0 (fun _ => true) true 25 (.slice x2.1 x2.2.1 x2.2.2) ys0[2].1 ys0[2].2 := ⟨n0, k0_2⟩
    obtain ⟨qs, hr2, _, hv2, _⟩ := open_rd (E := eReq) Try.underlying25 eReq_dec ht2
    exact ⟨(x0, x1, x2), rfl, qs, hr2, fun q hq => bounds_u64 (hv2 q hq).2.2.2.2.1⟩
theorem ownerPlays_any (x : ShapeX) (ops : List OpD) (v : Value) (w : World) (hx : ShapeX.ok w x) (hv : Rd eOp w v ops) (hl : ops.length * 40 ≤ 140737488351232) (ho : ∀ o ∈ ops, OpL w o) :
    Calls Try.prog 5 #[x.v, v] w fun e w' => e = .returned (.bool true) ∧ Below w.heap.size w w' := by
  obtain ⟨ds, hr, hds, _⟩ := hx
  cases h : okOwn x.sd x.n ds with
  | false => exact (ownerPlays_bad x.sd x.n x.vm ds v w hr hds h).mono fun e w' ⟨he, ho⟩ => ⟨he, ho.below (Nat.le_refl _) fun _ h => h.elim⟩
  | true => exact (ownerPlays_yes x.sd x.n x.vm ds ops v w hr hds h hv ho).mono fun e w' ⟨he, ho⟩ => ⟨he, ho.below (Nat.le_refl _) fun _ h => h.elim⟩
end Go.Proofs.Ytdlkblklfoagbaa
