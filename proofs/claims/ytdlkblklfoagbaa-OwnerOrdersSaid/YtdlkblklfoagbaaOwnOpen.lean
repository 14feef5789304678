/- owner: an owner's shape that came in by value: from the datum. -/
import Derived.Test.YtdlkblklfoagbaaOwnDec
import Derived.SizedLaws
namespace Go.Proofs.Ytdlkblklfoagbaa
open Go.RowKit Go.ChangeShapes Go.WideShapes Go.ChangeAt
set_option linter.unusedVariables false
set_option linter.unusedSimpArgs false

structure ShapeX where
  sd : Int
  n : Int
  vm : Value
def ShapeX.v (x : ShapeX) : Value := .agg #[.int .i64 x.sd, .int .i64 x.n, x.vm]
def ShapeX.ok (w : World) (x : ShapeX) : Prop := ∃ ds, Rd eDef w x.vm ds ∧ ds.length * 16 ≤ 140737488351232 ∧ (∀ d ∈ ds, DefD.ok d) ∧ (Lit.int .i64 x.sd).wf = true ∧ (Lit.int .i64 x.n).wf = true
theorem sizedAt {H : Type} {P : Program} {ts : List TypeId} {ds : List (DataW H)} (h : (DataW.weightsEach P ts ds).all (· ≤ reachBytes) = true) (j : Nat) {t : TypeId} {d : DataW H} (ht : ts[j]? = some t) (hd : ds[j]? = some d) : ∀ n ∈ d.weights P t, n ≤ reachBytes := fun n hn => by
  have := List.all_eq_true.1 h n (DataW.weights_mem_each ht hd n hn)
  simpa using this
set_option maxRecDepth 100000 in
theorem open_shape {H : Type} {enc : TypeId × Value → H} {w : World} {r : Reach} {base : Nat} {v : Value} {d : DataW H} {p : List MemPlace}
    (ho : Value.okWide Try.prog w r base 24 v) (h : DataW.Trod enc Try.prog w 0 (fun _ => true) true 24 v d p) (hw : ∀ n ∈ d.weights Try.prog 24, n ≤ reachBytes) : ∃ x : ShapeX, v = x.v ∧ ShapeX.ok w x := by
  obtain ⟨cs, rfl, _⟩ := okWide_struct Try.underlying24 ho
  obtain ⟨fuel, hf⟩ := h
  obtain ⟨_, _, _, _, hl, _, _⟩ := DataW.trod_struct Try.underlying24 hf
  rw [show Try.prog.cellsOf 24 = 3 by kernel_rfl] at hl
  obtain ⟨cs⟩ := cs
  simp only [Value.cells] at hf hl
  match cs, hl with
  | [c0, c1, c2], _ =>
    obtain ⟨ys0, n0, _, hd0, _, hlen0, hg0⟩ := DataW.trod_struct Try.underlying24 hf
    have h0_0 : DataW.trod enc Try.prog w 0 (fun _ => true) true n0 3 (List.take (Try.prog.cellsOf 3) (List.drop 0 [c0, c1, c2])) = ys0[0]? := by have h := hg0 0 _ rfl; exact h
    have hs0_0 := List.getElem?_eq_getElem (l := ys0) (i := 0) (by rw [hlen0]; decide)
    rw [show Try.prog.cellsOf 3 = 1 by kernel_rfl, hs0_0] at h0_0
    have k0_0 : DataW.trod enc Try.prog w 0 (fun _ => true) true n0 3 [c0] = some _ := h0_0
    obtain ⟨x0, e0, _, w0⟩ := DataW.trod_int Try.underlying3 k0_0
    have q0 : c0 = .int .i64 x0 := by simpa using e0
    have h0_1 : DataW.trod enc Try.prog w 0 (fun _ => true) true n0 3 (List.take (Try.prog.cellsOf 3) (List.drop 1 [c0, c1, c2])) = ys0[1]? := by have h := hg0 1 _ rfl; exact h
    have hs0_1 := List.getElem?_eq_getElem (l := ys0) (i := 1) (by rw [hlen0]; decide)
    rw [show Try.prog.cellsOf 3 = 1 by kernel_rfl, hs0_1] at h0_1
    have k0_1 : DataW.trod enc Try.prog w 0 (fun _ => true) true n0 3 [c1] = some _ := h0_1
    obtain ⟨x1, e1, _, w1⟩ := DataW.trod_int Try.underlying3 k0_1
    have q1 : c1 = .int .i64 x1 := by simpa using e1
    have h0_2 : DataW.trod enc Try.prog w 0 (fun _ => true) true n0 22 (List.take (Try.prog.cellsOf 22) (List.drop 2 [c0, c1, c2])) = ys0[2]? := by have h := hg0 2 _ rfl; exact h
    have hs0_2 := List.getElem?_eq_getElem (l := ys0) (i := 2) (by rw [hlen0]; decide)
    rw [show Try.prog.cellsOf 22 = 1 by kernel_rfl, hs0_2] at h0_2
    have k0_2 : DataW.trod enc Try.prog w 0 (fun _ => true) true n0 22 [c2] = some _ := h0_2
    obtain ⟨x2, q2⟩ : ∃ x : Option Addr × Nat × Nat, c2 = .slice x.1 x.2.1 x.2.2 := by
      rcases DataW.trod_slice Try.underlying22 k0_2 with ⟨e, _⟩ | ⟨a, l, c, _, _, _, _, e, _⟩
      · exact ⟨(none, 0, 0), by simpa using e⟩
      · exact ⟨(some a, l, c), by simpa using e⟩
    subst q0 q1 q2
    have hb2 : 2 < ys0.length := by rw [hlen0]; decide
    obtain ⟨hd1, _⟩ : d = .agg (ys0.map (·.1)) ∧ p = _ := by simpa using hd0
    have hw2 : ∀ n ∈ (ys0[2].1).weights Try.prog 22, n ≤ reachBytes := fun n hn => by
      rw [hd1] at hw
      apply hw
      simp only [DataW.weights, Try.underlying24]
      refine DataW.weights_mem_each (j := 2) (t := 22) (d := ys0[2].1) rfl ?_ n hn
      rw [List.getElem?_map, List.getElem?_eq_getElem hb2]; rfl
    have ht2 : DataW.Trod enc Try.prog w 0 (fun _ => true) true 22 (.slice x2.1 x2.2.1 x2.2.2) ys0[2].1 ys0[2].2 := ⟨n0, k0_2⟩
    obtain ⟨ds, hr2, hl2, hv2, hz2⟩ := open_rd (E := eDef) Try.underlying22 eDef_dec ht2
    refine ⟨⟨x0, x1, _⟩, rfl, ds, hr2, ?_, hv2, w0, w1⟩
    rcases hz2 with ⟨_, h, _⟩ | ⟨el, sp, hde, h, _⟩
    · rw [hl2, h]; decide
    · rw [hde] at hw2
      have h1 := hw2 ((el.length + sp.length) * Try.prog.bytesOf 77) (by simp only [DataW.weights, Try.underlying22]; exact List.mem_cons_self)
      rw [show Try.prog.bytesOf 77 = 16 by kernel_rfl] at h1
      unfold reachBytes at h1
      omega
end Go.Proofs.Ytdlkblklfoagbaa
