/- wire: a module that came in by value: from the datum. -/
import Derived.Test.YtkocfgaajghggaaDoorWireDecodes
import Derived.Test.YtkocfgaajghggaaDoorOpsDec
import Derived.SizedLaws
namespace Go.Proofs.YtkocfgaajghggaaDoor
open Go.RowKit Go.ChangeShapes Go.WideShapes Go.ChangeAt
set_option linter.unusedVariables false
set_option linter.unusedSimpArgs false

structure ModX where
  vm : Value
  vc : Value
def ModX.v (x : ModX) : Value := .agg #[x.vm, x.vc]
def ModX.ok (w : World) (x : ModX) : Prop := ∃ ms cs, Rd (eInt .i64) w x.vm ms ∧ Rd eInst w x.vc cs ∧ ms.length * 8 ≤ 140737488351232 ∧ cs.length * 40 ≤ 140737488351232 ∧ (∀ m ∈ ms, (Lit.int .i64 m).wf = true) ∧ ∀ i ∈ cs, InstD.ok i
theorem sizedAt {H : Type} {P : Program} {ts : List TypeId} {ds : List (DataW H)} (h : (DataW.weightsEach P ts ds).all (· ≤ reachBytes) = true) (j : Nat) {t : TypeId} {d : DataW H} (ht : ts[j]? = some t) (hd : ds[j]? = some d) : ∀ n ∈ d.weights P t, n ≤ reachBytes := fun n hn => by
  have := List.all_eq_true.1 h n (DataW.weights_mem_each ht hd n hn)
  simpa using this
theorem open_mod {H : Type} {enc : TypeId × Value → H} {w : World} {r : Reach} {base : Nat} {v : Value} {d : DataW H} {p : List MemPlace}
    (ho : Value.okWide Tryd.prog w r base 25 v) (h : DataW.Trod enc Tryd.prog w 0 (fun _ => true) true 25 v d p) (hw : ∀ n ∈ d.weights Tryd.prog 25, n ≤ reachBytes) : ∃ x : ModX, v = x.v ∧ ModX.ok w x := by
  obtain ⟨cs, rfl, _⟩ := okWide_struct Tryd.underlying25 ho
  obtain ⟨fuel, hf⟩ := h
  obtain ⟨_, _, _, _, hl, _, _⟩ := DataW.trod_struct Tryd.underlying25 hf
  rw [show Tryd.prog.cellsOf 25 = 2 by kernel_rfl] at hl
  obtain ⟨cs⟩ := cs
  simp only [Value.cells] at hf hl
  match cs, hl with
  | [c0, c1], _ =>
    obtain ⟨ys0, n0, _, hd0, _, hlen0, hg0⟩ := DataW.trod_struct Tryd.underlying25 hf
    have h0_0 : DataW.trod enc Tryd.prog w 0 (fun _ => true) true n0 22 (List.take (Tryd.prog.cellsOf 22) (List.drop 0 [c0, c1])) = ys0[0]? := by have h := hg0 0 _ rfl; exact h
    have hs0_0 := List.getElem?_eq_getElem (l := ys0) (i := 0) (by rw [hlen0]; decide)
    rw [show Tryd.prog.cellsOf 22 = 1 by kernel_rfl, hs0_0] at h0_0
    have k0_0 : DataW.trod enc Tryd.prog w 0 (fun _ => true) true n0 22 [c0] = some _ := h0_0
    have h0_1 : DataW.trod enc Tryd.prog w 0 (fun _ => true) true n0 23 (List.take (Tryd.prog.cellsOf 23) (List.drop 1 [c0, c1])) = ys0[1]? := by have h := hg0 1 _ rfl; exact h
    have hs0_1 := List.getElem?_eq_getElem (l := ys0) (i := 1) (by rw [hlen0]; decide)
    rw [show Tryd.prog.cellsOf 23 = 1 by kernel_rfl, hs0_1] at h0_1
    have k0_1 : DataW.trod enc Tryd.prog w 0 (fun _ => true) true n0 23 [c1] = some _ := h0_1
    obtain ⟨x0, q0⟩ : ∃ x : Option Addr × Nat × Nat, c0 = .slice x.1 x.2.1 x.2.2 := by
      rcases DataW.trod_slice Tryd.underlying22 k0_0 with ⟨e, _⟩ | ⟨a, l, c, _, _, _, _, e, _⟩
      · exact ⟨(none, 0, 0), by simpa using e⟩
      · exact ⟨(some a, l, c), by simpa using e⟩
    obtain ⟨x1, q1⟩ : ∃ x : Option Addr × Nat × Nat, c1 = .slice x.1 x.2.1 x.2.2 := by
      rcases DataW.trod_slice Tryd.underlying23 k0_1 with ⟨e, _⟩ | ⟨a, l, c, _, _, _, _, e, _⟩
      · exact ⟨(none, 0, 0), by simpa using e⟩
      · exact ⟨(some a, l, c), by simpa using e⟩
    subst q0 q1
    have hb0 : 0 < ys0.length := by rw [hlen0]; decide
    have hb1 : 1 < ys0.length := by rw [hlen0]; decide
    obtain ⟨hd1, _⟩ : d = .agg (ys0.map (·.1)) ∧ p = _ := by simpa using hd0
    have hwj : ∀ (j : Nat) (t : TypeId) (hj : j < ys0.length), (Tryd.prog.underlying 25).isSome = true → [22, 23][j]? = some t → ∀ n ∈ (ys0[j].1).weights Tryd.prog t, n ≤ reachBytes := fun j t hj _ ht n hn => by
      rw [hd1] at hw
      apply hw
      simp only [DataW.weights, Tryd.underlying25]
      refine DataW.weights_mem_each (j := j) (t := t) (d := ys0[j].1) ht ?_ n hn
      rw [List.getElem?_map, List.getElem?_eq_getElem hj]; rfl
    have hw0 := hwj 0 22 (by rw [hlen0]; decide) (by rw [Tryd.underlying25]; rfl) rfl
    have hw1 := hwj 1 23 (by rw [hlen0]; decide) (by rw [Tryd.underlying25]; rfl) rfl
    have ht0 : DataW.Trod enc Tryd.prog w 0 (fun _ => true) true 22 (.slice x0.1 x0.2.1 x0.2.2) ys0[0].1 ys0[0].2 := ⟨n0, k0_0⟩
    have ht1 : DataW.Trod enc Tryd.prog w 0 (fun _ => true) true 23 (.slice x1.1 x1.2.1 x1.2.2) ys0[1].1 ys0[1].2 := ⟨n0, k0_1⟩
    obtain ⟨ms, hr0, hl0, hv0, hz0⟩ := open_rd (E := eInt .i64) Tryd.underlying22 (dec_int Tryd.underlying3 (by kernel_rfl)) ht0
    obtain ⟨cs, hr1, hl1, hv1, hz1⟩ := open_rd (E := eInst) Tryd.underlying23 eInst_dec ht1
    refine ⟨⟨_, _⟩, rfl, ms, cs, hr0, hr1, ?_, ?_, hv0, hv1⟩
    · rcases hz0 with ⟨_, h, _⟩ | ⟨el, sp, hde, h, _⟩
      · rw [hl0, h]; decide
      · rw [hde] at hw0
        have h1 := hw0 ((el.length + sp.length) * Tryd.prog.bytesOf 3) (by simp only [DataW.weights, Tryd.underlying22]; exact List.mem_cons_self)
        rw [show Tryd.prog.bytesOf 3 = 8 by kernel_rfl] at h1
        unfold reachBytes at h1
        omega
    · rcases hz1 with ⟨_, h, _⟩ | ⟨el, sp, hde, h, _⟩
      · rw [hl1, h]; decide
      · rw [hde] at hw1
        have h1 := hw1 ((el.length + sp.length) * Tryd.prog.bytesOf 44) (by simp only [DataW.weights, Tryd.underlying23]; exact List.mem_cons_self)
        rw [show Tryd.prog.bytesOf 44 = 40 by kernel_rfl] at h1
        unfold reachBytes at h1
        omega
end Go.Proofs.YtkocfgaajghggaaDoor
