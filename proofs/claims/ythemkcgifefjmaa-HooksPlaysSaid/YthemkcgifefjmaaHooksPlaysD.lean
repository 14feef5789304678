/- The law HooksPlays: its script with the inner lists, read off the datum. -/
import Derived.Test.YthemkcgifefjmaaHooksPlays
import Derived.Test.YthemkcgifefjmaaHooksDec
import Derived.Test.YthemkcgifefjmaaOpen
import Derived.SizedLaws
namespace Go.Proofs.Ythemkcgifefjmaa
open Go.RowKit Go.ChangeShapes Go.WideShapes Go.ChangeAt
set_option linter.unusedVariables false
set_option linter.unusedSimpArgs false

theorem weightsAll_mem {H : Type} {P : Program} {e : TypeId} : ∀ {l : List (DataW H)} {d : DataW H} {n : Nat}, d ∈ l → n ∈ d.weights P e → n ∈ DataW.weightsAll P e l
  | x :: l, d, n, hd, hn => by
    simp only [DataW.weightsAll, List.mem_append]
    rcases List.mem_cons.1 hd with rfl | hd
    · exact .inl hn
    · exact .inr (weightsAll_mem hd hn)

/-- as Dec, where what is read is of sizes within reach -/
def DecW {α : Type} (w : World) (t : TypeId) (E : Enc α) (valid : α → Prop) : Prop :=
  Try.prog.cellsOf t = E.size ∧ ∀ (H : Type) (enc : TypeId × Value → H) (fuel : Nat) (cs : List Value) (d : DataW H × List MemPlace),
    DataW.trod enc Try.prog w 0 (fun _ => true) true fuel t cs = some d → (∀ n ∈ d.1.weights Try.prog t, n ≤ reachBytes) → ∃ x, cs = E.cells x ∧ valid x

/-- a slice that came in -/
theorem open_rdW {α : Type} {H : Type} {enc : TypeId × Value → H} {w : World} {t e : TypeId} {E : Enc α} {valid : α → Prop} {ao : Option Addr} {len cap : Nat} {d : DataW H} {p : List MemPlace}
    (ht : Try.prog.underlying t = some (.slice e)) (hd : DecW w e E valid) (h : DataW.Trod enc Try.prog w 0 (fun _ => true) true t (.slice ao len cap) d p) (hw : ∀ n ∈ d.weights Try.prog t, n ≤ reachBytes) :
    ∃ xs, Rd E w (.slice ao len cap) xs ∧ xs.length = len ∧ (∀ x ∈ xs, valid x) ∧ ((d = .nil ∧ len = 0 ∧ cap = 0) ∨ ∃ el sp, d = .slice el sp ∧ el.length = len ∧ el.length + sp.length = cap) := by
  obtain ⟨fuel, hf⟩ := h
  rcases Deep.open_slice ht hf with ⟨hcs, hx⟩ | ⟨a, l, c, m, n, D, Pl, hcs, hb, hl, hm, hmm, hx, hel⟩
  · simp [Value.cells] at hcs
    obtain ⟨rfl, rfl, rfl⟩ := hcs
    obtain ⟨rfl, rfl⟩ : d = .nil ∧ p = [] := by simpa using hx
    exact ⟨[], Rd.nil w, rfl, by simp, .inl ⟨rfl, rfl, rfl⟩⟩
  · simp [Value.cells] at hcs
    obtain ⟨rfl, rfl, rfl⟩ := hcs
    simp only [if_true] at hmm
    subst hmm
    obtain ⟨rfl, _⟩ : d = _ ∧ p = _ := by simpa using hx
    have hex : ∀ i, i < len → ∃ x, valid x ∧ ∀ j, j < E.size → w.cell? (a.add (i * E.size + j)) = (E.cells x)[j]? := by
      intro i hi
      obtain ⟨cs', h1, h2⟩ := hel i (by omega)
      obtain ⟨x, rfl, hv⟩ := hd.2 _ _ _ _ _ h2 (fun q hq => hw q (by simp only [DataW.weights, ht]; exact List.mem_cons_of_mem _ (List.mem_append_left _ (weightsAll_mem (List.mem_map.2 ⟨i, by simpa using hi, rfl⟩) hq))))
      refine ⟨x, hv, fun j hj => ?_⟩
      have := (World.cells?_some h1).2.2 j (by rw [hd.1]; exact hj)
      rw [← this, hd.1, Addr.add_add]
    have hlist : ∀ n, n ≤ len → ∃ xs : List α, xs.length = n ∧ (∀ x ∈ xs, valid x) ∧ ∀ (i : Nat) (h : i < xs.length) (j : Nat), j < E.size → w.cell? (a.add (i * E.size + j)) = (E.cells xs[i])[j]? := by
      intro n
      induction n with
      | zero => exact fun _ => ⟨[], rfl, by simp, fun i h => by simp at h⟩
      | succ n ih =>
        intro hn
        obtain ⟨xs, h1, h2, h3⟩ := ih (by omega)
        obtain ⟨x, hv, hx⟩ := hex n (by omega)
        refine ⟨xs ++ [x], by simp [h1], fun y hy => ?_, fun i h j hj => ?_⟩
        · rcases List.mem_append.1 hy with hy | hy
          · exact h2 y hy
          · obtain rfl : y = x := by simpa using hy
            exact hv
        · by_cases hi : i < xs.length
          · rw [List.getElem_append_left hi]; exact h3 i hi j hj
          · obtain rfl : i = n := by simp at h; omega
            rw [List.getElem_append_right (by omega)]
            simpa using hx j hj
    obtain ⟨xs, h1, h2, h3⟩ := hlist len (Nat.le_refl _)
    subst h1
    refine ⟨xs, ⟨by omega, some a, _, rfl, hl, fun h => by simp at h, fun h0 => ?_⟩, rfl, h2, .inr ?_⟩
    · have hsp : a.spot = none := by
        have hc := h3 0 h0 0 E.pos
        have hlt : 0 < (E.cells xs[0]).length := by rw [E.len]; exact E.pos
        rw [List.getElem?_eq_getElem hlt] at hc
        simpa [Addr.add] using World.cell?_spot hc
      obtain ⟨b, off, spot⟩ := a
      subst hsp
      refine ⟨b, off, rfl, fun j u hj => ?_⟩
      have hjl : j < (E.all xs).length := (List.getElem?_eq_some_iff.1 hj).1
      rw [E.all_len] at hjl
      have hq : j / E.size < xs.length := Nat.div_lt_of_lt_mul (by rw [Nat.mul_comm]; exact hjl)
      have hr : j % E.size < E.size := Nat.mod_lt _ E.pos
      have hj' : j / E.size * E.size + j % E.size = j := by rw [Nat.mul_comm]; exact Nat.div_add_mod _ _
      have := h3 _ hq _ hr
      rw [hj', Addr.add_lit] at this
      rw [this, ← E.all_at xs _ _ hq hr, hj']
      exact hj
    · exact ⟨_, _, rfl, by simp, by simp; omega⟩

def OpL (w : World) (o : OpD) : Prop := OpD.ok o ∧ ∃ ls, Rd (eInt .i64) w (.slice o.2.2.2.1 o.2.2.2.2.1 o.2.2.2.2.2) ls ∧ ls.length * 8 ≤ 140737488351232
theorem eOpW_dec {w : World} : DecW w 30 eOp (OpL w) := by
  refine ⟨by kernel_rfl, fun H enc fuel cs d h hw => ?_⟩
  obtain ⟨_, _, _, _, hl, _, _⟩ := DataW.trod_struct Try.underlying30 h
  rw [show Try.prog.cellsOf 30 = 4 by kernel_rfl] at hl
  match cs, hl with
  | [c0, c1, c2, c3], _ =>
    obtain ⟨ys0, n0, _, hd0, _, hlen0, hg0⟩ := DataW.trod_struct Try.underlying30 h
    have h0_0 : DataW.trod enc Try.prog w 0 (fun _ => true) true n0 3 (List.take (Try.prog.cellsOf 3) (List.drop 0 [c0, c1, c2, c3])) = ys0[0]? := by have h := hg0 0 _ rfl; exact h
    have hs0_0 := List.getElem?_eq_getElem (l := ys0) (i := 0) (by rw [hlen0]; decide)
    rw [show Try.prog.cellsOf 3 = 1 by kernel_rfl, hs0_0] at h0_0
    have k0_0 : DataW.trod enc Try.prog w 0 (fun _ => true) true n0 3 [c0] = some _ := h0_0
    obtain ⟨x0, e0, _, w0⟩ := DataW.trod_int Try.underlying3 k0_0
    have q0 : c0 = .int .i64 x0 := by simpa using e0
    have h0_1 : DataW.trod enc Try.prog w 0 (fun _ => true) true n0 3 (List.take (Try.prog.cellsOf 3) (List.drop 1 [c0, c1, c2, c3])) = ys0[1]? := by have h := hg0 1 _ rfl; exact h
    have hs0_1 := List.getElem?_eq_getElem (l := ys0) (i := 1) (by rw [hlen0]; decide)
    rw [show Try.prog.cellsOf 3 = 1 by kernel_rfl, hs0_1] at h0_1
    have k0_1 : DataW.trod enc Try.prog w 0 (fun _ => true) true n0 3 [c1] = some _ := h0_1
    obtain ⟨x1, e1, _, w1⟩ := DataW.trod_int Try.underlying3 k0_1
    have q1 : c1 = .int .i64 x1 := by simpa using e1
    have h0_2 : DataW.trod enc Try.prog w 0 (fun _ => true) true n0 3 (List.take (Try.prog.cellsOf 3) (List.drop 2 [c0, c1, c2, c3])) = ys0[2]? := by have h := hg0 2 _ rfl; exact h
    have hs0_2 := List.getElem?_eq_getElem (l := ys0) (i := 2) (by rw [hlen0]; decide)
    rw [show Try.prog.cellsOf 3 = 1 by kernel_rfl, hs0_2] at h0_2
    have k0_2 : DataW.trod enc Try.prog w 0 (fun _ => true) true n0 3 [c2] = some _ := h0_2
    obtain ⟨x2, e2, _, w2⟩ := DataW.trod_int Try.underlying3 k0_2
    have q2 : c2 = .int .i64 x2 := by simpa using e2
    have h0_3 : DataW.trod enc Try.prog w 0 (fun _ => true) true n0 23 (List.take (Try.prog.cellsOf 23) (List.drop 3 [c0, c1, c2, c3])) = ys0[3]? := by have h := hg0 3 _ rfl; exact h
    have hs0_3 := List.getElem?_eq_getElem (l := ys0) (i := 3) (by rw [hlen0]; decide)
    rw [show Try.prog.cellsOf 23 = 1 by kernel_rfl, hs0_3] at h0_3
    have k0_3 : DataW.trod enc Try.prog w 0 (fun _ => true) true n0 23 [c3] = some _ := h0_3
    obtain ⟨x3, q3⟩ : ∃ x : Option Addr × Nat × Nat, c3 = .slice x.1 x.2.1 x.2.2 := by
      rcases DataW.trod_slice Try.underlying23 k0_3 with ⟨e, _⟩ | ⟨a, l, c, _, _, _, _, e, _⟩
      · exact ⟨(none, 0, 0), by simpa using e⟩
      · exact ⟨(some a, l, c), by simpa using e⟩
    subst q0 q1 q2 q3
    have hb3 : 3 < ys0.length := by rw [hlen0]; decide
    have hw3 : ∀ n ∈ (ys0[3].1).weights Try.prog 23, n ≤ reachBytes := fun n hn => by
      subst hd0
      apply hw
      simp only [DataW.weights, Try.underlying30]
      refine DataW.weights_mem_each (j := 3) (t := 23) (d := ys0[3].1) rfl ?_ n hn
      rw [List.getElem?_map, hs0_3]; rfl
    have ht : DataW.Trod enc Try.prog w 0 (fun _ => true) true 23 (.slice x3.1 x3.2.1 x3.2.2) ys0[3].1 ys0[3].2 := ⟨n0, k0_3⟩
    obtain ⟨xs, hr, hxl, _, hz⟩ := open_rd (E := eInt .i64) Try.underlying23 (dec_int Try.underlying3 (by kernel_rfl)) ht
    refine ⟨(x0, x1, x2, x3), rfl, ⟨w0, w1, w2⟩, xs, hr, ?_⟩
    rcases hz with ⟨_, hl0, _⟩ | ⟨el, sp, hde, hl0, _⟩
    · rw [hxl, hl0]; decide
    · rw [hde] at hw3
      have h1 := hw3 ((el.length + sp.length) * Try.prog.bytesOf 3) (by simp only [DataW.weights, Try.underlying23]; exact List.mem_cons_self)
      rw [show Try.prog.bytesOf 3 = 8 by kernel_rfl] at h1
      unfold reachBytes at h1
      omega

end Go.Proofs.Ythemkcgifefjmaa
