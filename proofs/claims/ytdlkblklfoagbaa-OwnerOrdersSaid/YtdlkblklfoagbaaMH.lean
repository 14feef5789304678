/- the chapters below, merged: MH -/
import Derived.Test.YtdlkblklfoagbaaMA
import Derived.ProofKit
import Derived.OpenShut
import Derived.SizedLaws
import Derived.Deep.Slices
import Derived.Test.YtdlkblklfoagbaaMB
namespace Go.Proofs.Ytdlkblklfoagbaa
open Go.RowKit
set_option linter.unusedVariables false
set_option linter.unusedSimpArgs false

theorem own : ownKnob Try.prog.godebug = none := by kernel_rfl
theorem laidOut : laidOutB Try.prog = true := by kernel_rfl

theorem bounds_u64 {n : Int} (h : (Lit.int .u64 n).wf = true) : 0 ≤ n ∧ n ≤ 18446744073709551615 := by simpa [Lit.wf, IntKind.min, IntKind.max, IntKind.signed, IntKind.bits] using h
theorem bounds_i64 {n : Int} (h : (Lit.int .i64 n).wf = true) : -9223372036854775808 ≤ n ∧ n ≤ 9223372036854775807 := by simpa [Lit.wf, IntKind.min, IntKind.max, IntKind.signed, IntKind.bits] using h
theorem bounds_u8 {n : Int} (h : (Lit.int .u8 n).wf = true) : 0 ≤ n ∧ n ≤ 255 := by simpa [Lit.wf, IntKind.min, IntKind.max, IntKind.signed, IntKind.bits] using h

/- what the second form's bound gives -/
theorem bulks_one {H : Type} (d : DataW H) : 1 ≤ Rows.uptoBulk d := by
  cases d with
  | lit l => cases l <;> simp [Rows.uptoBulk]
  | _ => simp [Rows.uptoBulk]
theorem bulks_le {H : Type} {d : DataW H} {l : List (DataW H)} (h : d ∈ l) : Rows.uptoBulk d ≤ Rows.uptoBulkAll l := by
  induction l with
  | nil => cases h
  | cons x r ih =>
    simp only [Rows.uptoBulkAll]
    cases List.mem_cons.1 h with
    | inl e => subst e; omega
    | inr e => have := ih e; omega
theorem bulks_length {H : Type} (l : List (DataW H)) : l.length ≤ Rows.uptoBulkAll l := by
  induction l with
  | nil => simp [Rows.uptoBulkAll]
  | cons x r ih => have := bulks_one x; simp only [Rows.uptoBulkAll, List.length_cons]; omega
theorem bulks_slice {H : Type} (el sp : List (DataW H)) : el.length + sp.length + 1 ≤ Rows.uptoBulk (.slice el sp) := by
  have h1 := bulks_length el
  have h2 := bulks_length sp
  simp only [Rows.uptoBulk]
  omega
theorem bulks_string {H : Type} (bytes : List UInt8) : Rows.uptoBulk (DataW.lit (H := H) (.string bytes)) = bytes.length + 1 := by
  simp [Rows.uptoBulk]
theorem bulks_bound {H : Type} {l : List (DataW H)} (hk : Rows.uptoSmall H l = true) : Rows.uptoBulkAll l ≤ 1048576 := of_decide_eq_true hk
theorem bulks_part {H : Type} {d : DataW H} {l : List (DataW H)} (hk : Rows.uptoSmall H l = true) (h : d ∈ l) : Rows.uptoBulk d ≤ 1048576 := Nat.le_trans (bulks_le h) (bulks_bound hk)

/-- what is read at type t are E's cells of something valid -/
def Dec {α : Type} (w : World) (t : TypeId) (E : Enc α) (valid : α → Prop) : Prop :=
  Try.prog.cellsOf t = E.size ∧ ∀ (H : Type) (enc : TypeId × Value → H) (fuel : Nat) (cs : List Value) (d : DataW H × List MemPlace),
    DataW.trod enc Try.prog w 0 (fun _ => true) true fuel t cs = some d → ∃ x, cs = E.cells x ∧ valid x

theorem dec_int {w : World} {t : TypeId} {k : IntKind} (h : Try.prog.underlying t = some (.int k)) (hc : Try.prog.cellsOf t = 1) : Dec w t (eInt k) (fun x => (Lit.int k x).wf = true) :=
  ⟨hc, fun _ _ _ _ _ h' => by obtain ⟨n, rfl, _, hw⟩ := DataW.trod_int h h'; exact ⟨n, rfl, hw⟩⟩

/-- a slice that came in -/
theorem open_rd {α : Type} {H : Type} {enc : TypeId × Value → H} {w : World} {t e : TypeId} {E : Enc α} {valid : α → Prop} {ao : Option Addr} {len cap : Nat} {d : DataW H} {p : List MemPlace}
    (ht : Try.prog.underlying t = some (.slice e)) (hd : Dec w e E valid) (h : DataW.Trod enc Try.prog w 0 (fun _ => true) true t (.slice ao len cap) d p) :
    ∃ xs, Rd E w (.slice ao len cap) xs ∧ xs.length = len ∧ (∀ x ∈ xs, valid x) ∧ ((d = .nil ∧ len = 0 ∧ cap = 0) ∨ ∃ el sp, d = .slice el sp ∧ el.length = len ∧ el.length + sp.length = cap) := by
  obtain ⟨fuel, hf⟩ := h
  rcases Deep.open_slice ht hf with ⟨hcs, hx⟩ | ⟨a, l, c, m, n, D, Pl, hcs, hb, hl, hm, hmm, hx, hel⟩
  · simp [Value.cells] at hcs
    obtain ⟨rfl, rfl, rfl⟩ := hcs
    obtain ⟨rfl, rfl⟩ : d = .nil ∧ p = [] := by simpa using hx
    exact ⟨[], Rd.nil w, rfl, by simp, .inl ⟨rfl, rfl, rfl⟩⟩
  · simp [Value.cells] at hcs
    obtain ⟨rfl, rfl, rfl⟩ := hcs
    simp only [if_true] at hmm
    subst hmm
    have hex : ∀ i, i < len → ∃ x, valid x ∧ ∀ j, j < E.size → w.cell? (a.add (i * E.size + j)) = (E.cells x)[j]? := by
      intro i hi
      obtain ⟨cs', h1, h2⟩ := hel i (by omega)
      obtain ⟨x, rfl, hv⟩ := hd.2 _ _ _ _ _ h2
      refine ⟨x, hv, fun j hj => ?_⟩
      have := (World.cells?_some h1).2.2 j (by rw [hd.1]; exact hj)
      rw [← this, hd.1, Addr.add_add]
    have hlist : ∀ n, n ≤ len → ∃ xs : List α, xs.length = n ∧ (∀ x ∈ xs, valid x) ∧ ∀ (i : Nat) (h : i < xs.length) (j : Nat), j < E.size → w.cell? (a.add (i * E.size + j)) = (E.cells xs[i])[j]? := by
      intro n
      induction n with
      | zero => exact fun _ => ⟨[], rfl, by simp, fun i h => by simp at h⟩
      | succ n ih =>
        intro hn
        obtain ⟨xs, h1, h2, h3⟩ := ih (by omega)
        obtain ⟨x, hv, hx⟩ := hex n (by omega)
        refine ⟨xs ++ [x], by simp [h1], fun y hy => ?_, fun i h j hj => ?_⟩
        · rcases List.mem_append.1 hy with hy | hy
          · exact h2 y hy
          · obtain rfl : y = x := by simpa using hy
            exact hv
        · by_cases hi : i < xs.length
          · rw [List.getElem_append_left hi]; exact h3 i hi j hj
          · obtain rfl : i = n := by simp at h; omega
            rw [List.getElem_append_right (by omega)]
            simpa using hx j hj
    obtain ⟨xs, h1, h2, h3⟩ := hlist len (Nat.le_refl _)
    subst h1
    refine ⟨xs, ⟨by omega, some a, _, rfl, hl, fun h => by simp at h, fun h0 => ?_⟩, rfl, h2, .inr ?_⟩
    · have hsp : a.spot = none := by
        have hc := h3 0 h0 0 E.pos
        have hlt : 0 < (E.cells xs[0]).length := by rw [E.len]; exact E.pos
        rw [List.getElem?_eq_getElem hlt] at hc
        simpa [Addr.add] using World.cell?_spot hc
      obtain ⟨b, off, spot⟩ := a
      subst hsp
      refine ⟨b, off, rfl, fun j u hj => ?_⟩
      have hjl : j < (E.all xs).length := (List.getElem?_eq_some_iff.1 hj).1
      rw [E.all_len] at hjl
      have hq : j / E.size < xs.length := Nat.div_lt_of_lt_mul (by rw [Nat.mul_comm]; exact hjl)
      have hr : j % E.size < E.size := Nat.mod_lt _ E.pos
      have hj' : j / E.size * E.size + j % E.size = j := by rw [Nat.mul_comm]; exact Nat.div_add_mod _ _
      have := h3 _ hq _ hr
      rw [hj', Addr.add_lit] at this
      rw [this, ← E.all_at xs _ _ hq hr, hj']
      exact hj
    · obtain ⟨rfl, _⟩ : d = _ ∧ p = _ := by simpa using hx
      exact ⟨_, _, rfl, by simp, by simp; omega⟩

def PairD.ok (x : PairD) : Prop := (Lit.int .u64 x.1).wf = true ∧ (Lit.int .u64 x.2).wf = true
set_option maxRecDepth 100000 in
theorem ePair_dec {w : World} : Dec w 50 ePair PairD.ok := by
  refine ⟨by kernel_rfl, fun H enc fuel cs d h => ?_⟩
  obtain ⟨_, _, _, _, hl, _, _⟩ := DataW.trod_struct Try.underlying50 h
  rw [show Try.prog.cellsOf 50 = 2 by kernel_rfl] at hl
  match cs, hl with
  | [c0, c1], _ =>
    obtain ⟨ys0, n0, _, _, _, hlen0, hg0⟩ := DataW.trod_struct Try.underlying50 h
    have h0_0 : DataW.trod enc Try.prog w 0 (fun _ => true) true n0 33 (List.take (Try.prog.cellsOf 33) (List.drop 0 [c0, c1])) = ys0[0]? := by have h := hg0 0 _ rfl; exact h
    have hs0_0 := List.getElem?_eq_getElem (l := ys0) (i := 0) (by rw [hlen0]; decide)
    rw [show Try.prog.cellsOf 33 = 1 by kernel_rfl, hs0_0] at h0_0
    have k0_0 : DataW.trod enc Try.prog w 0 (fun _ => true) true n0 33 [c0] = some _ := h0_0
    obtain ⟨x0, e0, _, w0⟩ := DataW.trod_int Try.underlying33 k0_0
    have q0 : c0 = .int .u64 x0 := by simpa using e0
    have h0_1 : DataW.trod enc Try.prog w 0 (fun _ => true) true n0 33 (List.take (Try.prog.cellsOf 33) (List.drop 1 [c0, c1])) = ys0[1]? := by have h := hg0 1 _ rfl; exact h
    have hs0_1 := List.getElem?_eq_getElem (l := ys0) (i := 1) (by rw [hlen0]; decide)
    rw [show Try.prog.cellsOf 33 = 1 by kernel_rfl, hs0_1] at h0_1
    have k0_1 : DataW.trod enc Try.prog w 0 (fun _ => true) true n0 33 [c1] = some _ := h0_1
    obtain ⟨x1, e1, _, w1⟩ := DataW.trod_int Try.underlying33 k0_1
    have q1 : c1 = .int .u64 x1 := by simpa using e1
    subst q0 q1
    exact ⟨(x0, x1), rfl, ⟨w0, w1⟩⟩
def ResD.ok (x : ResD) : Prop := (Lit.int .i64 x.1).wf = true ∧ (Lit.int .u64 x.2.2.1).wf = true ∧ (Lit.int .u64 x.2.2.2.2.1).wf = true ∧ (Lit.int .u64 x.2.2.2.2.2).wf = true
set_option maxRecDepth 100000 in
theorem eRes_dec {w : World} : Dec w 41 eRes ResD.ok := by
  refine ⟨by kernel_rfl, fun H enc fuel cs d h => ?_⟩
  obtain ⟨_, _, _, _, hl, _, _⟩ := DataW.trod_struct Try.underlying41 h
  rw [show Try.prog.cellsOf 41 = 6 by kernel_rfl] at hl
  match cs, hl with
  | [c0, c1, c2, c3, c4, c5], _ =>
    obtain ⟨ys0, n0, _, _, _, hlen0, hg0⟩ := DataW.trod_struct Try.underlying41 h
    have h0_0 : DataW.trod enc Try.prog w 0 (fun _ => true) true n0 28 (List.take (Try.prog.cellsOf 28) (List.drop 0 [c0, c1, c2, c3, c4, c5])) = ys0[0]? := by have h := hg0 0 _ rfl; exact h
    have hs0_0 := List.getElem?_eq_getElem (l := ys0) (i := 0) (by rw [hlen0]; decide)
    rw [show Try.prog.cellsOf 28 = 1 by kernel_rfl, hs0_0] at h0_0
    have k0_0 : DataW.trod enc Try.prog w 0 (fun _ => true) true n0 28 [c0] = some _ := h0_0
    obtain ⟨x0, e0, _, w0⟩ := DataW.trod_int Try.underlying28 k0_0
    have q0 : c0 = .int .i64 x0 := by simpa using e0
    have h0_1 : DataW.trod enc Try.prog w 0 (fun _ => true) true n0 4 (List.take (Try.prog.cellsOf 4) (List.drop 1 [c0, c1, c2, c3, c4, c5])) = ys0[1]? := by have h := hg0 1 _ rfl; exact h
    have hs0_1 := List.getElem?_eq_getElem (l := ys0) (i := 1) (by rw [hlen0]; decide)
    rw [show Try.prog.cellsOf 4 = 1 by kernel_rfl, hs0_1] at h0_1
    have k0_1 : DataW.trod enc Try.prog w 0 (fun _ => true) true n0 4 [c1] = some _ := h0_1
    obtain ⟨x1, e1, _⟩ := DataW.trod_bool Try.underlying4 k0_1
    have q1 : c1 = .bool x1 := by simpa using e1
    have h0_2 : DataW.trod enc Try.prog w 0 (fun _ => true) true n0 33 (List.take (Try.prog.cellsOf 33) (List.drop 2 [c0, c1, c2, c3, c4, c5])) = ys0[2]? := by have h := hg0 2 _ rfl; exact h
    have hs0_2 := List.getElem?_eq_getElem (l := ys0) (i := 2) (by rw [hlen0]; decide)
    rw [show Try.prog.cellsOf 33 = 1 by kernel_rfl, hs0_2] at h0_2
    have k0_2 : DataW.trod enc Try.prog w 0 (fun _ => true) true n0 33 [c2] = some _ := h0_2
    obtain ⟨x2, e2, _, w2⟩ := DataW.trod_int Try.underlying33 k0_2
    have q2 : c2 = .int .u64 x2 := by simpa using e2
    have h0_3 : DataW.trod enc Try.prog w 0 (fun _ => true) true n0 4 (List.take (Try.prog.cellsOf 4) (List.drop 3 [c0, c1, c2, c3, c4, c5])) = ys0[3]? := by have h := hg0 3 _ rfl; exact h
    have hs0_3 := List.getElem?_eq_getElem (l := ys0) (i := 3) (by rw [hlen0]; decide)
    rw [show Try.prog.cellsOf 4 = 1 by kernel_rfl, hs0_3] at h0_3
    have k0_3 : DataW.trod enc Try.prog w 0 (fun _ => true) true n0 4 [c3] = some _ := h0_3
    obtain ⟨x3, e3, _⟩ := DataW.trod_bool Try.underlying4 k0_3
    have q3 : c3 = .bool x3 := by simpa using e3
    have h0_4 : DataW.trod enc Try.prog w 0 (fun _ => true) true n0 33 (List.take (Try.prog.cellsOf 33) (List.drop 4 [c0, c1, c2, c3, c4, c5])) = ys0[4]? := by have h := hg0 4 _ rfl; exact h
    have hs0_4 := List.getElem?_eq_getElem (l := ys0) (i := 4) (by rw [hlen0]; decide)
    rw [show Try.prog.cellsOf 33 = 1 by kernel_rfl, hs0_4] at h0_4
    have k0_4 : DataW.trod enc Try.prog w 0 (fun _ => true) true n0 33 [c4] = some _ := h0_4
    obtain ⟨x4, e4, _, w4⟩ := DataW.trod_int Try.underlying33 k0_4
    have q4 : c4 = .int .u64 x4 := by simpa using e4
    have h0_5 : DataW.trod enc Try.prog w 0 (fun _ => true) true n0 33 (List.take (Try.prog.cellsOf 33) (List.drop 5 [c0, c1, c2, c3, c4, c5])) = ys0[5]? := by have h := hg0 5 _ rfl; exact h
    have hs0_5 := List.getElem?_eq_getElem (l := ys0) (i := 5) (by rw [hlen0]; decide)
    rw [show Try.prog.cellsOf 33 = 1 by kernel_rfl, hs0_5] at h0_5
    have k0_5 : DataW.trod enc Try.prog w 0 (fun _ => true) true n0 33 [c5] = some _ := h0_5
    obtain ⟨x5, e5, _, w5⟩ := DataW.trod_int Try.underlying33 k0_5
    have q5 : c5 = .int .u64 x5 := by simpa using e5
    subst q0 q1 q2 q3 q4 q5
    exact ⟨(x0, x1, x2, x3, x4, x5), rfl, ⟨w0, w2, w4, w5⟩⟩
end Go.Proofs.Ytdlkblklfoagbaa
