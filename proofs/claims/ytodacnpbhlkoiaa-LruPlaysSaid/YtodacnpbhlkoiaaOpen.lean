/- From the data that a statement speaks of to the words of the walks. -/
import Derived.Test.YtodacnpbhlkoiaaBase
import Derived.ProofKit
import Derived.OpenShut
import Derived.SizedLaws
import Derived.Deep.Slices
namespace Go.Proofs.Ytodacnpbhlkoiaa
open Go.RowKit
set_option linter.unusedVariables false

theorem own : ownKnob Try.prog.godebug = none := by kernel_rfl
theorem laidOut : laidOutB Try.prog = true := by kernel_rfl

theorem bounds_u64 {n : Int} (h : (Lit.int .u64 n).wf = true) : 0 ≤ n ∧ n ≤ 18446744073709551615 := by simpa [Lit.wf, IntKind.min, IntKind.max, IntKind.signed, IntKind.bits] using h
theorem bounds_i64 {n : Int} (h : (Lit.int .i64 n).wf = true) : -9223372036854775808 ≤ n ∧ n ≤ 9223372036854775807 := by simpa [Lit.wf, IntKind.min, IntKind.max, IntKind.signed, IntKind.bits] using h
theorem bounds_u8 {n : Int} (h : (Lit.int .u8 n).wf = true) : 0 ≤ n ∧ n ≤ 255 := by simpa [Lit.wf, IntKind.min, IntKind.max, IntKind.signed, IntKind.bits] using h

/- what the second form's bound gives -/
theorem bulks_one {H : Type} (d : DataW H) : 1 ≤ Rows.uptoBulk d := by
  cases d with
  | lit l => cases l <;> simp [Rows.uptoBulk]
  | _ => simp [Rows.uptoBulk]
theorem bulks_le {H : Type} {d : DataW H} {l : List (DataW H)} (h : d ∈ l) : Rows.uptoBulk d ≤ Rows.uptoBulkAll l := by
  induction l with
  | nil => cases h
  | cons x r ih =>
    simp only [Rows.uptoBulkAll]
    cases List.mem_cons.1 h with
    | inl e => subst e; omega
    | inr e => have := ih e; omega
theorem bulks_length {H : Type} (l : List (DataW H)) : l.length ≤ Rows.uptoBulkAll l := by
  induction l with
  | nil => simp [Rows.uptoBulkAll]
  | cons x r ih => have := bulks_one x; simp only [Rows.uptoBulkAll, List.length_cons]; omega
theorem bulks_slice {H : Type} (el sp : List (DataW H)) : el.length + sp.length + 1 ≤ Rows.uptoBulk (.slice el sp) := by
  have h1 := bulks_length el
  have h2 := bulks_length sp
  simp only [Rows.uptoBulk]
  omega
theorem bulks_string {H : Type} (bytes : List UInt8) : Rows.uptoBulk (DataW.lit (H := H) (.string bytes)) = bytes.length + 1 := by
  simp [Rows.uptoBulk]
theorem bulks_bound {H : Type} {l : List (DataW H)} (hk : Rows.uptoSmall H l = true) : Rows.uptoBulkAll l ≤ 1048576 := of_decide_eq_true hk
theorem bulks_part {H : Type} {d : DataW H} {l : List (DataW H)} (hk : Rows.uptoSmall H l = true) (h : d ∈ l) : Rows.uptoBulk d ≤ 1048576 := Nat.le_trans (bulks_le h) (bulks_bound hk)

/-- what is read at type t are E's cells of something valid -/
def Dec {α : Type} (w : World) (t : TypeId) (E : Enc α) (valid : α → Prop) : Prop :=
  Try.prog.cellsOf t = E.size ∧ ∀ (H : Type) (enc : TypeId × Value → H) (fuel : Nat) (cs : List Value) (d : DataW H × List MemPlace),
    DataW.trod enc Try.prog w 0 (fun _ => true) true fuel t cs = some d → ∃ x, cs = E.cells x ∧ valid x

theorem dec_int {w : World} {t : TypeId} {k : IntKind} (h : Try.prog.underlying t = some (.int k)) (hc : Try.prog.cellsOf t = 1) : Dec w t (eInt k) (fun x => (Lit.int k x).wf = true) :=
  ⟨hc, fun _ _ _ _ _ h' => by obtain ⟨n, rfl, _, hw⟩ := DataW.trod_int h h'; exact ⟨n, rfl, hw⟩⟩

/-- a slice that came in -/
theorem open_rd {α : Type} {H : Type} {enc : TypeId × Value → H} {w : World} {t e : TypeId} {E : Enc α} {valid : α → Prop} {ao : Option Addr} {len cap : Nat} {d : DataW H} {p : List MemPlace}
    (ht : Try.prog.underlying t = some (.slice e)) (hd : Dec w e E valid) (h : DataW.Trod enc Try.prog w 0 (fun _ => true) true t (.slice ao len cap) d p) :
    ∃ xs, Rd E w (.slice ao len cap) xs ∧ xs.length = len ∧ (∀ x ∈ xs, valid x) ∧ ((d = .nil ∧ len = 0 ∧ cap = 0) ∨ ∃ el sp, d = .slice el sp ∧ el.length = len ∧ el.length + sp.length = cap) := by
  obtain ⟨fuel, hf⟩ := h
  rcases Deep.open_slice ht hf with ⟨hcs, hx⟩ | ⟨a, l, c, m, n, D, Pl, hcs, hb, hl, hm, hmm, hx, hel⟩
  · simp [Value.cells] at hcs
    obtain ⟨rfl, rfl, rfl⟩ := hcs
    obtain ⟨rfl, rfl⟩ : d = .nil ∧ p = [] := by simpa using hx
    exact ⟨[], Rd.nil w, rfl, by simp, .inl ⟨rfl, rfl, rfl⟩⟩
  · simp [Value.cells] at hcs
    obtain ⟨rfl, rfl, rfl⟩ := hcs
    simp only [if_true] at hmm
    subst hmm
    have hex : ∀ i, i < len → ∃ x, valid x ∧ ∀ j, j < E.size → w.cell? (a.add (i * E.size + j)) = (E.cells x)[j]? := by
      intro i hi
      obtain ⟨cs', h1, h2⟩ := hel i (by omega)
      obtain ⟨x, rfl, hv⟩ := hd.2 _ _ _ _ _ h2
      refine ⟨x, hv, fun j hj => ?_⟩
      have := (World.cells?_some h1).2.2 j (by rw [hd.1]; exact hj)
      rw [← this, hd.1, Addr.add_add]
    have hlist : ∀ n, n ≤ len → ∃ xs : List α, xs.length = n ∧ (∀ x ∈ xs, valid x) ∧ ∀ (i : Nat) (h : i < xs.length) (j : Nat), j < E.size → w.cell? (a.add (i * E.size + j)) = (E.cells xs[i])[j]? := by
      intro n
      induction n with
      | zero => exact fun _ => ⟨[], rfl, by simp, fun i h => by simp at h⟩
      | succ n ih =>
        intro hn
        obtain ⟨xs, h1, h2, h3⟩ := ih (by omega)
        obtain ⟨x, hv, hx⟩ := hex n (by omega)
        refine ⟨xs ++ [x], by simp [h1], fun y hy => ?_, fun i h j hj => ?_⟩
        · rcases List.mem_append.1 hy with hy | hy
          · exact h2 y hy
          · obtain rfl : y = x := by simpa using hy
            exact hv
        · by_cases hi : i < xs.length
          · rw [List.getElem_append_left hi]; exact h3 i hi j hj
          · obtain rfl : i = n := by simp at h; omega
            rw [List.getElem_append_right (by omega)]
            simpa using hx j hj
    obtain ⟨xs, h1, h2, h3⟩ := hlist len (Nat.le_refl _)
    subst h1
    refine ⟨xs, ⟨by omega, some a, _, rfl, hl, fun h => by simp at h, fun h0 => ?_⟩, rfl, h2, .inr ?_⟩
    · have hsp : a.spot = none := by
        have hc := h3 0 h0 0 E.pos
        have hlt : 0 < (E.cells xs[0]).length := by rw [E.len]; exact E.pos
        rw [List.getElem?_eq_getElem hlt] at hc
        simpa [Addr.add] using World.cell?_spot hc
      obtain ⟨b, off, spot⟩ := a
      subst hsp
      refine ⟨b, off, rfl, fun j u hj => ?_⟩
      have hjl : j < (E.all xs).length := (List.getElem?_eq_some_iff.1 hj).1
      rw [E.all_len] at hjl
      have hq : j / E.size < xs.length := Nat.div_lt_of_lt_mul (by rw [Nat.mul_comm]; exact hjl)
      have hr : j % E.size < E.size := Nat.mod_lt _ E.pos
      have hj' : j / E.size * E.size + j % E.size = j := by rw [Nat.mul_comm]; exact Nat.div_add_mod _ _
      have := h3 _ hq _ hr
      rw [hj', Addr.add_lit] at this
      rw [this, ← E.all_at xs _ _ hq hr, hj']
      exact hj
    · obtain ⟨rfl, _⟩ : d = _ ∧ p = _ := by simpa using hx
      exact ⟨_, _, rfl, by simp, by simp; omega⟩
end Go.Proofs.Ytodacnpbhlkoiaa
