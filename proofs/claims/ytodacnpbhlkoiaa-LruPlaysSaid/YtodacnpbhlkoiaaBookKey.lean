/- The law BookLaws: its plain law. -/
import Derived.Test.YtodacnpbhlkoiaaBookSt
import Derived.Test.YtodacnpbhlkoiaaBookPl
namespace Go.Proofs.Ytodacnpbhlkoiaa
open Go.RowKit
set_option linter.unusedVariables false
set_option linter.unusedSimpArgs false

theorem do_cells {w : World} {b off : Nat} {xs : List DoD} (hc : ∀ j u, (eDo.all xs)[j]? = some u → w.cell? ⟨b, off + j, none⟩ = some u) (k : Nat) (h : k < xs.length) :
    w.cell? ⟨b, off + k * 3, none⟩ = some (.int .i64 xs[k].1) ∧ w.cell? ⟨b, off + k * 3 + 1, none⟩ = some (.int .u64 xs[k].2.1) ∧ w.cell? ⟨b, off + k * 3 + 2, none⟩ = some (.int .u64 xs[k].2.2) := by
  refine ⟨?_, ?_, ?_⟩
  · have := hc (k * 3) _ ((eDo.all_at xs k 0 h (by decide)).trans rfl); exact this
  · have := hc (k * 3 + 1) _ ((eDo.all_at xs k 1 h (by decide)).trans rfl); rw [← Nat.add_assoc] at this; exact this
  · have := hc (k * 3 + 2) _ ((eDo.all_at xs k 2 h (by decide)).trans rfl); rw [← Nat.add_assoc] at this; exact this
theorem keepD {w0 w w' : World} {sb o0 o1 o2 : Nat} {v u x : Value} (h : Below w0.heap.size w w') (l : sb < w0.heap.size) (c : w.cell? ⟨sb, o0, none⟩ = some v) (c2 : w.cell? ⟨sb, o1, none⟩ = some u) (c3 : w.cell? ⟨sb, o2, none⟩ = some x) :
    w'.cell? ⟨sb, o0, none⟩ = some v ∧ w'.cell? ⟨sb, o1, none⟩ = some u ∧ w'.cell? ⟨sb, o2, none⟩ = some x := ⟨(h.cell l).trans c, (h.cell l).trans c2, (h.cell l).trans c3⟩
theorem LSt.drew {P Q X : (Nat → Prop) → World → Prop} {w0 w : World} (hP : Framed P) (hQ : Framed Q) (hX : Framed X) (h : LSt P Q X w0 w) : LSt P Q X w0 w.drew := h.fresh hP hQ hX ((Only.refl _ _).drew_)
/-- what get and put of a key answer -/
theorem law_key {cap : Int} {xs : List PairD} (G : Good cap xs) (key val : Int) :
    (hasP xs key = false ∧ (xs.length : Int) = cap ∧ doP cap xs 0 key 0 = (resF false 0, xs) ∧ doP cap xs 2 key val = (resE 40, xs)) ∨
    ∃ A B f o, LowK A key ∧ HighK B key ∧ (doP cap xs 0 key 0) = (resF f o, xs) ∧ doP cap xs 2 key val = (resF f o, A ++ (key, val) :: B) ∧ xs.filter (fun p => p.1 != key) = A ++ B := by
  obtain ⟨A, B, hA, hB, ⟨rfl, hf⟩ | ⟨v, rfl, hf⟩⟩ := at_key G.rising key
  · by_cases hl : (((A ++ B).length : Nat) : Int) = cap
    · exact .inl ⟨hf, hl, by unfold doP; simp [hf, old_none hA hB], by unfold doP full; simp [hf, hl, -List.length_append]⟩
    · refine .inr ⟨A, B, false, 0, hA, hB, ?_, ?_, filt_none hA hB⟩
      · unfold doP; simp [hf, old_none hA hB]
      · unfold doP full; simp [hf, hl, old_none hA hB, put_none hA hB, -List.length_append]
  · refine .inr ⟨A, B, true, v, hA, hB, ?_, ?_, filt_mid hA hB⟩
    · unfold doP; simp [hf, old_mid hA]
    · unfold doP full; simp [hf, old_mid hA, put_mid hA]
theorem do_get_mid {A B : List PairD} {key v : Int} (cap u : Int) (hA : LowK A key) : doP cap (A ++ (key, v) :: B) 0 key u = (resF true v, A ++ (key, v) :: B) := by unfold doP; simp [has_mid, old_mid hA]
theorem do_has_mid {A B : List PairD} {key v : Int} (cap u : Int) : doP cap (A ++ (key, v) :: B) 1 key u = (resF true 0, A ++ (key, v) :: B) := by unfold doP; simp [has_mid]
theorem do_add_mid {A B : List PairD} {key v : Int} (cap u : Int) (hA : LowK A key) : doP cap (A ++ (key, v) :: B) 4 key u = (resF true (add64 v u), A ++ (key, add64 v u) :: B) := by unfold doP full; simp [has_mid, old_mid hA, put_mid hA]
theorem do_del_mid {A B : List PairD} {key v : Int} (cap u : Int) (hA : LowK A key) : doP cap (A ++ (key, v) :: B) 3 key u = (resF true v, A ++ B) := by unfold doP; simp [has_mid, old_mid hA, del_mid hA]
theorem do_del_none {A B : List PairD} {key : Int} (cap u : Int) (hA : LowK A key) (hB : HighK B key) : doP cap (A ++ B) 3 key u = (resF false 0, A ++ B) := by unfold doP; simp [has_none hA hB, old_none hA hB, del_none hA hB]

theorem good_mid {cap : Int} {xs : List PairD} {key val : Int} {r : ResD} {ys : List PairD} (G : Good cap xs) {op : Int} (h : doP cap xs op key val = (r, ys)) : Good cap ys := by
  have := do_good (op := op) (k := key) (v := val) G
  rw [h] at this; exact this
theorem doF {Q X : (Nat → Prop) → World → Prop} {w0 w : World} {b : Nat} {cap : Int} {xs ys : List PairD} {f : Bool} {o op key val : Int} (hQ : Framed Q) (hX : Framed X) (h : LSt (BookS b cap xs) Q X w0 w) (G : Good cap xs) (hd : doP cap xs op key val = (resF f o, ys)) :
    Calls Try.prog 16 #[.pointer (some ⟨b, 0, none⟩), .int .i64 op, .int .u64 key, .int .u64 val] w fun e w' => e = .returned (.agg #[.int .i64 0, .bool f, .int .u64 o, .bool false, .int .u64 0, .int .u64 0]) ∧ LSt (BookS b cap ys) Q X w0 w' := by
  have := doL hQ hX h G op key val
  rw [hd] at this; exact this
theorem doE {Q X : (Nat → Prop) → World → Prop} {w0 w : World} {b : Nat} {cap : Int} {xs ys : List PairD} {o op key val : Int} (hQ : Framed Q) (hX : Framed X) (h : LSt (BookS b cap xs) Q X w0 w) (G : Good cap xs) (hd : doP cap xs op key val = (resE o, ys)) :
    Calls Try.prog 16 #[.pointer (some ⟨b, 0, none⟩), .int .i64 op, .int .u64 key, .int .u64 val] w fun e w' => e = .returned (.agg #[.int .i64 o, .bool false, .int .u64 0, .bool false, .int .u64 0, .int .u64 0]) ∧ LSt (BookS b cap ys) Q X w0 w' := by
  have := doL hQ hX h G op key val
  rw [hd] at this; exact this
theorem neq_self (x0 : Int) (x1 : Bool) (x2 : Int) (w : World) : (binOp .neq 35 (.agg #[.int .i64 x0, .bool x1, .int .u64 x2, .bool false, .int .u64 0, .int .u64 0]) (.agg #[.int .i64 x0, .bool x1, .int .u64 x2, .bool false, .int .u64 0, .int .u64 0])).run Try.prog w = .ok (.bool false) w := by
  have := eRes_neq (x0, x1, x2, false, 0, 0) (x0, x1, x2, false, 0, 0) w
  simpa using this
theorem filt_skip {xs : List PairD} {k : Nat} {key : Int} (h : k < xs.length) (e : xs[k].1 = key) : (xs.take (k + 1)).filter (fun p => p.1 != key) = (xs.take k).filter (fun p => p.1 != key) := by
  rw [List.take_succ_eq_append_getElem h, List.filter_append]; simp [e]
theorem filt_put {xs : List PairD} {k : Nat} {key : Int} (h : k < xs.length) (e : xs[k].1 ≠ key) : (xs.take (k + 1)).filter (fun p => p.1 != key) = (xs.take k).filter (fun p => p.1 != key) ++ [xs[k]] := by
  rw [List.take_succ_eq_append_getElem h, List.filter_append]; simp [e]
theorem filt_len (xs : List PairD) (k : Nat) (key : Int) : ((xs.take k).filter (fun p => p.1 != key)).length ≤ xs.length := Nat.le_trans (List.length_filter_le _ _) (by simp; omega)
/-- the second of the two is changed -/
theorem LSt.second_ {P Q' X : (Nat → Prop) → World → Prop} {w0 w w' : World} {tag : Nat → Nat} (hP : Framed P) (hQ' : Framed Q') (hX : Framed X) (A : Arena w0.heap.size w0 w tag) (h1 : P (fun k => tag k = 1) w) (h3 : X (fun k => tag k = 3) w)
    (hq : Q' (fun k => tag k = 2 ∨ w.heap.size ≤ k) w') (ho : Only (fun k => tag k = 2) w w') : LSt P Q' X w0 w' := by
  obtain ⟨tag', A', f, n, _⟩ := A.step ho 2 (fun _ h => by omega)
  exact ⟨tag', A', f _ hP _ h1 (fun _ _ h => by omega), n _ hQ' hq, f _ hX _ h3 (fun _ _ h => by omega)⟩
/-- the cells of a block of an answer -/
theorem res_cells {w : World} {g : Nat} {x0 x2 x4 x5 : Int} {x1 x3 : Bool} (h : w.heap[g]? = some (.cells #[.int .i64 x0, .bool x1, .int .u64 x2, .bool x3, .int .u64 x4, .int .u64 x5] 35 (0, 0))) :
    w.cell? ⟨g, 0, none⟩ = some (.int .i64 x0) ∧ w.cell? ⟨g, 1, none⟩ = some (.bool x1) ∧ w.cell? ⟨g, 2, none⟩ = some (.int .u64 x2) ∧ w.cell? ⟨g, 3, none⟩ = some (.bool x3) ∧ w.cell? ⟨g, 4, none⟩ = some (.int .u64 x4) ∧ w.cell? ⟨g, 5, none⟩ = some (.int .u64 x5) :=
  ⟨cells_of_heap h 0 _ rfl, cells_of_heap h 1 _ rfl, cells_of_heap h 2 _ rfl, cells_of_heap h 3 _ rfl, cells_of_heap h 4 _ rfl, cells_of_heap h 5 _ rfl⟩
end Go.Proofs.Ytodacnpbhlkoiaa
