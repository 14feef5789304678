/- book: the plain laws. -/
import Derived.Test.YtodacnpbhlkoiaaBookPlain
namespace Go.Proofs.Ytodacnpbhlkoiaa
open Go.RowKit
set_option linter.unusedVariables false
set_option linter.unusedSimpArgs false

def LowK (A : List PairD) (k : Int) : Prop := ∀ p ∈ A, p.1 < k
def HighK (B : List PairD) (k : Int) : Prop := ∀ p ∈ B, k < p.1
theorem posP_cat {A R : List PairD} {k : Int} (hA : LowK A k) (hR : ∀ p, R.head? = some p → k ≤ p.1) : posP (A ++ R) k = A.length := by
  refine posP_of (by simp) (fun a h hlt => ?_) (fun h => ?_)
  · rw [List.getElem_append_left hlt]; exact hA _ (List.getElem_mem _)
  · rw [List.getElem_append_right (Nat.le_refl _)]
    have h0 : 0 < R.length := by simp at h; omega
    simp only [Nat.sub_self]
    exact hR _ (by rw [List.head?_eq_getElem?, List.getElem?_eq_getElem h0])
theorem pos_mid {A B : List PairD} {k v : Int} (hA : LowK A k) : posP (A ++ (k, v) :: B) k = A.length := posP_cat hA (fun p h => by simp at h; subst h; exact Int.le_refl _)
theorem pos_none {A B : List PairD} {k : Int} (hA : LowK A k) (hB : HighK B k) : posP (A ++ B) k = A.length := posP_cat hA (fun p h => by have := hB p (List.mem_of_mem_head? h); omega)
theorem has_mid (A B : List PairD) (k v : Int) : hasP (A ++ (k, v) :: B) k = true := by unfold hasP; simp
theorem has_none {A B : List PairD} {k : Int} (hA : LowK A k) (hB : HighK B k) : hasP (A ++ B) k = false := by
  unfold hasP
  rw [List.any_eq_false]
  intro p hp
  rcases List.mem_append.1 hp with h | h
  · have := hA p h; simp; omega
  · have := hB p h; simp; omega
theorem old_mid {A B : List PairD} {k v : Int} (hA : LowK A k) : oldP (A ++ (k, v) :: B) k = v := by
  unfold oldP
  rw [has_mid, if_pos rfl, pos_mid hA]
  simp [List.getD_eq_getElem?_getD]
theorem old_none {A B : List PairD} {k : Int} (hA : LowK A k) (hB : HighK B k) : oldP (A ++ B) k = 0 := by
  unfold oldP
  rw [has_none hA hB]; rfl
theorem put_mid {A B : List PairD} {k v : Int} (hA : LowK A k) (u : Int) : putP (A ++ (k, v) :: B) k u = A ++ (k, u) :: B := by
  unfold putP
  rw [has_mid, if_pos rfl, pos_mid hA, List.set_append_right _ _ (Nat.le_refl _)]
  simp
theorem put_none {A B : List PairD} {k : Int} (hA : LowK A k) (hB : HighK B k) (u : Int) : putP (A ++ B) k u = A ++ (k, u) :: B := by
  unfold putP
  rw [has_none hA hB, if_neg (by simp), pos_none hA hB, List.take_left, List.drop_left]
theorem del_mid {A B : List PairD} {k v : Int} (hA : LowK A k) : delP (A ++ (k, v) :: B) k = A ++ B := by
  unfold delP
  rw [has_mid, if_pos rfl, pos_mid hA, List.take_left]
  rw [List.drop_append, List.drop_of_length_le (by omega)]
  simp
theorem del_none {A B : List PairD} {k : Int} (hA : LowK A k) (hB : HighK B k) : delP (A ++ B) k = A ++ B := by
  unfold delP
  rw [has_none hA hB, if_neg (by simp)]
theorem filt_none {A B : List PairD} {k : Int} (hA : LowK A k) (hB : HighK B k) : (A ++ B).filter (fun p => p.1 != k) = A ++ B := by
  rw [List.filter_eq_self]
  intro p hp
  rcases List.mem_append.1 hp with h | h
  · have := hA p h; simp; omega
  · have := hB p h; simp; omega
theorem filt_mid {A B : List PairD} {k v : Int} (hA : LowK A k) (hB : HighK B k) : (A ++ (k, v) :: B).filter (fun p => p.1 != k) = A ++ B := by
  have := filt_none hA hB
  rw [List.filter_append] at this ⊢
  rw [List.filter_cons_of_neg (by simp)]
  exact this
/-- a rising list at a key -/
theorem at_key {xs : List PairD} (hr : Rising xs) (k : Int) : ∃ A B, LowK A k ∧ HighK B k ∧ (xs = A ++ B ∧ hasP xs k = false ∨ ∃ v, xs = A ++ (k, v) :: B ∧ hasP xs k = true) := by
  have hlow : LowK (xs.take (posP xs k)) k := fun p hp => by
    obtain ⟨a, ha, rfl⟩ := List.getElem_of_mem hp
    rw [List.getElem_take]
    exact posP_low a (by simp at ha; omega) (by simp at ha; omega)
  cases h : hasP xs k
  · refine ⟨xs.take (posP xs k), xs.drop (posP xs k), hlow, fun p hp => ?_, .inl ⟨by simp, rfl⟩⟩
    obtain ⟨a, ha, rfl⟩ := List.getElem_of_mem hp
    rw [List.getElem_drop]
    exact posP_high hr h _ (by simp at ha; omega) (by omega)
  · obtain ⟨hlt, hk⟩ := posP_lt hr h
    refine ⟨xs.take (posP xs k), xs.drop (posP xs k + 1), hlow, fun p hp => ?_, .inr ⟨xs[posP xs k].2, ?_, rfl⟩⟩
    · obtain ⟨a, ha, rfl⟩ := List.getElem_of_mem hp
      rw [List.getElem_drop]
      have := hr (posP xs k) (posP xs k + 1 + a) hlt (by simp at ha; omega) (by omega)
      have := hk hlt
      omega
    · have e : (k, xs[posP xs k].2) = xs[posP xs k] := Prod.ext (hk hlt).symm rfl
      rw [e, List.getElem_cons_drop, List.take_append_drop]
theorem mem_put {xs : List PairD} (hr : Rising xs) (k u : Int) (p : PairD) : p ∈ putP xs k u ↔ p = (k, u) ∨ p.1 ≠ k ∧ p ∈ xs := by
  obtain ⟨A, B, hA, hB, ⟨rfl, _⟩ | ⟨v, rfl, _⟩⟩ := at_key hr k
  · rw [put_none hA hB]
    simp only [List.mem_append, List.mem_cons]
    constructor
    · rintro (h | h | h)
      · exact .inr ⟨by have := hA p h; omega, .inl h⟩
      · exact .inl h
      · exact .inr ⟨by have := hB p h; omega, .inr h⟩
    · rintro (h | ⟨_, h | h⟩)
      · exact .inr (.inl h)
      · exact .inl h
      · exact .inr (.inr h)
  · rw [put_mid hA]
    simp only [List.mem_append, List.mem_cons]
    constructor
    · rintro (h | h | h)
      · exact .inr ⟨by have := hA p h; omega, .inl h⟩
      · exact .inl h
      · exact .inr ⟨by have := hB p h; omega, .inr (.inr h)⟩
    · rintro (h | ⟨hn, h | h | h⟩)
      · exact .inr (.inl h)
      · exact .inl h
      · exact absurd (by rw [h]) hn
      · exact .inr (.inr h)
theorem mem_del {xs : List PairD} (hr : Rising xs) (k : Int) (p : PairD) : p ∈ delP xs k ↔ p.1 ≠ k ∧ p ∈ xs := by
  obtain ⟨A, B, hA, hB, ⟨rfl, _⟩ | ⟨v, rfl, _⟩⟩ := at_key hr k
  · rw [del_none hA hB]
    constructor
    · intro h
      refine ⟨?_, h⟩
      rcases List.mem_append.1 h with h | h
      · have := hA p h; omega
      · have := hB p h; omega
    · exact fun h => h.2
  · rw [del_mid hA]
    simp only [List.mem_append, List.mem_cons]
    constructor
    · rintro (h | h)
      · exact ⟨by have := hA p h; omega, .inl h⟩
      · exact ⟨by have := hB p h; omega, .inr (.inr h)⟩
    · rintro ⟨hn, h | h | h⟩
      · exact .inl h
      · exact absurd (by rw [h]) hn
      · exact .inr h
theorem mem_has {xs : List PairD} {k : Int} : hasP xs k = true ↔ ∃ v, (k, v) ∈ xs := by
  unfold hasP
  rw [List.any_eq_true]
  constructor
  · rintro ⟨p, hp, he⟩
    have : p.1 = k := by simpa using he
    exact ⟨p.2, by rw [← this]; exact hp⟩
  · rintro ⟨v, h⟩; exact ⟨_, h, by simp⟩
theorem mem_old {xs : List PairD} (hr : Rising xs) {k v : Int} (h : (k, v) ∈ xs) : oldP xs k = v := by
  obtain ⟨A, B, hA, hB, ⟨rfl, hf⟩ | ⟨u, rfl, _⟩⟩ := at_key hr k
  · have := mem_has.2 ⟨v, h⟩; rw [hf] at this; simp at this
  · rw [old_mid hA]
    rcases List.mem_append.1 h with h | h
    · have := hA _ h; simp at this
    · rcases List.mem_cons.1 h with h | h
      · simp at h; exact h.symm
      · have := hB _ h; simp at this
theorem rising_tail {p : PairD} {xs : List PairD} (h : Rising (p :: xs)) : Rising xs ∧ ∀ q ∈ xs, p.1 < q.1 := by
  rw [rising_pairwise, List.pairwise_cons] at h
  exact ⟨rising_pairwise.2 h.2, h.1⟩
/-- rising lists with the same pairs are one -/
theorem rising_ext : ∀ {xs ys : List PairD}, Rising xs → Rising ys → (∀ p, p ∈ xs ↔ p ∈ ys) → xs = ys
  | [], [], _, _, _ => rfl
  | [], q :: ys, _, _, h => by have := (h q).2 (by simp); simp at this
  | p :: xs, [], _, _, h => by have := (h p).1 (by simp); simp at this
  | p :: xs, q :: ys, hx, hy, h => by
    obtain ⟨hx1, hx2⟩ := rising_tail hx
    obtain ⟨hy1, hy2⟩ := rising_tail hy
    have e : p = q := by
      rcases List.mem_cons.1 ((h p).1 (by simp)) with h1 | h1
      · exact h1
      · rcases List.mem_cons.1 ((h q).2 (by simp)) with h2 | h2
        · exact h2.symm
        · have := hx2 q h2; have := hy2 p h1; omega
    subst e
    rw [rising_ext hx1 hy1 fun r => ⟨fun hr => ?_, fun hr => ?_⟩]
    · rcases List.mem_cons.1 ((h r).1 (by simp [hr])) with h1 | h1
      · subst h1; have := hx2 r hr; omega
      · exact h1
    · rcases List.mem_cons.1 ((h r).2 (by simp [hr])) with h1 | h1
      · subst h1; have := hy2 r hr; omega
      · exact h1
end Go.Proofs.Ytodacnpbhlkoiaa
