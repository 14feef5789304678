/- The law BookPlays: the sorted list and the document's list, side by side. -/
import Derived.Test.YtodacnpbhlkoiaaBookRefM
import Derived.Test.YtodacnpbhlkoiaaBookOrdPl
namespace Go.Proofs.Ytodacnpbhlkoiaa
open Go.RowKit
set_option linter.unusedVariables false
set_option linter.unusedSimpArgs false

structure Alike (cap : Int) (xs L : List PairD) : Prop where
  good : Good cap xs
  len : xs.length = L.length
  mem : ∀ p, p ∈ xs ↔ p ∈ L
  keys : Keys L
theorem Alike.has {cap : Int} {xs L : List PairD} (A : Alike cap xs L) (k : Int) : hasP L k = hasP xs k := by
  rw [Bool.eq_iff_iff, mem_has, mem_has]
  exact ⟨fun ⟨v, h⟩ => ⟨v, (A.mem _).2 h⟩, fun ⟨v, h⟩ => ⟨v, (A.mem _).1 h⟩⟩
theorem place_yes {L : List PairD} {k : Int} (h : hasP L k = true) : ∃ p : Nat, ∃ hp : p < L.length, placeP L k = p ∧ L[p].1 = k := by
  obtain ⟨v, hv⟩ := mem_has.1 h
  have hlt : L.findIdx (fun p => p.1 == k) < L.length := List.findIdx_lt_length.2 ⟨_, hv, by simp⟩
  refine ⟨_, hlt, ?_, ?_⟩
  · unfold placeP; rw [h, if_pos rfl]
  · have := List.findIdx_getElem (p := fun (p : PairD) => p.1 == k) (xs := L) (w := hlt)
    simpa using this
theorem Alike.old {cap : Int} {xs L : List PairD} (A : Alike cap xs L) {k : Int} {p : Nat} (hp : p < L.length) (hk : L[p].1 = k) : L[p].2 = oldP xs k := by
  have h : (k, L[p].2) ∈ xs := (A.mem _).2 (by rw [← hk]; exact List.getElem_mem _)
  exact (mem_old A.good.rising h).symm
theorem Alike.old_no {cap : Int} {xs L : List PairD} (A : Alike cap xs L) {k : Int} (h : hasP L k = false) : oldP xs k = 0 := by
  unfold oldP; rw [← A.has k, h]; rfl
/-- L with the pair of place p replaced, removed; a pair behind -/
theorem keys_set {L : List PairD} (h : Keys L) {p : Nat} {k v : Int} (hp : p < L.length) (hk : L[p].1 = k) : Keys (L.set p (k, v)) := by
  unfold Keys at *
  rw [List.pairwise_iff_getElem] at *
  have hkey : ∀ a (ha : a < (L.set p (k, v)).length), ((L.set p (k, v))[a]).1 = (L[a]'(by simpa using ha)).1 := fun a ha => by
    rw [List.getElem_set]
    split
    · rename_i e; subst e; exact hk.symm
    · rfl
  intro i j hi hj hij
  rw [hkey i hi, hkey j hj]
  exact h i j _ _ hij
theorem mem_set {L : List PairD} (h : Keys L) {p : Nat} {k v : Int} (hp : p < L.length) (hk : L[p].1 = k) (q : PairD) : q ∈ L.set p (k, v) ↔ q = (k, v) ∨ q.1 ≠ k ∧ q ∈ L := by
  unfold Keys at h
  rw [List.pairwise_iff_getElem] at h
  constructor
  · intro hq
    obtain ⟨a, ha, rfl⟩ := List.getElem_of_mem hq
    rw [List.getElem_set]
    split
    · exact .inl rfl
    · rename_i e
      have ha' : a < L.length := by simpa using ha
      refine .inr ⟨fun e2 => ?_, List.getElem_mem _⟩
      rcases Nat.lt_or_gt_of_ne e with h1 | h1
      · exact h p a hp ha' h1 (by rw [hk, e2])
      · exact h a p ha' hp h1 (by rw [hk, e2])
  · rintro (rfl | ⟨hn, hq⟩)
    · exact List.mem_set hp _
    · obtain ⟨a, ha, rfl⟩ := List.getElem_of_mem hq
      have e : p ≠ a := fun e => by subst e; exact hn hk
      have := List.getElem_mem (l := L.set p (k, v)) (n := a) (by simpa using ha)
      rwa [List.getElem_set_ne e] at this
theorem mem_erase {L : List PairD} (h : Keys L) {p : Nat} {k : Int} (hp : p < L.length) (hk : L[p].1 = k) (q : PairD) : q ∈ L.eraseIdx p ↔ q.1 ≠ k ∧ q ∈ L := by
  unfold Keys at h
  rw [List.pairwise_iff_getElem] at h
  rw [List.mem_eraseIdx_iff_getElem]
  constructor
  · rintro ⟨a, ha, hne, rfl⟩
    refine ⟨fun e2 => ?_, List.getElem_mem _⟩
    rcases Nat.lt_or_gt_of_ne hne with h1 | h1
    · exact h a p ha hp h1 (by rw [hk, e2])
    · exact h p a hp ha h1 (by rw [hk, e2])
  · rintro ⟨hn, hq⟩
    obtain ⟨a, ha, rfl⟩ := List.getElem_of_mem hq
    exact ⟨a, ha, fun e => by subst e; exact hn hk, rfl⟩
theorem keys_erase {L : List PairD} (h : Keys L) (p : Nat) : Keys (L.eraseIdx p) := h.sublist (List.eraseIdx_sublist ..)
end Go.Proofs.Ytodacnpbhlkoiaa
