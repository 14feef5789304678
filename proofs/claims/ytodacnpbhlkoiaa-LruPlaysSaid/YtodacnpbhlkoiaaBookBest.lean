/- The law BookPlays: the plain law of the document's Pairs. -/
import Derived.Test.YtodacnpbhlkoiaaBookRefAny
namespace Go.Proofs.Ytodacnpbhlkoiaa
open Go.RowKit
set_option linter.unusedVariables false
set_option linter.unusedSimpArgs false

/-- the best among the first i: none, or the least key that is at least t -/
def Best (L : List PairD) (t : Int) (i : Nat) (b : Int) : Prop :=
  (b = -1 ∧ ∀ a (h : a < L.length), a < i → ¬ t ≤ L[a].1) ∨ ∃ m : Nat, ∃ hm : m < L.length, b = m ∧ m < i ∧ t ≤ L[m].1 ∧ ∀ a (h : a < L.length), a < i → t ≤ L[a].1 → L[m].1 ≤ L[a].1
theorem Best.zero (L : List PairD) (t : Int) : Best L t 0 (-1) := .inl ⟨rfl, fun _ _ h => by omega⟩
theorem Best.low {L : List PairD} {t : Int} {i : Nat} {b : Int} (B : Best L t i b) (hi : i < L.length) (h : ¬ t ≤ L[i].1) : Best L t (i + 1) b := by
  rcases B with ⟨rfl, hB⟩ | ⟨m, hm, rfl, hmi, ht, hB⟩
  · refine .inl ⟨rfl, fun a ha hai => ?_⟩
    by_cases e : a = i
    · subst e; exact h
    · exact hB a ha (by omega)
  · refine .inr ⟨m, hm, rfl, by omega, ht, fun a ha hai hta => ?_⟩
    by_cases e : a = i
    · subst e; exact absurd hta h
    · exact hB a ha (by omega) hta
theorem Best.keep {L : List PairD} {t : Int} {i m : Nat} (hm : m < L.length) (B : Best L t i m) (hi : i < L.length) (h : ¬ L[i].1 < L[m].1) : Best L t (i + 1) m := by
  rcases B with ⟨e, _⟩ | ⟨m', hm', e, hmi, ht, hB⟩
  · omega
  · obtain rfl : m = m' := by omega
    refine .inr ⟨m, hm, rfl, by omega, ht, fun a ha hai hta => ?_⟩
    by_cases e : a = i
    · subst e; omega
    · exact hB a ha (by omega) hta
theorem Best.take {L : List PairD} {t : Int} {i : Nat} {b : Int} (B : Best L t i b) (hi : i < L.length) (ht : t ≤ L[i].1) (h : ∀ m : Nat, ∀ hm : m < L.length, b = m → L[i].1 < L[m].1) : Best L t (i + 1) i := by
  refine .inr ⟨i, hi, rfl, by omega, ht, fun a ha hai hta => ?_⟩
  by_cases e : a = i
  · subst e; exact Int.le_refl _
  · rcases B with ⟨_, hB⟩ | ⟨m, hm, e2, hmi, _, hB⟩
    · exact absurd hta (hB a ha (by omega))
    · have h1 := h m hm e2
      have h2 := hB a ha (by omega) hta
      omega
theorem Best.done {cap : Int} {xs L : List PairD} (A : Alike cap xs L) {k : Nat} (hk : k < xs.length) {b : Int} (B : Best L xs[k].1 L.length b) : ∃ m : Nat, ∃ hm : m < L.length, b = m ∧ L[m] = xs[k] := by
  have hin : xs[k] ∈ L := (A.mem _).1 (List.getElem_mem _)
  obtain ⟨a, ha, he⟩ := List.getElem_of_mem hin
  rcases B with ⟨_, hB⟩ | ⟨m, hm, rfl, _, ht, hB⟩
  · exact absurd (by rw [he]; exact Int.le_refl _) (hB a ha ha)
  · refine ⟨m, hm, rfl, ?_⟩
    have h1 := hB a ha ha (by rw [he]; exact Int.le_refl _)
    rw [he] at h1
    have hkey : L[m].1 = L[a].1 := by rw [he]; omega
    have hma : m = a := by
      have hK := A.keys
      unfold Keys at hK
      rw [List.pairwise_iff_getElem] at hK
      rcases Nat.lt_trichotomy m a with h | h | h
      · exact absurd hkey (hK m a hm ha h)
      · exact h
      · exact absurd hkey.symm (hK a m ha hm h)
    subst hma
    exact he
/-- above the last one taken is the same as at least the next -/
theorem above {cap : Int} {xs L : List PairD} (A : Alike cap xs L) {k : Nat} (hk : k + 1 < xs.length) {a : Nat} (ha : a < L.length) : xs[k].1 < L[a].1 ↔ xs[k + 1].1 ≤ L[a].1 := by
  have hr := A.good.rising
  have hin : L[a] ∈ xs := (A.mem _).2 (List.getElem_mem _)
  obtain ⟨j, hj, he⟩ := List.getElem_of_mem hin
  rw [← he]
  constructor
  · intro h
    by_cases e : j ≤ k
    · by_cases e2 : j = k
      · subst e2; omega
      · have := hr j k hj (by omega) (by omega); omega
    · by_cases e2 : j = k + 1
      · subst e2; exact Int.le_refl _
      · have := hr (k + 1) j hk hj (by omega); omega
  · intro h
    have := hr k (k + 1) (by omega) hk (by omega); omega
theorem first {cap : Int} {xs L : List PairD} (A : Alike cap xs L) (hk : 0 < xs.length) {a : Nat} (ha : a < L.length) : xs[0].1 ≤ L[a].1 := by
  have hin : L[a] ∈ xs := (A.mem _).2 (List.getElem_mem _)
  obtain ⟨j, hj, he⟩ := List.getElem_of_mem hin
  rw [← he]
  by_cases e : j = 0
  · subst e; exact Int.le_refl _
  · have := A.good.rising 0 j hk hj (by omega); omega
end Go.Proofs.Ytodacnpbhlkoiaa
