/- book: the document's Do, delete. -/
import Derived.Test.YthekjeghodpcoaaBookRef6
namespace Go.Proofs.Ythekjeghodpcoaa
open Go.RowKit
set_option linter.unusedVariables false
set_option linter.unusedSimpArgs false

theorem erase_step {L : List PairD} {k : Nat} (p : Nat) (h : k < L.length) : (L.take (k + 1)).eraseIdx p = (L.take k).eraseIdx p ++ (if k = p then [] else [L[k]]) := by
  have hl : (L.take k).length = k := by simp; omega
  rw [List.take_succ_eq_append_getElem h]
  by_cases e : k = p
  · subst e
    rw [if_pos rfl, List.eraseIdx_append_of_length_le (by omega), List.eraseIdx_of_length_le (l := L.take k) (by omega), hl]
    simp
  · rw [if_neg e]
    by_cases hlt : p < k
    · rw [List.eraseIdx_append_of_lt_length (by omega)]
    · rw [List.eraseIdx_of_length_le (l := L.take k) (by omega), List.eraseIdx_of_length_le (by simp; omega)]
theorem erase_len {L : List PairD} (k p : Nat) : ((L.take k).eraseIdx p).length ≤ L.length := by
  have := List.length_eraseIdx_le (L.take k) p
  simp at this; omega
end Go.Proofs.Ythekjeghodpcoaa
