/- The law LruBook: its plain law. -/
import Derived.Test.YtodacnpbhlkoiaaLruSt
import Derived.Test.YtodacnpbhlkoiaaSt2
import Derived.Test.YtodacnpbhlkoiaaBookDec
namespace Go.Proofs.Ytodacnpbhlkoiaa
open Go.RowKit
set_option linter.unusedVariables false
set_option linter.unusedSimpArgs false

theorem doP_code {cap : Int} {xs : List PairD} {op k v : Int} (h : isFull cap xs op k = false) : (doP cap xs op k v).1.1 = 0 ∨ (doP cap xs op k v).1.1 = 2 := by
  by_cases h0 : op = 0
  · subst h0; exact .inl rfl
  by_cases h1 : op = 1
  · subst h1; exact .inl rfl
  by_cases h3 : op = 3
  · subst h3; exact .inl rfl
  by_cases h2 : op = 2
  · subst h2
    have hfu : full cap xs k = false := by unfold isFull at h; simpa using h
    exact .inl (by unfold doP; simp [hfu, resF])
  by_cases h4 : op = 4
  · subst h4
    have hfu : full cap xs k = false := by unfold isFull at h; simpa using h
    exact .inl (by unfold doP; simp [hfu, resF])
  · exact .inr (by unfold doP; simp [h0, h1, h2, h3, h4, resE])
theorem lb_not {cap : Int} {s : List PairD × List Int} {op k v : Int} (h : isFull cap s.1 op k = false) :
    ∃ r s2, doP cap s.1 op k v = (r, s2.1) ∧ lruP cap s op k v = (r, s2) ∧ r.1 ≠ 40 := by
  refine ⟨(doP cap s.1 op k v).1, (lruP cap s op k v).2, ?_, ?_, ?_⟩
  · unfold lruP; rw [if_neg (by simp [h])]
  · unfold lruP; rw [if_neg (by simp [h])]
  · rcases doP_code (v := v) h with h | h <;> omega
theorem lb_full {cap : Int} {s : List PairD × List Int} {op k v : Int} (G : LGood cap s) (h : isFull cap s.1 op k = true) :
    ∃ x2 l o s2, doP cap s.1 op k v = ((40, false, 0, false, 0, 0), s.1) ∧ lruP cap s op k v = ((0, false, x2, true, l, o), s2) ∧ (s2.1.length : Int) = cap := by
  obtain ⟨h1, h0, hlh, _, hg, hnk, hnf, _⟩ := evict_do (v := v) G h
  obtain ⟨_, _, hl⟩ := full_has h
  refine ⟨_, _, _, _, h1, if_pos h, ?_⟩
  have hd := del_len' G.good.rising _ hlh
  unfold putP
  rw [hnk]
  have := posP_le (delP s.1 (lastP s.2)) k
  simp
  omega
end Go.Proofs.Ytodacnpbhlkoiaa
