/- lru: the plain law of Do. -/
import Derived.Test.YtodacnpbhlkoiaaLruOrd
import Derived.Test.YtodacnpbhlkoiaaBookMore
namespace Go.Proofs.Ytodacnpbhlkoiaa
open Go.RowKit
set_option linter.unusedVariables false
set_option linter.unusedSimpArgs false

def lastP (od : List Int) : Int := od.getLastD 0
def touches (xs : List PairD) (op k : Int) : Bool := decide (op = 2) || decide (op = 4) || (decide (op = 0) && hasP xs k)
def ordP (xs : List PairD) (od : List Int) (op k : Int) : List Int := if touches xs op k then k :: dropK od k else if op = 3 then dropK od k else od
def isFull (cap : Int) (xs : List PairD) (op k : Int) : Bool := (decide (op = 2) || decide (op = 4)) && full cap xs k
def lruP (cap : Int) (s : List PairD × List Int) (op k v : Int) : ResD × (List PairD × List Int) :=
  if isFull cap s.1 op k then
    ((0, false, if op = 4 then add64 0 v else 0, true, lastP s.2, oldP s.1 (lastP s.2)), (putP (delP s.1 (lastP s.2)) k (if op = 4 then add64 0 v else v), k :: dropK (dropK s.2 (lastP s.2)) k))
  else ((doP cap s.1 op k v).1, ((doP cap s.1 op k v).2, if (doP cap s.1 op k v).1.1 = 0 then ordP s.1 s.2 op k else s.2))
structure LGood (cap : Int) (s : List PairD × List Int) : Prop where
  good : Good cap s.1
  nodup : s.2.Nodup
  keys : ∀ k, k ∈ s.2 ↔ hasP s.1 k = true

theorem mem_dropK {od : List Int} {k j : Int} : j ∈ dropK od k ↔ j ∈ od ∧ j ≠ k := by unfold dropK; simp
theorem nodup_dropK {od : List Int} (h : od.Nodup) (k : Int) : (dropK od k).Nodup := h.sublist List.filter_sublist
theorem nodup_touch {od : List Int} (h : od.Nodup) (k : Int) : (k :: dropK od k).Nodup := by
  rw [List.nodup_cons]; exact ⟨fun h => (mem_dropK.1 h).2 rfl, nodup_dropK h k⟩
theorem keys_nodup {xs : List PairD} (hr : Rising xs) : (xs.map (·.1)).Nodup := by
  rw [rising_pairwise] at hr
  rw [List.nodup_iff_pairwise_ne, List.pairwise_map]
  exact hr.imp fun h => by omega
theorem mem_keys {xs : List PairD} {k : Int} : k ∈ xs.map (·.1) ↔ hasP xs k = true := by
  rw [mem_has, List.mem_map]
  exact ⟨fun ⟨p, hp, e⟩ => ⟨p.2, by subst e; exact hp⟩, fun ⟨v, h⟩ => ⟨_, h, rfl⟩⟩
theorem LGood.len {cap : Int} {s : List PairD × List Int} (G : LGood cap s) : s.2.length = s.1.length := by
  have h : s.2.Perm (s.1.map (·.1)) := (List.perm_ext_iff_of_nodup G.nodup (keys_nodup G.good.rising)).2 fun k => by rw [G.keys, mem_keys]
  simpa using h.length_eq
theorem has_put {xs : List PairD} (hr : Rising xs) (k v j : Int) : hasP (putP xs k v) j = true ↔ j = k ∨ hasP xs j = true := by
  rw [mem_has, mem_has]
  constructor
  · rintro ⟨u, h⟩
    rcases (mem_put hr k v _).1 h with h | h
    · exact .inl (by simpa using congrArg Prod.fst h)
    · exact .inr ⟨u, h.2⟩
  · rintro (rfl | ⟨u, h⟩)
    · exact ⟨v, (mem_put hr _ _ _).2 (.inl rfl)⟩
    · by_cases e : j = k
      · subst e; exact ⟨v, (mem_put hr _ _ _).2 (.inl rfl)⟩
      · exact ⟨u, (mem_put hr _ _ _).2 (.inr ⟨e, h⟩)⟩
theorem has_del {xs : List PairD} (hr : Rising xs) (k j : Int) : hasP (delP xs k) j = true ↔ j ≠ k ∧ hasP xs j = true := by
  rw [mem_has, mem_has]
  constructor
  · rintro ⟨u, h⟩
    have := (mem_del hr k _).1 h
    exact ⟨this.1, u, this.2⟩
  · rintro ⟨e, u, h⟩
    exact ⟨u, (mem_del hr k _).2 ⟨e, h⟩⟩
theorem keys_touch {od : List Int} {k j : Int} : j ∈ k :: dropK od k ↔ j = k ∨ j ∈ od := by
  rw [List.mem_cons, mem_dropK]
  by_cases e : j = k <;> simp [e]
theorem last_mem {od : List Int} (h : 0 < od.length) : lastP od ∈ od := by
  unfold lastP
  cases od with
  | nil => simp at h
  | cons a l => rw [List.getLastD_cons]; cases l with
    | nil => simp
    | cons b l => simp only [List.getLastD_cons]; exact List.mem_cons_of_mem _ (List.getLastD_mem_cons ..)
theorem last_at {od : List Int} (h : 0 < od.length) : lastP od = od[od.length - 1] := by
  unfold lastP
  rw [List.getLastD_eq_getLast?, List.getLast?_eq_getElem?, List.getElem?_eq_getElem (by omega)]; rfl
theorem full_has {cap : Int} {xs : List PairD} {op k : Int} (h : isFull cap xs op k = true) : (op = 2 ∨ op = 4) ∧ hasP xs k = false ∧ (xs.length : Int) = cap := by
  unfold isFull full at h
  simpa using h
theorem del_len' {xs : List PairD} (hr : Rising xs) (k : Int) (h : hasP xs k = true) : (delP xs k).length + 1 = xs.length := by
  unfold delP
  rw [if_pos h]
  have := (posP_lt hr h).1
  simp; omega
/-- the second try of a full LRU goes in -/
theorem evict_do {cap : Int} {s : List PairD × List Int} {op k v : Int} (G : LGood cap s) (h : isFull cap s.1 op k = true) :
    doP cap s.1 op k v = (resE 40, s.1) ∧ 0 < s.2.length ∧ hasP s.1 (lastP s.2) = true ∧ doP cap s.1 3 (lastP s.2) 0 = (resF true (oldP s.1 (lastP s.2)), delP s.1 (lastP s.2)) ∧ Good cap (delP s.1 (lastP s.2)) ∧ hasP (delP s.1 (lastP s.2)) k = false ∧ full cap (delP s.1 (lastP s.2)) k = false ∧
    doP cap (delP s.1 (lastP s.2)) op k v = (resF false (if op = 4 then add64 0 v else 0), putP (delP s.1 (lastP s.2)) k (if op = 4 then add64 0 v else v)) := by
  obtain ⟨hop, hf, hl⟩ := full_has h
  have h0 : 0 < s.2.length := by have := G.len; have := G.good.lo; omega
  have hlh := (G.keys _).1 (last_mem h0)
  have hlen := del_len' G.good.rising _ hlh
  have hnk : hasP (delP s.1 (lastP s.2)) k = false := by
    cases e : hasP (delP s.1 (lastP s.2)) k
    · rfl
    · have := ((has_del G.good.rising _ _).1 e).2; rw [hf] at this; simp at this
  have hnf : full cap (delP s.1 (lastP s.2)) k = false := by
    unfold full
    have : ¬ (((delP s.1 (lastP s.2)).length : Int) = cap) := by omega
    simp [this]
  have hfull : full cap s.1 k = true := by unfold full; simp [hf, hl]
  have ho : oldP (delP s.1 (lastP s.2)) k = 0 := by unfold oldP; rw [hnk]; rfl
  refine ⟨?_, h0, hlh, ?_, del_good G.good, hnk, hnf, ?_⟩
  · unfold doP
    rcases hop with rfl | rfl <;> simp [hfull]
  · unfold doP; simp [hlh]
  · unfold doP
    rcases hop with rfl | rfl <;> simp [hnf, hnk, ho]
theorem lru_good {cap : Int} {s : List PairD × List Int} {op k v : Int} (G : LGood cap s) : LGood cap (lruP cap s op k v).2 := by
  have hr := G.good.rising
  unfold lruP
  by_cases hF : isFull cap s.1 op k = true
  · rw [if_pos hF]
    obtain ⟨_, _, hlh, _, hg, hnk, hnf, _⟩ := evict_do (v := v) G hF
    refine ⟨put_good hg hnf, nodup_touch (nodup_dropK G.nodup _) _, fun j => ?_⟩
    rw [keys_touch, mem_dropK, has_put hg.rising, has_del hr, G.keys]
    constructor
    · rintro (h | ⟨h1, h2⟩)
      · exact .inl h
      · exact .inr ⟨h2, h1⟩
    · rintro (h | ⟨h1, h2⟩)
      · exact .inl h
      · exact .inr ⟨h2, h1⟩
  · rw [if_neg hF]
    have hF' : isFull cap s.1 op k = false := by simpa using hF
    refine ⟨do_good G.good, ?_, fun j => ?_⟩
    · dsimp only
      split
      · unfold ordP
        split
        · exact nodup_touch G.nodup _
        · split
          · exact nodup_dropK G.nodup _
          · exact G.nodup
      · exact G.nodup
    · dsimp only
      by_cases h0 : op = 0
      · subst h0
        have e : doP cap s.1 0 k v = (resF (hasP s.1 k) (oldP s.1 k), s.1) := rfl
        rw [e]
        show j ∈ ordP s.1 s.2 0 k ↔ _
        unfold ordP
        cases hf : hasP s.1 k
        · rw [if_neg (by simp [touches, hf])]; exact G.keys j
        · rw [if_pos (by simp [touches, hf]), keys_touch]
          rw [G.keys]
          constructor
          · rintro (rfl | h)
            · exact hf
            · exact h
          · exact .inr
      by_cases h1 : op = 1
      · subst h1
        have e : doP cap s.1 1 k v = (resF (hasP s.1 k) 0, s.1) := rfl
        rw [e]
        exact G.keys j
      by_cases h3 : op = 3
      · subst h3
        have e : doP cap s.1 3 k v = (resF (hasP s.1 k) (oldP s.1 k), delP s.1 k) := rfl
        rw [e]
        show j ∈ dropK s.2 k ↔ hasP (delP s.1 k) j = true
        rw [mem_dropK, has_del hr, G.keys]
        exact And.comm
      by_cases h2 : op = 2
      · subst h2
        have hfu : full cap s.1 k = false := by unfold isFull at hF'; simpa using hF'
        have e : doP cap s.1 2 k v = (resF (hasP s.1 k) (oldP s.1 k), putP s.1 k v) := by unfold doP; simp [hfu]
        rw [e]
        show j ∈ k :: dropK s.2 k ↔ hasP (putP s.1 k v) j = true
        rw [keys_touch, has_put hr, G.keys]
      by_cases h4 : op = 4
      · subst h4
        have hfu : full cap s.1 k = false := by unfold isFull at hF'; simpa using hF'
        have e : doP cap s.1 4 k v = (resF (hasP s.1 k) (add64 (oldP s.1 k) v), putP s.1 k (add64 (oldP s.1 k) v)) := by unfold doP; simp [hfu]
        rw [e]
        show j ∈ k :: dropK s.2 k ↔ hasP (putP s.1 k _) j = true
        rw [keys_touch, has_put hr, G.keys]
      · have e : doP cap s.1 op k v = (resE 2, s.1) := by unfold doP; simp [h0, h1, h2, h3, h4]
        rw [e]
        exact G.keys j
theorem lgood_nil {cap : Int} (h1 : 1 ≤ cap) (h2 : cap ≤ 16) : LGood cap ([], []) := ⟨good_nil h1 h2, List.nodup_nil, fun k => by simp [hasP]⟩
end Go.Proofs.Ytodacnpbhlkoiaa
