/- The law LruEvicts: at; the plain law. -/
import Derived.Test.YtodacnpbhlkoiaaLruSt
import Derived.Test.YtodacnpbhlkoiaaBookDec
namespace Go.Proofs.Ytodacnpbhlkoiaa
open Go.RowKit
set_option linter.unusedVariables false
set_option linter.unusedSimpArgs false

theorem at_any (xs : List Int) (v : Value) (key : Int) (w : World) (hr : Rd eU64 w v xs) :
    Calls Try.prog 10 #[v, .int .u64 key] w fun e w' => (∃ r : Int, e = .returned (.int .i64 r) ∧ (r < 0 ↔ ¬ key ∈ xs) ∧ -1 ≤ r) ∧ Only (fun _ => False) w w' := by
  have HR := Lib.hid hr
  obtain ⟨hm, ao, c, rfl, _, _, _⟩ := hr
  unfold maxLen at hm
  go_enter Try.func10, Try.ntmps10
  go_wp2_with fail
  go_loop [5] (fun t5 => ∃ k : Nat, k ≤ xs.length ∧ t5 = .int .i64 k ∧ Hid (¬ key ∈ xs.take k)) (fun t5 => xs.length - (intOf t5).toNat)
  case atStart => exact ⟨0, Nat.zero_le _, rfl, Lib.hid (by simp)⟩
  case round =>
    obtain ⟨k, hk, rfl, HN⟩ := hrel
    by_cases hlt : k < xs.length
    · obtain ⟨_, ao', c', hao, _, _, hx⟩ := HR.out
      obtain ⟨rfl, -, rfl⟩ : ao = ao' ∧ xs.length = xs.length ∧ c = c' := by simpa using hao
      obtain ⟨sb, off, rfl, hc⟩ := hx (by omega)
      have c0 := hc k _ (eU64_at xs k hlt)
      have hi0 : (0 : Int) ≤ (k : Int) := by omega
      have hi1 : (k : Int) < (xs.length : Int) := by omega
      have HM := Lib.hid (List.getElem_mem hlt)
      have HT := Lib.hid (List.take_succ_eq_append_getElem hlt)
      clear hc hx hao
      generalize xs[k] = p0 at *
      by_cases he : p0 = key
      · subst he
        have hb : (p0 == p0) = true := by simp
        go_wp2_with fail
        go_ret
        exact ⟨⟨_, rfl, ⟨fun h => by omega, fun h => absurd HM.out h⟩, by omega⟩, Only.refl _ _⟩
      · have hb : (p0 == key) = false := by simpa using he
        have HN2 := Lib.hid (show ¬ key ∈ xs.take (k + 1) by rw [HT.out]; simp only [List.mem_append, List.mem_singleton]; exact fun h => h.elim HN.out fun h => he h.symm)
        clear he
        go_wp2_with fail
        go_round
        case rel => exact ⟨k + 1, by omega, by go_num, HN2⟩
        case measure => simp [intOf]; omega
    · obtain rfl : k = xs.length := by omega
      have HN2 := Lib.hid (show ¬ key ∈ xs by have := HN.out; rwa [List.take_length] at this)
      go_wp2_with fail
      go_ret
      exact ⟨⟨_, rfl, ⟨fun _ => HN2.out, fun _ => by decide⟩, by decide⟩, Only.refl _ _⟩
theorem at_mem (xs : List Int) (v : Value) (key : Int) (w : World) (hr : Rd eU64 w v xs) (hm : key ∈ xs) :
    Calls Try.prog 10 #[v, .int .u64 key] w fun e w' => (∃ r : Nat, e = .returned (.int .i64 (r : Int))) ∧ Only (fun _ => False) w w' :=
  (at_any xs v key w hr).mono fun e w' ⟨⟨r, he, h1, h2⟩, ho⟩ => ⟨⟨r.toNat, by
    have : ¬ r < 0 := fun h => h1.1 h hm
    rw [he, show ((r.toNat : Nat) : Int) = r by omega]⟩, ho⟩
theorem dropLast_dropK {od : List Int} (h : od.Nodup) (h0 : 0 < od.length) : dropK od (lastP od) = od.take (od.length - 1) := by
  have e : od = od.take (od.length - 1) ++ [lastP od] := by
    rw [last_at h0]
    conv => lhs; rw [← List.take_append_drop (od.length - 1) od]
    congr 1
    rw [List.drop_eq_getElem_cons (by omega), List.drop_eq_nil_of_le (by omega)]
  generalize lastP od = l at *
  generalize od.take (od.length - 1) = A at *
  subst e
  have hn : ¬ l ∈ A := fun hm => (List.nodup_append.1 h).2.2 _ hm _ (List.mem_singleton_self _) rfl
  unfold dropK
  rw [List.filter_append]
  have h1 : A.filter (fun k => k != l) = A := by
    rw [List.filter_eq_self]
    intro a ha
    have : a ≠ l := fun e => hn (e ▸ ha)
    simpa using this
  rw [h1]; simp
/-- what LruEvicts says of one call -/
structure EvLaw (cap : Int) (s : List PairD × List Int) (op dk : Int) (had p : Bool) (x3 : Bool) (x4 x5 : Int) (W : List Int) (s2 : List PairD × List Int) : Prop where
  cases : (p = true ∧ had = false ∧ x3 = true ∧ ((s.2.length : Int) == cap) = true) ∨ (p = true ∧ had = false ∧ x3 = false ∧ ((s.2.length : Int) == cap) = false) ∨ (p = true ∧ had = true ∧ x3 = false) ∨ (p = false ∧ x3 = false)
  out : x3 = true → 0 < s.2.length ∧ x4 = lastP s.2 ∧ W = s.2.take (s.2.length - 1)
  no : x3 = false → x4 = 0 ∧ x5 = 0 ∧ W = s.2
  list : s2.2 = if p || (decide (op = 0) && had) then dk :: dropK W dk else if op = 3 then dropK W dk else W
theorem ev_law {cap : Int} {s s2 : List PairD × List Int} {op dk dv x0 x2 x4 x5 : Int} {x1 x3 : Bool} (G : LGood cap s) (hd : lruP cap s op dk dv = ((x0, x1, x2, x3, x4, x5), s2)) :
    EvLaw cap s op dk (decide (dk ∈ s.2)) (decide (op = 2) || decide (op = 4)) x3 x4 x5 (if x3 then s.2.take (s.2.length - 1) else s.2) s2 := by
  by_cases hF : isFull cap s.1 op dk = true
  · obtain ⟨hop, hf, hl⟩ := full_has hF
    obtain ⟨_, h0, _⟩ := evict_do (v := dv) G hF
    have hp : lruP cap s op dk dv = _ := if_pos hF
    rw [hp] at hd
    simp only [Prod.mk.injEq] at hd
    obtain ⟨⟨-, -, -, h3, h4, h5⟩, hs⟩ := hd
    subst h3 h4 h5 hs
    have hpt : (decide (op = 2) || decide (op = 4)) = true := by simpa using hop
    have hn : decide (dk ∈ s.2) = false := by
      have : ¬ dk ∈ s.2 := fun h => by have := (G.keys dk).1 h; rw [hf] at this; simp at this
      simpa using this
    refine ⟨.inl ⟨hpt, hn, rfl, ?_⟩, fun _ => ⟨h0, rfl, rfl⟩, fun h => by simp at h, ?_⟩
    · rw [G.len, hl]; simp
    · rw [hpt]
      simp only [Bool.true_or, if_true]
      rw [dropLast_dropK G.nodup h0]
  · have hF' : isFull cap s.1 op dk = false := by simpa using hF
    have hp : lruP cap s op dk dv = _ := if_neg hF
    rw [hp] at hd
    have hdo : ∃ y0 y1 y2, (doP cap s.1 op dk dv).1 = (y0, y1, y2, false, 0, 0) ∧ (if y0 = 0 then ordP s.1 s.2 op dk else s.2) = if (decide (op = 2) || decide (op = 4)) || (decide (op = 0) && decide (dk ∈ s.2)) then dk :: dropK s.2 dk else if op = 3 then dropK s.2 dk else s.2 := by
      have hk : hasP s.1 dk = decide (dk ∈ s.2) := by
        cases e : hasP s.1 dk
        · have : ¬ dk ∈ s.2 := fun h => by have := (G.keys dk).1 h; rw [e] at this; simp at this
          simpa using this
        · have := (G.keys dk).2 e; simpa using this
      by_cases h0 : op = 0
      · subst h0
        refine ⟨0, _, _, rfl, ?_⟩
        unfold ordP touches
        rw [hk]; simp
      by_cases h1 : op = 1
      · subst h1
        refine ⟨0, _, _, rfl, ?_⟩
        unfold ordP touches
        simp
      by_cases h3 : op = 3
      · subst h3
        refine ⟨0, _, _, rfl, ?_⟩
        unfold ordP touches
        simp
      by_cases h2 : op = 2
      · subst h2
        have hfu : full cap s.1 dk = false := by unfold isFull at hF'; simpa using hF'
        refine ⟨0, hasP s.1 dk, oldP s.1 dk, by unfold doP; simp [hfu, resF], ?_⟩
        unfold ordP touches
        simp
      by_cases h4 : op = 4
      · subst h4
        have hfu : full cap s.1 dk = false := by unfold isFull at hF'; simpa using hF'
        refine ⟨0, hasP s.1 dk, add64 (oldP s.1 dk) dv, by unfold doP; simp [hfu, resF], ?_⟩
        unfold ordP touches
        simp
      · exact ⟨2, false, 0, by unfold doP; simp [h0, h1, h2, h3, h4, resE], by simp [h0, h2, h3, h4]⟩
    obtain ⟨y0, y1, y2, hy, hl⟩ := hdo
    rw [hy] at hd
    simp only [Prod.mk.injEq] at hd
    obtain ⟨⟨h0, h1, h2, h3, h4, h5⟩, hs⟩ := hd
    subst h3 h4 h5 hs
    refine ⟨?_, fun h => by simp at h, fun _ => ⟨rfl, rfl, rfl⟩, hl⟩
    by_cases hp2 : op = 2 ∨ op = 4
    · have hpt : (decide (op = 2) || decide (op = 4)) = true := by simpa using hp2
      by_cases hm : dk ∈ s.2
      · exact .inr (.inr (.inl ⟨hpt, by simpa using hm, rfl⟩))
      · refine .inr (.inl ⟨hpt, by simpa using hm, rfl, ?_⟩)
        have hk : hasP s.1 dk = false := by
          cases e : hasP s.1 dk
          · rfl
          · exact absurd ((G.keys dk).2 e) hm
        unfold isFull full at hF'
        rw [hpt, hk] at hF'
        rw [G.len]
        simpa using hF'
    · exact .inr (.inr (.inr ⟨by simpa using hp2, rfl⟩))
end Go.Proofs.Ytodacnpbhlkoiaa
