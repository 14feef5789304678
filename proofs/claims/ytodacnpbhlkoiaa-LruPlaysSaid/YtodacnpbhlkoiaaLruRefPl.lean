/- lru: the document's LRU: how its keys lie; its book's calls. -/
import Derived.Test.YtodacnpbhlkoiaaLruRef
import Derived.Test.YtodacnpbhlkoiaaLruBookP
namespace Go.Proofs.Ytodacnpbhlkoiaa
open Go.RowKit
set_option linter.unusedVariables false
set_option linter.unusedSimpArgs false

/-- the document's keys are the order backwards, their times rise -/
structure RA (od : List Int) (ps : List (Int × Int)) (clk : Int) : Prop where
  keys : ps.map (·.1) = od.reverse
  up : (ps.map (·.2)).Pairwise (· < ·)
  time : ∀ p ∈ ps, 1 ≤ p.2 ∧ p.2 ≤ clk
theorem RA.len {od : List Int} {ps : List (Int × Int)} {clk : Int} (h : RA od ps clk) : ps.length = od.length := by
  have := congrArg List.length h.keys
  simpa using this
theorem RA.forget {od : List Int} {ps : List (Int × Int)} {clk : Int} (h : RA od ps clk) (k : Int) : RA (dropK od k) (forgetP ps k) clk := by
  refine ⟨?_, ?_, fun p hp => h.time p (List.mem_filter.1 hp).1⟩
  · have e : (forgetP ps k).map (·.1) = (ps.map (·.1)).filter (fun x => x != k) := by
      unfold forgetP
      rw [List.filter_map]; rfl
    rw [e, h.keys, List.filter_reverse]; rfl
  · have hs : ((forgetP ps k).map (·.2)).Sublist (ps.map (·.2)) := List.Sublist.map _ List.filter_sublist
    exact h.up.sublist hs
theorem RA.touch {od : List Int} {ps : List (Int × Int)} {clk : Int} (h : RA od ps clk) (h0 : 0 ≤ clk) (k : Int) : RA (k :: dropK od k) (forgetP ps k ++ [(k, clk + 1)]) (clk + 1) := by
  have hf := h.forget k
  refine ⟨?_, ?_, fun p hp => ?_⟩
  · rw [List.map_append, hf.keys, List.reverse_cons]; rfl
  · rw [List.map_append, List.pairwise_append]
    refine ⟨hf.up, by simp, fun a ha b hb => ?_⟩
    obtain ⟨p, hp, rfl⟩ := List.mem_map.1 ha
    have := (hf.time p hp).2
    have hb' : b = clk + 1 := by simpa using hb
    omega
  · rcases List.mem_append.1 hp with hp | hp
    · have := hf.time p hp; omega
    · obtain rfl : p = (k, clk + 1) := by simpa using hp
      dsimp only; omega
theorem RA.last {od : List Int} {ps : List (Int × Int)} {clk : Int} (h : RA od ps clk) (h0 : 0 < od.length) : ∃ hp : 0 < ps.length, ps[0].1 = lastP od := by
  have hl := h.len
  refine ⟨by omega, ?_⟩
  have e : (ps.map (·.1))[0]? = od.reverse[0]? := by rw [h.keys]
  rw [List.getElem?_eq_getElem (by simp; omega), List.getElem?_eq_getElem (by simp; omega), List.getElem_map, List.getElem_reverse] at e
  rw [last_at h0]
  exact Option.some.inj e
theorem RA.min {od : List Int} {ps : List (Int × Int)} {clk : Int} (h : RA od ps clk) (i : Nat) (hi : i < ps.length) : ¬ ps[i].2 < ps[0].2 := by
  have hp := List.pairwise_iff_getElem.1 h.up
  by_cases e : i = 0
  · subst e; omega
  · have := hp 0 i (by simp; omega) (by simp; omega) (by omega)
    simp at this; omega

theorem doP_shape (cap : Int) (xs : List PairD) (op k v : Int) : ∃ r0 r1 r2 ys, doP cap xs op k v = ((r0, r1, r2, false, 0, 0), ys) := by
  unfold doP resF resE
  split
  · exact ⟨_, _, _, _, rfl⟩
  split
  · exact ⟨_, _, _, _, rfl⟩
  split
  · exact ⟨_, _, _, _, rfl⟩
  split
  · split <;> exact ⟨_, _, _, _, rfl⟩
  split
  · split <;> exact ⟨_, _, _, _, rfl⟩
  · exact ⟨_, _, _, _, rfl⟩
/-- what the document's Do makes of order and times -/
theorem ref_law {cap : Int} {s : List PairD × List Int} {op key val clk : Int} {ps ps1 : List (Int × Int)} {xs1 : List PairD} {x3 : Bool} {x4 x5 : Int} (G : LGood cap s) (HA : RA s.2 ps clk)
    (hx : (x3, x4, x5, ps1, xs1) = if isFull cap s.1 op key then (true, lastP s.2, oldP s.1 (lastP s.2), forgetP ps (lastP s.2), delP s.1 (lastP s.2)) else (false, 0, 0, ps, s.1)) :
    ∃ r0 r1 r2 ys od1, doP cap xs1 op key val = ((r0, r1, r2, false, 0, 0), ys) ∧ lruP cap s op key val = ((r0, r1, r2, x3, x4, x5), (ys, if ((decide (op = 2) || decide (op = 4)) || (decide (op = 0) && hasP s.1 key)) then key :: dropK od1 key else if op = 3 then dropK od1 key else od1)) ∧ RA od1 ps1 clk ∧ od1.length ≤ 16 := by
  have hlen : s.2.length ≤ 16 := by have := G.len; have := G.good.len; have := G.good.hi; omega
  by_cases hF : isFull cap s.1 op key = true
  · rw [if_pos hF] at hx
    simp only [Prod.mk.injEq] at hx
    obtain ⟨rfl, rfl, rfl, rfl, rfl⟩ := hx
    obtain ⟨hop, _, _⟩ := full_has hF
    obtain ⟨_, _, _, _, _, _, _, hd⟩ := evict_do (v := val) G hF
    refine ⟨_, _, _, _, dropK s.2 (lastP s.2), hd, ?_, HA.forget _, Nat.le_trans (List.length_filter_le _ _) hlen⟩
    have e : lruP cap s op key val = _ := if_pos hF
    have hb : ((decide (op = 2) || decide (op = 4)) || (decide (op = 0) && hasP s.1 key)) = true := by rcases hop with rfl | rfl <;> simp
    rw [e, hb]; rfl
  · rw [if_neg hF] at hx
    simp only [Prod.mk.injEq] at hx
    obtain ⟨rfl, rfl, rfl, rfl, rfl⟩ := hx
    obtain ⟨r0, r1, r2, ys, hd⟩ := doP_shape cap s.1 op key val
    refine ⟨r0, r1, r2, ys, s.2, hd, ?_, HA, hlen⟩
    have e : lruP cap s op key val = _ := if_neg hF
    rw [e, hd]
    have hcode := doP_code (v := val) (show isFull cap s.1 op key = false by simpa using hF)
    rw [hd] at hcode
    dsimp only at hcode ⊢
    congr 2
    unfold ordP touches
    rcases hcode with h | h
    · rw [if_pos h]
    · have hne : ¬ op = 0 ∧ ¬ op = 2 ∧ ¬ op = 3 ∧ ¬ op = 4 := by
        refine ⟨?_, ?_, ?_, ?_⟩
        · rintro rfl
          have : doP cap s.1 0 key val = (resF (hasP s.1 key) (oldP s.1 key), s.1) := rfl
          rw [this] at hd; simp [resF] at hd; omega
        · rintro rfl
          have hfu : full cap s.1 key = false := by unfold isFull at hF; simpa using hF
          have : doP cap s.1 2 key val = (resF (hasP s.1 key) (oldP s.1 key), putP s.1 key val) := by unfold doP; simp [hfu]
          rw [this] at hd; simp [resF] at hd; omega
        · rintro rfl
          have : doP cap s.1 3 key val = (resF (hasP s.1 key) (oldP s.1 key), delP s.1 key) := rfl
          rw [this] at hd; simp [resF] at hd; omega
        · rintro rfl
          have hfu : full cap s.1 key = false := by unfold isFull at hF; simpa using hF
          have : doP cap s.1 4 key val = (resF (hasP s.1 key) (add64 (oldP s.1 key) val), putP s.1 key (add64 (oldP s.1 key) val)) := by unfold doP; simp [hfu]
          rw [this] at hd; simp [resF] at hd; omega
      rw [if_neg (by omega)]
      simp [hne]

/-- the document's book, its pairs in any order -/
def RefB (bx : Nat) (cap : Int) (xs : List PairD) (S : Nat → Prop) (w : World) : Prop := ∃ L, Alike cap xs L ∧ RefS bx cap L S w
theorem RefB.framed {bx : Nat} {cap : Int} {xs : List PairD} : Framed (RefB bx cap xs) := Framed.ex fun _ => Framed.and (Framed.pure _) RefS.framed
theorem refBDo_ {bx : Nat} {cap : Int} {xs ys : List PairD} {T : Nat → Prop} {w : World} (hT : RefB bx cap xs T w) {op key val : Int} {r : ResD} (hd : doP cap xs op key val = (r, ys)) :
    Calls Try.prog 34 #[.pointer (some ⟨bx, 0, none⟩), .int .i64 op, .int .u64 key, .int .u64 val] w fun e w' => e = .returned (.agg #[.int .i64 r.1, .bool r.2.1, .int .u64 r.2.2.1, .bool r.2.2.2.1, .int .u64 r.2.2.2.2.1, .int .u64 r.2.2.2.2.2]) ∧ Upd (RefB bx cap ys) T w w' := by
  obtain ⟨L, hA, hS⟩ := hT
  obtain ⟨L2, hA2, hc⟩ := refDo_any bx cap xs L op key val hA
  rw [hd] at hA2 hc
  exact (hc T w hS).mono fun e w' ⟨he, h1, h2⟩ => ⟨he, ⟨L2, hA2, h1⟩, h2⟩
/-- the document's LRU -/
def RefP (rg bx : Nat) (cap : Int) (ps : List (Int × Int)) (clk : Int) (xs : List PairD) : (Nat → Prop) → World → Prop := Sep (RefO rg bx ps clk) (RefB bx cap xs)
theorem RefP.framed {rg bx : Nat} {cap : Int} {ps : List (Int × Int)} {clk : Int} {xs : List PairD} : Framed (RefP rg bx cap ps clk xs) := Sep.framed RefO.framed RefB.framed
theorem RefP.do_ {rg bx : Nat} {cap : Int} {ps : List (Int × Int)} {clk : Int} {xs ys : List PairD} {T : Nat → Prop} {w : World} (hT : RefP rg bx cap ps clk xs T w) {op key val : Int} {r : ResD} (hd : doP cap xs op key val = (r, ys)) :
    Calls Try.prog 34 #[.pointer (some ⟨bx, 0, none⟩), .int .i64 op, .int .u64 key, .int .u64 val] w fun e w' => e = .returned (.agg #[.int .i64 r.1, .bool r.2.1, .int .u64 r.2.2.1, .bool r.2.2.2.1, .int .u64 r.2.2.2.2.1, .int .u64 r.2.2.2.2.2]) ∧ Upd (RefP rg bx cap ps clk ys) T w w' := by
  obtain ⟨B, hB, hb⟩ := hT.focusR RefO.framed
  exact (refBDo_ hB hd).mono fun e w' ⟨he, hu⟩ => ⟨he, hb _ w' RefB.framed hu⟩
theorem RefP.forget_ {rg bx : Nat} {cap : Int} {ps : List (Int × Int)} {clk : Int} {xs : List PairD} {T : Nat → Prop} {w : World} (hT : RefP rg bx cap ps clk xs T w) (hn : ps.length ≤ 100) (key : Int) :
    Calls Try.prog 35 #[.pointer (some ⟨rg, 0, none⟩), .int .u64 key] w fun e w' => e = .returned (.tuple #[]) ∧ Upd (RefP rg bx cap (forgetP ps key) clk xs) T w w' := by
  obtain ⟨B, hB, hb⟩ := hT.focus RefB.framed
  exact (forget_any rg bx ps clk key B w hB hn).mono fun e w' ⟨he, hu⟩ => ⟨he, hb _ w' RefO.framed hu⟩
theorem RefP.cells {rg bx : Nat} {cap : Int} {ps : List (Int × Int)} {clk : Int} {xs : List PairD} {T : Nat → Prop} {w : World} (hT : RefP rg bx cap ps clk xs T w) :
    ∃ vk vw vl, (∃ U, RefOv rg bx vk vw ps clk U w) ∧ w.cell? ⟨bx, 0, none⟩ = some (.int .i64 cap) ∧ w.cell? ⟨bx, 1, none⟩ = some vl ∧ (∃ a c, vl = .slice a xs.length c) ∧ bx < w.heap.size := by
  obtain ⟨A, B, _, _, _, ⟨vk, vw, hp⟩, L, hA, v, hg, hown, _⟩ := hT
  obtain ⟨_, ao, c, rfl, _⟩ := hown
  exact ⟨vk, vw, .slice ao L.length c, ⟨_, hp⟩, (blk_cell hg 0).trans rfl, (blk_cell hg 1).trans rfl, ⟨ao, c, by rw [hA.len]⟩, heap_lt hg⟩
end Go.Proofs.Ytodacnpbhlkoiaa
