/- The law BookPlays: the document's Do answers as the sorted list's. -/
import Derived.Test.YtodacnpbhlkoiaaBookAlike
namespace Go.Proofs.Ytodacnpbhlkoiaa
open Go.RowKit
set_option linter.unusedVariables false
set_option linter.unusedSimpArgs false

theorem del_len {xs : List PairD} (hr : Rising xs) (k : Int) : (delP xs k).length = if hasP xs k then xs.length - 1 else xs.length := by
  unfold delP
  cases h : hasP xs k
  · simp
  · obtain ⟨hlt, _⟩ := posP_lt hr h
    simp; omega
theorem Alike.app {cap : Int} {xs L : List PairD} (A : Alike cap xs L) {k v : Int} (h : hasP L k = false) (hl : ¬ cap ≤ (L.length : Int)) : Alike cap (putP xs k v) (L ++ [(k, v)]) := by
  have hx : hasP xs k = false := by rw [← A.has]; exact h
  have hne : ∀ p ∈ L, p.1 ≠ k := fun p hp e => by
    have : hasP L k = true := mem_has.2 ⟨p.2, by rw [← e]; exact hp⟩
    rw [h] at this; simp at this
  refine ⟨put_good A.good (by unfold full; rw [hx]; have := A.len; simp; omega), by rw [put_new_len _ _ _ hx, A.len]; simp, fun p => ?_, ?_⟩
  · rw [mem_put A.good.rising, List.mem_append, List.mem_singleton, A.mem]
    constructor
    · rintro (h1 | ⟨_, h1⟩)
      · exact .inr h1
      · exact .inl h1
    · rintro (h1 | h1)
      · exact .inr ⟨hne p h1, h1⟩
      · exact .inl h1
  · unfold Keys
    rw [List.pairwise_append]
    exact ⟨A.keys, by simp, fun q hq r hr => by
      obtain rfl : r = (k, v) := by simpa using hr
      exact hne q hq⟩
theorem Alike.set {cap : Int} {xs L : List PairD} (A : Alike cap xs L) {k v : Int} {p : Nat} (hp : p < L.length) (hk : L[p].1 = k) : Alike cap (putP xs k v) (L.set p (k, v)) := by
  have hL : hasP L k = true := mem_has.2 ⟨L[p].2, by rw [← hk]; exact List.getElem_mem _⟩
  have hx : hasP xs k = true := by rw [← A.has]; exact hL
  refine ⟨put_good A.good (by unfold full; rw [hx]; rfl), by rw [put_old_len _ _ _ hx, A.len]; simp, fun q => ?_, keys_set A.keys hp hk⟩
  rw [mem_put A.good.rising, mem_set A.keys hp hk, A.mem]
theorem Alike.del {cap : Int} {xs L : List PairD} (A : Alike cap xs L) {k : Int} {p : Nat} (hp : p < L.length) (hk : L[p].1 = k) : Alike cap (delP xs k) (L.eraseIdx p) := by
  have hL : hasP L k = true := mem_has.2 ⟨L[p].2, by rw [← hk]; exact List.getElem_mem _⟩
  have hx : hasP xs k = true := by rw [← A.has]; exact hL
  refine ⟨del_good A.good, by rw [del_len A.good.rising, hx, if_pos rfl, A.len, List.length_eraseIdx_of_lt hp], fun q => ?_, keys_erase A.keys p⟩
  rw [mem_del A.good.rising, mem_erase A.keys hp hk, A.mem]
theorem refDo_any (x : Nat) (cap : Int) (xs L : List PairD) (op key val : Int) (A : Alike cap xs L) :
    ∃ L2, Alike cap (doP cap xs op key val).2 L2 ∧ ∀ (S : Nat → Prop) (w : World), RefS x cap L S w → Calls Try.prog 34 #[.pointer (some ⟨x, 0, none⟩), .int .i64 op, .int .u64 key, .int .u64 val] w (RefPost x S cap w (doP cap xs op key val).1 L2) := by
  have hL : L.length ≤ 16 := by have := A.len; have := A.good.len; have := A.good.hi; omega
  have hlen : (xs.length : Int) = (L.length : Int) := by rw [A.len]
  unfold doP
  cases hh : hasP L key
  · have hx : hasP xs key = false := by rw [← A.has]; exact hh
    have ho := A.old_no hh
    by_cases h0 : op = 0
    · subst h0; rw [if_pos rfl, hx, ho]
      exact ⟨L, A, fun S w H => refGet_no x cap L S key val w H hL hh⟩
    by_cases h1 : op = 1
    · subst h1; rw [if_neg (by decide), if_pos rfl, hx]
      exact ⟨L, A, fun S w H => refHas_no x cap L S key val w H hL hh⟩
    by_cases h3 : op = 3
    · subst h3; rw [if_neg (by decide), if_neg (by decide), if_pos rfl, hx, ho]
      have hd : delP xs key = xs := by unfold delP; rw [hx]; rfl
      rw [hd]
      exact ⟨L, A, fun S w H => refDel_no x cap L S key val w H hL hh⟩
    by_cases h2 : op = 2
    · subst h2; rw [if_neg (by decide), if_neg (by decide), if_neg (by decide), if_pos rfl]
      by_cases hf : cap ≤ (L.length : Int)
      · rw [if_pos (by unfold full; rw [hx]; have := A.good.len; simp; omega)]
        exact ⟨L, A, fun S w H => refFullPut x cap L S key val w H hL hh hf⟩
      · rw [if_neg (by unfold full; rw [hx]; simp; omega), hx, ho]
        exact ⟨_, A.app hh hf, fun S w H => refPut_no x cap L S key val w H hL hh hf⟩
    by_cases h4 : op = 4
    · subst h4; rw [if_neg (by decide), if_neg (by decide), if_neg (by decide), if_neg (by decide), if_pos rfl]
      by_cases hf : cap ≤ (L.length : Int)
      · rw [if_pos (by unfold full; rw [hx]; have := A.good.len; simp; omega)]
        exact ⟨L, A, fun S w H => refFullAdd x cap L S key val w H hL hh hf⟩
      · rw [if_neg (by unfold full; rw [hx]; simp; omega), hx, ho, show add64 0 val = IntKind.u64.wrap val by unfold add64; rw [Int.zero_add]]
        exact ⟨_, A.app hh hf, fun S w H => refAdd_no x cap L S key val w H hL hh hf⟩
    rw [if_neg h0, if_neg h1, if_neg h3, if_neg h2, if_neg h4]
    exact ⟨L, A, fun S w H => refBad_no x cap L S op key val w H hL hh h0 h1 h2 h3 h4⟩
  · have hx : hasP xs key = true := by rw [← A.has]; exact hh
    obtain ⟨p, hp, hpl, hk⟩ := place_yes hh
    have ho := A.old hp hk
    have hf : full cap xs key = false := by unfold full; rw [hx]; rfl
    by_cases h0 : op = 0
    · subst h0; rw [if_pos rfl, hx, ← ho]
      exact ⟨L, A, fun S w H => refGet_yes x cap L S key val w H hL p hp hpl⟩
    by_cases h1 : op = 1
    · subst h1; rw [if_neg (by decide), if_pos rfl, hx]
      exact ⟨L, A, fun S w H => refHas_yes x cap L S key val w H hL p hp hpl⟩
    by_cases h3 : op = 3
    · subst h3; rw [if_neg (by decide), if_neg (by decide), if_pos rfl, hx, ← ho]
      exact ⟨_, A.del hp hk, fun S w H => refDel_yes x cap L S key val w H hL p hp hpl⟩
    by_cases h2 : op = 2
    · subst h2; rw [if_neg (by decide), if_neg (by decide), if_neg (by decide), if_pos rfl, hf, if_neg (by decide), hx, ← ho]
      exact ⟨_, A.set hp hk, fun S w H => refPut_yes x cap L S key val w H hL p hp hpl hk⟩
    by_cases h4 : op = 4
    · subst h4; rw [if_neg (by decide), if_neg (by decide), if_neg (by decide), if_neg (by decide), if_pos rfl, hf, if_neg (by decide), hx, ← ho]
      exact ⟨_, A.set hp hk, fun S w H => refAdd_yes x cap L S key val w H hL p hp hpl hk⟩
    rw [if_neg h0, if_neg h1, if_neg h3, if_neg h2, if_neg h4]
    exact ⟨L, A, fun S w H => refBad_yes x cap L S op key val w H hL p hp hpl h0 h1 h2 h3 h4⟩
/-- the document's Do beside something else -/
theorem refDoL {P X : (Nat → Prop) → World → Prop} {w0 w : World} {x : Nat} {cap : Int} {L L2 : List PairD} {r : ResD} {op key val : Int} (hP : Framed P) (hX : Framed X) (h : LSt P (RefS x cap L) X w0 w)
    (H : ∀ (S : Nat → Prop) (w : World), RefS x cap L S w → Calls Try.prog 34 #[.pointer (some ⟨x, 0, none⟩), .int .i64 op, .int .u64 key, .int .u64 val] w (RefPost x S cap w r L2)) :
    Calls Try.prog 34 #[.pointer (some ⟨x, 0, none⟩), .int .i64 op, .int .u64 key, .int .u64 val] w fun e w' => e = .returned (.agg #[.int .i64 r.1, .bool r.2.1, .int .u64 r.2.2.1, .bool r.2.2.2.1, .int .u64 r.2.2.2.2.1, .int .u64 r.2.2.2.2.2]) ∧ LSt P (RefS x cap L2) X w0 w' :=
  (LSt.call (E := fun e => e = .returned (ResD.val r)) RefS.framed hP hX (h.swap hP RefS.framed hX) fun S hS => H S w hS).mono fun e w' ⟨he, hl⟩ => ⟨he, hl.swap RefS.framed hP hX⟩
theorem refNewL {P X : (Nat → Prop) → World → Prop} {w0 w : World} (hP : Framed P) (hX : Framed X) (h : LSt P NoX X w0 w) (cap : Int) (h1 : 1 ≤ cap) (h2 : cap ≤ 16) :
    Calls Try.prog 33 #[.int .i64 cap] w fun e w' => ∃ b, e = .returned (.tuple #[.pointer (some ⟨b, 0, none⟩), .int .i64 0]) ∧ LSt P (RefS b cap []) X w0 w' :=
  (refNew_ok cap w h1 h2).mono fun e w' ⟨b, he, hb, ho⟩ => ⟨b, he, ((h.swap hP NoX.framed hX).newP hP hX RefS.framed hb ho).swap RefS.framed hP hX⟩
end Go.Proofs.Ytodacnpbhlkoiaa
