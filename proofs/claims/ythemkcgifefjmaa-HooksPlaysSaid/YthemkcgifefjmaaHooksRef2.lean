/- Layer 19: the document's Put. -/
import Derived.Test.YthemkcgifefjmaaHooksRef
namespace Go.Proofs.Ythemkcgifefjmaa
open Go.RowKit
set_option linter.unusedVariables false

def Match (hs : List Pub) (st : List StepD) : Prop := ∀ h, refCur st h = currentOf hs h
theorem currentOf_set (hs : List Pub) (x : Int) (q : Pub) (h : Int) (hx : ¬ bad hs x) : currentOf (hs.set x.toNat q) h = if x = h then (if 0 < q.1 then (q.1, q.2, true) else (0, 0, false)) else currentOf hs h := by
  have hb : bad (hs.set x.toNat q) h ↔ bad hs h := by unfold bad; simp
  by_cases e : x = h
  · subst e
    have hg : getH (hs.set x.toNat q) x = q := by
      unfold getH; rw [List.getElem?_set, if_pos rfl, if_pos (by unfold bad at hx; omega)]; rfl
    unfold currentOf
    rw [if_neg (by rw [hb]; exact hx), hg, if_pos rfl]
  · rw [if_neg e]
    unfold currentOf
    by_cases hbb : bad hs h
    · rw [if_pos (hb.2 hbb), if_pos hbb]
    · have hg : getH (hs.set x.toNat q) h = getH hs h := by
        unfold getH; rw [List.getElem?_set, if_neg (by unfold bad at hx hbb; omega)]
      rw [if_neg (by rw [hb]; exact hbb), if_neg hbb, hg]
theorem Match.put {hs : List Pub} {st : List StepD} (M : Match hs st) {x p v : Int} (hx : ¬ bad hs x) (hv : 0 < v) : Match (hs.set x.toNat (v, p)) (st ++ [(x, p, v)]) := fun h => by
  rw [refCur_snoc, currentOf_set hs x _ h hx, M h]
  by_cases e : x = h
  · subst e; simp [hv]
  · simp [e]
theorem Match.clear {hs : List Pub} {st : List StepD} (M : Match hs st) {x : Int} (hx : ¬ bad hs x) : Match (hs.set x.toNat (0, 0)) (st ++ [(x, 0, 0)]) := fun h => by
  rw [refCur_snoc, currentOf_set hs x _ h hx, M h]
  by_cases e : x = h
  · subst e; simp
  · simp [e]
theorem currentOf_there (hs : List Pub) (h : Int) (hb : ¬ bad hs h) : (currentOf hs h).2.2 = decide (0 < (getH hs h).1) := by
  unfold currentOf
  rw [if_neg hb]
  by_cases h1 : 0 < (getH hs h).1 <;> simp [h1]

/-- what Put answers: Attach's answer or Swap's -/
def putOf (sw : Bool) (hs : List Pub) (last h p : Int) : Int × Int × Int × List Pub := if sw then swapOf hs last h p else attachOf hs last h p

set_option maxRecDepth 100000 in
set_option maxHeartbeats 4000000 in
theorem refPut_no (x : Nat) (n last : Int) (hs : List Pub) (st : List StepD) (h p : Int) (sw : Bool) (S : Nat → Prop) (w : World) (H : RefS x n last st S w) (M : Match hs st) (hn : (hs.length : Int) = n) (hl : st.length ≤ 90000)
    (hno : bad hs h ∨ (0 < (getH hs h).1 ↔ sw = false)) :
    Calls Try.prog 21 #[.pointer (some ⟨x, 0, none⟩), .int .i64 h, .int .i64 p, .bool sw] w fun e w' => e = .returned (.tuple #[.int .i64 (putOf sw hs last h p).1, .int .i64 (putOf sw hs last h p).2.1]) ∧ putOf sw hs last h p = (0, (putOf sw hs last h p).2.1, last, hs) ∧ Only (fun _ => False) w w' := by
  have H0 := Lib.hid H
  obtain ⟨v, hg, hown, hS, hv⟩ := H
  have c0 : w.cell? ⟨x, 0, none⟩ = some (.int .i64 n) := blk_cell hg 0
  clear hg hown hv
  by_cases hb : bad hs h
  · have e1 : putOf sw hs last h p = (0, 2, last, hs) := by cases sw <;> simp [putOf, attachOf, swapOf, hb]
    rw [e1]
    have hb' : h < 0 ∨ n ≤ h := by unfold bad at hb; omega
    clear hb hno e1
    rcases hb' with hb | hb
    · go_enter Try.func21, Try.ntmps21
      go_wp2_with fail
      go_ret2
      exact ⟨rfl, trivial, Only.refl _ _⟩
    · have hge : 0 ≤ h := by omega
      go_enter Try.func21, Try.ntmps21
      go_wp2_with fail
      go_ret2
      exact ⟨rfl, trivial, Only.refl _ _⟩
  · have hno2 := hno.resolve_left hb
    have hcur := M h
    have hth := currentOf_there hs h hb
    rw [← hcur] at hth
    have hb1 : ¬ h < 0 := by unfold bad at hb; omega
    have hb2 : h < n := by unfold bad at hb; omega
    cases sw
    · have hp : 0 < (getH hs h).1 := hno2.2 rfl
      have e1 : putOf false hs last h p = (0, 42, last, hs) := by simp [putOf, attachOf, hb, hp]
      rw [e1]
      have hth2 : (refCur st h).2.2 = true := by rw [hth]; simpa using hp
      have HT := Lib.hid hth2
      clear hno hno2 hcur hth hb hp e1 hth2
      go_enter Try.func21, Try.ntmps21
      go_wp2_with fail
      refine (refCurrent_any x n last st h S w H0.out (by omega)).mono ?_
      rintro e w1 ⟨rfl, q, rfl⟩
      rw [HT.out]
      go_wp2_with fail
      go_ret2
      exact ⟨rfl, trivial, (Only.refl _ _).drewN q⟩
    · have hp : ¬ 0 < (getH hs h).1 := fun h => by have := hno2.1 h; simp at this
      have e1 : putOf true hs last h p = (0, 41, last, hs) := by simp only [putOf, if_true, swapOf, if_neg hb, if_neg hp]
      rw [e1]
      have hth2 : (refCur st h).2.2 = false := by rw [hth]; simpa using hp
      have HT := Lib.hid hth2
      clear hno hno2 hcur hth hb hp e1 hth2
      go_enter Try.func21, Try.ntmps21
      go_wp2_with fail
      refine (refCurrent_any x n last st h S w H0.out (by omega)).mono ?_
      rintro e w1 ⟨rfl, q, rfl⟩
      rw [HT.out]
      go_wp2_with fail
      go_ret2
      exact ⟨rfl, trivial, (Only.refl _ _).drewN q⟩

set_option maxRecDepth 100000 in
set_option maxHeartbeats 4000000 in
theorem refPut_ok (x : Nat) (n last : Int) (hs : List Pub) (st : List StepD) (h p : Int) (sw : Bool) (S : Nat → Prop) (w : World) (H : RefS x n last st S w) (M : Match hs st) (hn : (hs.length : Int) = n) (hl : st.length ≤ 90000) (h0 : 0 ≤ last) (h1 : last ≤ 100000)
    (hb : ¬ bad hs h) (hyes : 0 < (getH hs h).1 ↔ sw = true) :
    Calls Try.prog 21 #[.pointer (some ⟨x, 0, none⟩), .int .i64 h, .int .i64 p, .bool sw] w fun e w' => e = .returned (.tuple #[.int .i64 (last + 1), .int .i64 0]) ∧ RefS x n (last + 1) (st ++ [(h, p, last + 1)]) (fun k => S k ∨ w.heap.size ≤ k) w' ∧ Only S w w' := by
  have H0 := Lib.hid H
  have hth := currentOf_there hs h hb
  rw [← M h] at hth
  have hth2 : (refCur st h).2.2 = sw := by
    rw [hth]; cases sw
    · exact decide_eq_false (fun h => by have := hyes.1 h; simp at this)
    · exact decide_eq_true (hyes.2 rfl)
  have HT := Lib.hid hth2
  obtain ⟨v, hg, hown, hS, hv⟩ := H
  have hvg := row_ne hg hown (by decide)
  obtain ⟨_, ao, cap, rfl, _⟩ := id hown
  obtain ⟨L, hL⟩ : ∃ L, L = st.length := ⟨_, rfl⟩
  have HL := Lib.hid hL
  have c0 : w.cell? ⟨x, 0, none⟩ = some (.int .i64 n) := blk_cell hg 0
  have c1 : w.cell? ⟨x, 1, none⟩ = some (.int .i64 last) := blk_cell hg 1
  have f1 : w.frozen? ⟨x, 1, none⟩ = false := blk_free hg 1
  have hlg := heap_lt hg
  have hb1 : ¬ h < 0 := by unfold bad at hb; omega
  have hb2 : h < n := by unfold bad at hb; omega
  have HG := Lib.hid hg
  have HO := Lib.hid hown
  rw [← hL] at hl hvg
  clear hg hown hth hth2 hyes hb M hL
  go_enter Try.func21, Try.ntmps21
  go_wp2_with fail
  refine (refCurrent_any x n last st h S w H0.out (by have := HL.out; omega)).mono ?_
  rintro e w1 ⟨rfl, q, rfl⟩
  rw [HT.out]
  cases sw
  all_goals
    go_wp2_with fail
    obtain ⟨W, hW⟩ : ∃ W, W = (w.drewN q).setCell ⟨x, 1, none⟩ (.int .i64 (last + 1)) := ⟨_, rfl⟩
    rw [← hW]
    have oW : Only (fun k => k = x) w W := by rw [hW]; exact ((Only.refl _ w).drewN q).tr (Only.setCell _ _ x 1 _ rfl)
    have gW : W.heap[x]? = some (.cells #[.int .i64 n, .int .i64 (last + 1), .slice ao st.length cap] 49 (0, 0)) := by rw [hW]; exact blk_set (w := w.drewN q) HG.out 1 (.int .i64 (last + 1))
    have sW : W.heap.size = w.heap.size := by rw [hW]; simp [World.setCell]
    have d1 : W.cell? ⟨x, 1, none⟩ = some (.int .i64 (last + 1)) := blk_cell gW 1
    have d2 : W.cell? ⟨x, 2, none⟩ = some (.slice ao L cap) := by rw [HL.out]; exact blk_cell gW 2
    have e2 : W.frozen? ⟨x, 2, none⟩ = false := blk_free gW 2
    have hxW : x < W.heap.size := by omega
    have hoS : OwS eStep 62 S W (.slice ao L cap) st := by rw [HL.out]; exact ⟨HO.out.only oW (by rintro k hk rfl; exact hvg (by rw [HL.out]; exact hk)), hv⟩
    have hrd : Rd eStep (W.alloc (.cells #[.int .i64 h, .int .i64 p, .int .i64 (last + 1)] 62)) (.slice (some ⟨W.heap.size, 0, none⟩) 1 1) [(h, p, last + 1)] := Rd.lit W #[.int .i64 h, .int .i64 p, .int .i64 (last + 1)] 62 (0, 0) 1 1 [(h, p, last + 1)] (by simp [Enc.all]) rfl (Nat.le_refl _) (by decide)
    have hga : x < (W.alloc (.cells #[.int .i64 h, .int .i64 p, .int .i64 (last + 1)] 62)).drew.heap.size := by show x < (W.heap.push _).size; simp; omega
    have hbd : (5 * (L + 1) + 2816) * 24 ≤ 1125899906842624 := by omega
    have hm : L + 1 ≤ maxLen := by unfold maxLen; omega
    have hnL : L + 1 = st.length + [(h, p, last + 1)].length := by have := HL.out; simp; omega
    have HNL := Lib.hid hnL
    have HOW := Lib.hid oW
    have HGW := Lib.hid gW
    have HSW := Lib.hid sW
    clear hW gW oW c0 c1 f1 sW hnL
    go_region_law (refine step_appendS (E := eStep) (by rfl) (.tmp 51) (.tmp 59) _ (by rfl) 62 24 eStep_slice S _ st (by rfl) (OwS.framed.alloc hoS _) _ [(h, p, last + 1)] (by rfl) hrd (L + 1) HNL.out (by omega) hbd hm x hga hvg ?_; intro b3 off3 cap3 w3 hown3 hO3 hk3 hf3)
    all_goals go_wp2_with fail
    all_goals
      go_ret2
      have oA : Only (fun k => S k ∨ w.heap.size ≤ k) w w3 := ((HOW.out.mono (fun k _ e => by subst e; exact .inl hS)).tr ((Only.alloc _ W _).drew_)).tr (hO3.mono (fun k _ h => .inl (hv k (by rw [← HL.out]; exact h))))
      have gA : w3.heap[x]? = _ := hO3.heap (o := .cells #[.int .i64 n, .int .i64 (last + 1), .slice ao st.length cap] 49 (0, 0)) (heap_alloc HGW.out) hvg
      have hown4 : OwS eStep 62 (fun k => S k ∨ w.heap.size ≤ k) w3 _ _ := OwS.framed.widen hown3 (Nat.le_trans (by have := HSW.out; omega) (size_le_alloc W _))
      obtain ⟨hg4, hB4⟩ := And.intro gA hown4
      have hne : 49 ≠ 62 := by decide
      have ho4 := Only.setCell (fun k => k = x) w3 x 2 (.slice (some ⟨b3, off3, none⟩) (L + 1) cap3) rfl
      refine ⟨rfl, ⟨_, ⟨blk_set gA 2 _, hown4.1.only ho4 (fun k hk e => row_ne gA hown4.1 hne (by rw [hk, e])), .inl hS, hown4.2⟩⟩, (oA.tr (ho4.mono (fun k _ e => by subst e; exact .inl hS))).fresh⟩
end Go.Proofs.Ythemkcgifefjmaa
