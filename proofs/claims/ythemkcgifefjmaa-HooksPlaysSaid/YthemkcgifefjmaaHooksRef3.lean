/- Layer 19: the document's Detach. -/
import Derived.Test.YthemkcgifefjmaaHooksRef2
namespace Go.Proofs.Ythemkcgifefjmaa
open Go.RowKit
set_option linter.unusedVariables false

theorem pigeon (n : Nat) : ∀ l : List Nat, l.Nodup → (∀ x ∈ l, x < n) → l.length ≤ n := by
  induction n with
  | zero => exact fun l _ h => by cases l with | nil => simp | cons x l => exact absurd (h x (by simp)) (by omega)
  | succ n ih =>
    intro l hn h
    have h1 := ih (l.erase n) (hn.erase n) (fun x hx => by
      have h2 := (hn.mem_erase_iff.1 hx)
      have := h x h2.2
      omega)
    have h3 : l.length ≤ (l.erase n).length + 1 := by rw [List.length_erase]; split <;> omega
    omega
theorem okL_len {hs : List Pub} {l : List Int} (h : okL hs l) : l.length ≤ hs.length := by
  have h1 : (l.map Int.toNat).Nodup := by
    have h2 := h.2
    have h3 := h.1
    clear h
    induction l with
    | nil => simp
    | cons x l ih =>
      rw [List.map_cons, List.nodup_cons]
      rw [List.nodup_cons] at h2
      refine ⟨fun hx => ?_, ih h2.2 (fun y hy => h3 y (by simp [hy]))⟩
      obtain ⟨y, hy, e⟩ := List.mem_map.1 hx
      have a := h3 x (by simp)
      have b := h3 y (by simp [hy])
      unfold bad at a b
      have : y = x := by omega
      exact h2.1 (this ▸ hy)
  have h2 := pigeon hs.length _ h1 (fun x hx => by
    obtain ⟨y, hy, rfl⟩ := List.mem_map.1 hx
    have := h.1 y hy
    unfold bad at this
    omega)
  simpa using h2
def clears (l : List Int) : List StepD := l.map fun h => (h, 0, 0)
theorem Match.clearsL {hs : List Pub} {st : List StepD} (M : Match hs st) (l : List Int) (hl : ∀ x ∈ l, ¬ bad hs x) : Match (clearL hs l) (st ++ clears l) := by
  induction l generalizing hs st with
  | nil => simpa [clearL, Go.Proofs.Ythemkcgifefjmaa.clears] using M
  | cons x l ih =>
    have h1 := ih (M.clear (hl x (by simp))) (fun y hy => by rw [bad_set]; exact hl y (by simp [hy]))
    have e : st ++ clears (x :: l) = st ++ [(x, 0, 0)] ++ clears l := by simp [Go.Proofs.Ythemkcgifefjmaa.clears]
    rw [e]; exact h1

set_option maxRecDepth 100000 in
set_option maxHeartbeats 8000000 in
theorem refDetach_any (x : Nat) (n last : Int) (hs : List Pub) (st : List StepD) (l : List Int) (vl : Value) (S : Nat → Prop) (w : World) (H : RefS x n last st S w) (M : Match hs st) (hn : (hs.length : Int) = n) (hn4 : hs.length ≤ 4) (hst : st.length ≤ 90000)
    (hp : Rd (eInt .i64) w vl l) (hps : ∀ a n c, vl = .slice (some a) n c → 0 < n → ¬ S a.block) :
    Calls Try.prog 22 #[.pointer (some ⟨x, 0, none⟩), vl] w fun e w' => e = .returned (.int .i64 (detachOf hs l).1) ∧ (∃ st', RefS x n last st' (fun k => S k ∨ w.heap.size ≤ k) w' ∧ Match (detachOf hs l).2 st' ∧ st'.length ≤ st.length + 4) ∧ Only S w w' := by
  have H0 := Lib.hid H
  obtain ⟨v, H⟩ := H
  have c0 : w.cell? ⟨x, 0, none⟩ = some (.int .i64 n) := blk_cell H.1 0
  have HSx : S x := H.2.2.1
  have HP := Lib.hid hp
  obtain ⟨hm, lo, lc, rfl, hlc, hlz, hx⟩ := hp
  obtain ⟨L, hL⟩ : ∃ L, L = l.length := ⟨_, rfl⟩
  have HL := Lib.hid hL
  rw [← hL] at hm hlc hx HP hps
  rw [← hL]
  unfold maxLen at hm
  have HM := Lib.hid M
  have fin : ∀ W, (∃ q, W = w.drewN q) → (∃ st', RefS x n last st' (fun k => S k ∨ w.heap.size ≤ k) W ∧ Match hs st' ∧ st'.length ≤ st.length + 4) ∧ Only S w W := fun W ⟨q, hq⟩ => by
    rw [hq]
    exact ⟨⟨st, RefS.framed.drewN (RefS.framed.mono _ _ _ H0.out (fun _ _ h => .inl h)) q, HM.out, by omega⟩, (Only.refl _ _).drewN q⟩
  have FIN := Lib.hid fin
  clear H hL M fin
  go_enter Try.func22, Try.ntmps22
  go_wp2_with fail
  go_loopw [5, 6] (fun iv _ wr => ∃ k q : Nat, k ≤ L ∧ iv = .int .i64 k ∧ wr = w.drewN q ∧ Hid (okL hs (l.take k))) (fun iv _ _ => L - (intOf iv).toNat)
  case atStart => exact ⟨0, 0, Nat.zero_le _, rfl, rfl, by show okL _ _; exact ⟨by simp, by simp⟩⟩
  case round =>
    obtain ⟨k, q, hk, rfl, rfl, hok⟩ := hrel
    by_cases hlt : k < L
    · have hkl : k < l.length := by have := HL.out; omega
      have hk4 : k ≤ 4 := by have := okL_len hok.out; rw [List.length_take] at this; omega
      obtain ⟨b, off, rfl, hc⟩ := hx (by omega)
      have x0 := hc k _ (eInt_at .i64 l k hkl)
      have HS := Lib.hid (okL_step hkl hok.out)
      have HB := Lib.hid (okL_bad (hs := hs) hkl)
      have HD := Lib.hid (fun j (hj : j < k) (e : l[j]'(by omega) = l[k]) => okL_dup (hs := hs) hkl (List.mem_take_iff_getElem.2 ⟨j, by omega, e⟩))
      have HC := Lib.hid (fun j (hj : j < k) => hc j _ (eInt_at .i64 l j (by omega)))
      have HT := Lib.hid (fun j (hj : j < k) => notin_step (l := l) (j := j) (by omega) l[k])
      clear hc hok
      generalize hy : l[k] = y at *
      have hi0 : (0 : Int) ≤ (k : Int) := by omega
      have hi1 : (k : Int) < (L : Int) := by omega
      have h4 : decide ((4 : Int) < (k : Int)) = false := decide_eq_false (by omega)
      clear hy
      by_cases hb : bad hs y
      · have e1 : detachOf hs l = (2, hs) := by unfold detachOf; rw [if_neg (HB.out hb)]
        have E1 := Lib.hid e1
        have hb' : y < 0 ∨ n ≤ y := by unfold bad at hb; omega
        clear e1 hb
        rcases hb' with hb | hb
        · have hlt0 : decide (y < 0) = true := decide_eq_true hb
          go_wp2_with fail
          go_quiet (fail)
          go_wp2_with fail
          go_ret
          rw [E1.out]
          exact ⟨rfl, FIN.out _ ⟨_, World.drewN_drewN ..⟩⟩
        · have hlt0 : decide (y < 0) = false := decide_eq_false (by omega)
          have hge : decide (n ≤ y) = true := decide_eq_true hb
          go_wp2_with fail
          go_quiet (fail)
          go_wp2_with fail
          go_ret
          rw [E1.out]
          exact ⟨rfl, FIN.out _ ⟨_, World.drewN_drewN ..⟩⟩
      · have hlt0 : decide (y < 0) = false := decide_eq_false (by unfold bad at hb; omega)
        have hge : decide (n ≤ y) = false := decide_eq_false (by unfold bad at hb; omega)
        have HBB := Lib.hid hb
        clear hb
        go_wp2_with fail
        go_quiet (fail)
        go_wp2_with fail
        go_loopw [6] (fun jv wr => ∃ j q : Nat, j ≤ k ∧ jv = .int .i64 j ∧ wr = w.drewN q ∧ Hid (y ∉ l.take j)) (fun jv _ => k - (intOf jv).toNat)
        case atStart => exact ⟨0, _, Nat.zero_le _, rfl, World.drewN_drewN .., by show y ∉ _; simp⟩
        case round =>
          obtain ⟨j, q2, hj, rfl, rfl, hnin⟩ := hrel
          by_cases hjk : j < k
          · have y0 := HC.out j hjk
            have HD2 := Lib.hid (HD.out j hjk)
            have HT2 := Lib.hid (HT.out j hjk)
            generalize l[j]'(by omega) = z at *
            have hj0 : (0 : Int) ≤ (j : Int) := by omega
            have hj1 : (j : Int) < (L : Int) := by omega
            by_cases hzy : z = y
            · have hbq : (z == y) = true := by simp [hzy]
              have e1 : detachOf hs l = (2, hs) := by unfold detachOf; rw [if_neg (HD2.out hzy)]
              have E1 := Lib.hid e1
              clear e1 hzy
              go_wp2_with fail
              go_quiet (fail)
              go_wp2_with fail
              go_ret
              rw [E1.out]
              exact ⟨rfl, FIN.out _ ⟨_, World.drewN_drewN ..⟩⟩
            · have hbq : (z == y) = false := by simp [hzy]
              have hnn : y ∉ l.take (j + 1) := by
                have h := HT2.out
                rw [decide_eq_true hnin.out, decide_eq_true hzy] at h
                exact of_decide_eq_true h
              have HNN := Lib.hid hnn
              clear hzy hnn
              go_wp2_with fail
              go_quiet (fail)
              go_wp2_with fail
              go_roundw
              case rel => exact ⟨j + 1, _, by omega, by go_num, rfl, HNN⟩
              case measure => simp [intOf]; omega
          · obtain rfl : j = k := by omega
            have HS2 := Lib.hid (HS.out HBB.out hnin.out)
            go_wp2_with fail
            go_roundw
            case rel => exact ⟨j + 1, _, by omega, by go_num, rfl, HS2⟩
            case measure => simp [intOf]; omega
    · have hokl : okL hs l := by have h := hok.out; rwa [List.take_of_length_le (by have := HL.out; omega)] at h
      have hl4 : l.length ≤ 4 := Nat.le_trans (okL_len hokl) hn4
      have HOK := Lib.hid hokl
      clear hokl hok
      go_wp2_with fail
      go_loopw [7, 8, 9, 10] (fun iv _ _ _ wr => ∃ k q : Nat, k ≤ L ∧ iv = .int .i64 k ∧ wr = w.drewN q ∧ Hid (takenL hs (l.take k))) (fun iv _ _ _ _ => L - (intOf iv).toNat)
      case atStart => exact ⟨0, _, Nat.zero_le _, rfl, rfl, by show takenL _ _; exact fun h hh => by simp at hh⟩
      case round =>
        obtain ⟨k, q2, hk, rfl, rfl, htk⟩ := hrel
        by_cases hlt : k < L
        · have hkl : k < l.length := by have := HL.out; omega
          obtain ⟨b, off, rfl, hc⟩ := hx (by omega)
          have x0 := hc k _ (eInt_at .i64 l k hkl)
          have hnb := HOK.out.1 _ (List.getElem_mem hkl)
          have HS := Lib.hid (takenL_step hkl htk.out)
          have HNO := Lib.hid (takenL_no (hs := hs) hkl)
          clear hc htk
          generalize l[k] = y at *
          have hth := currentOf_there hs y hnb
          rw [← HM.out y] at hth
          have HTH := Lib.hid hth
          clear hth hnb
          go_wp2_with fail
          refine (refCurrent_any x n last st y S _ (RefS.framed.drewN H0.out q2) (by omega)).mono ?_
          rintro e w1 ⟨rfl, q3, rfl⟩
          by_cases ht : 0 < (getH hs y).1
          · have hb : (refCur st y).2.2 = true := by rw [HTH.out]; exact decide_eq_true ht
            rw [hb]
            have HS2 := Lib.hid (HS.out ht)
            clear ht hb
            go_wp2_with fail
            go_roundw
            case rel => exact ⟨k + 1, _, by omega, by go_num, rfl, HS2⟩
            case measure => simp [intOf]; omega
          · have hb : (refCur st y).2.2 = false := by rw [HTH.out]; exact decide_eq_false ht
            rw [hb]
            have e1 : detachOf hs l = (41, hs) := by unfold detachOf; rw [if_pos HOK.out, if_neg (HNO.out (by simpa using ht))]
            have E1 := Lib.hid e1
            clear ht hb e1
            go_wp2_with fail
            go_ret
            rw [E1.out]
            exact ⟨rfl, FIN.out _ ⟨_, rfl⟩⟩
        · have e1 : detachOf hs l = (0, clearL hs l) := by
            have h := htk.out
            rw [List.take_of_length_le (by have := HL.out; omega)] at h
            unfold detachOf; rw [if_pos HOK.out, if_pos h]
          have E1 := Lib.hid e1
          clear e1 htk
          go_wp2_with fail
          go_loopw [11] (fun iv wr => ∃ k : Nat, k ≤ L ∧ iv = .int .i64 k ∧ RefS x n last (st ++ clears (l.take k)) (fun k => S k ∨ w.heap.size ≤ k) wr ∧ Only (fun k => S k ∨ w.heap.size ≤ k) w wr) (fun iv _ => L - (intOf iv).toNat)
          case atStart => exact ⟨0, Nat.zero_le _, rfl, by simpa [clears] using RefS.framed.drewN (RefS.framed.mono _ _ _ H0.out (fun _ _ h => .inl h)) q2, (Only.refl _ _).drewN q2⟩
          case round =>
            obtain ⟨k, hk, rfl, Hr, ho⟩ := hrel
            by_cases hlt : k < L
            · have hkl : k < l.length := by have := HL.out; omega
              obtain ⟨b, off, rfl, hc⟩ := hx (by omega)
              have hlb := Rd.lt HP.out (by omega)
              have hnS := hps _ _ _ rfl (by omega)
              have y0 := (World.cell?_of_block (a := ⟨b, off + k, none⟩) (ho.block b hlb (fun h => h.elim hnS (fun h => by have h2 : w.heap.size ≤ b := h; have h3 : b < w.heap.size := hlb; omega)))).trans (hc k _ (eInt_at .i64 l k hkl))
              have hcs : st ++ clears (l.take (k + 1)) = (st ++ clears (l.take k)) ++ [(l[k], 0, 0)] := by rw [List.take_succ_eq_append_getElem hkl]; unfold clears; rw [List.map_append, List.append_assoc]; rfl
              have hcl : (st ++ clears (l.take k)).length ≤ 90010 := by simp [clears]; omega
              have HCS := Lib.hid hcs
              clear hc hcs
              generalize l[k] = y at *
              generalize st ++ clears (l.take k) = sk at *
              obtain ⟨v, hg, hown, hSx, hvS⟩ := Hr
              have hvg := row_ne hg hown (by decide)
              obtain ⟨_, ao, cap, rfl, _⟩ := id hown
              obtain ⟨M2, hM2⟩ : ∃ M2, M2 = sk.length := ⟨_, rfl⟩
              have HM2 := Lib.hid hM2
              have d2 : wr.cell? ⟨x, 2, none⟩ = some (.slice ao M2 cap) := by rw [hM2]; exact blk_cell hg 2
              have e2 : wr.frozen? ⟨x, 2, none⟩ = false := blk_free hg 2
              have hxW := heap_lt hg
              have hoS : OwS eStep 62 (fun k => S k ∨ w.heap.size ≤ k) wr (.slice ao M2 cap) sk := by rw [hM2]; exact ⟨hown, hvS⟩
              have hrd : Rd eStep (wr.alloc (.cells #[.int .i64 y, .int .i64 0, .int .i64 0] 62)) (.slice (some ⟨wr.heap.size, 0, none⟩) 1 1) [(y, 0, 0)] := Rd.lit wr #[.int .i64 y, .int .i64 0, .int .i64 0] 62 (0, 0) 1 1 [(y, 0, 0)] (by simp [Enc.all]) rfl (Nat.le_refl _) (by decide)
              have hga : x < (wr.alloc (.cells #[.int .i64 y, .int .i64 0, .int .i64 0] 62)).drew.heap.size := by show x < (wr.heap.push _).size; simp; omega
              have hbd : (5 * (M2 + 1) + 2816) * 24 ≤ 1125899906842624 := by omega
              have hm2 : M2 + 1 ≤ maxLen := by unfold maxLen; omega
              have hnL : M2 + 1 = sk.length + [((y, 0, 0) : StepD)].length := by rw [hM2]; rfl
              have HNL := Lib.hid hnL
              have HG := Lib.hid hg
              have HO := Lib.hid ho
              rw [← hM2] at hvg
              have hszw := ho.size
              have hk0 : (0 : Int) ≤ (k : Int) := by omega
              have hk1 : (k : Int) < (L : Int) := by omega
              clear hg hown hnL hM2 ho
              go_wp2_with fail
              go_region_law (refine step_appendS (E := eStep) (by rfl) (.tmp 80) (.tmp 86) _ (by rfl) 62 24 eStep_slice (fun k => S k ∨ w.heap.size ≤ k) _ sk (by rfl) (OwS.framed.alloc hoS _) _ [(y, 0, 0)] (by rfl) hrd (M2 + 1) HNL.out (by omega) hbd hm2 x hga hvg ?_; intro b3 off3 cap3 w3 hown3 hO3 hk3 hf3)
              all_goals go_wp2_with fail
              all_goals
                have hsz1 := size_le_alloc wr (.cells #[.int .i64 y, .int .i64 0, .int .i64 0] 62)
                have oA : Only (fun k => S k ∨ w.heap.size ≤ k) w w3 := (HO.out.tr ((Only.alloc _ wr _).drew_)).tr (hO3.mono (fun k _ h => hvS k (by rw [← HM2.out]; exact h)))
                have gA : w3.heap[x]? = _ := hO3.heap (o := .cells #[.int .i64 n, .int .i64 last, .slice ao sk.length cap] 49 (0, 0)) (heap_alloc HG.out) hvg
                have hown4 : OwS eStep 62 (fun k => S k ∨ w.heap.size ≤ k) w3 (.slice (some ⟨b3, off3, none⟩) (M2 + 1) cap3) (sk ++ [(y, 0, 0)]) := ⟨hown3.1, fun k hk => (hown3.2 k hk).elim id (fun h => .inr (Nat.le_trans (Nat.le_trans hszw hsz1) h))⟩
                have hne : 49 ≠ 62 := by decide
                have ho4 := Only.setCell (fun k => k = x) w3 x 2 (.slice (some ⟨b3, off3, none⟩) (M2 + 1) cap3) rfl
                have hR : RefS x n last (sk ++ [(y, 0, 0)]) (fun k => S k ∨ w.heap.size ≤ k) (w3.setCell ⟨x, 2, none⟩ (.slice (some ⟨b3, off3, none⟩) (M2 + 1) cap3)) := ⟨_, ⟨blk_set gA 2 _, hown4.1.only ho4 (fun k hk e => row_ne gA hown4.1 hne (by rw [hk, e])), hSx, hown4.2⟩⟩
                have hOF : Only (fun k => S k ∨ w.heap.size ≤ k) w (w3.setCell ⟨x, 2, none⟩ (.slice (some ⟨b3, off3, none⟩) (M2 + 1) cap3)) := oA.tr (ho4.mono (fun k _ e => by subst e; exact hSx))
                rw [← HCS.out] at hR
                clear hown3 hO3 hk3 hf3 hown4 gA oA
                go_roundw
                case rel => exact ⟨k + 1, by omega, by go_num, hR, hOF⟩
                case measure => simp [intOf]; omega
            · rw [List.take_of_length_le (by have := HL.out; omega)] at Hr
              have HR := Lib.hid Hr
              have HMC := Lib.hid (HM.out.clearsL l HOK.out.1)
              clear Hr
              go_wp2_with fail
              go_ret
              rw [E1.out]
              exact ⟨rfl, ⟨_, HR.out, HMC.out, by simp [clears]; omega⟩, ho.fresh⟩
end Go.Proofs.Ythemkcgifefjmaa
