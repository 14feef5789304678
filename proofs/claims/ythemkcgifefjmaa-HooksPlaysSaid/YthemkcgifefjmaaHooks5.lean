/- Layer 19: Detach. -/
import Derived.Test.YthemkcgifefjmaaHooks4
namespace Go.Proofs.Ythemkcgifefjmaa
open Go.RowKit
set_option linter.unusedVariables false

def okL (hs : List Pub) (l : List Int) : Prop := (∀ h ∈ l, ¬ bad hs h) ∧ l.Nodup
def takenL (hs : List Pub) (l : List Int) : Prop := ∀ h ∈ l, 0 < (getH hs h).1
def clearL (hs : List Pub) (l : List Int) : List Pub := l.foldl (fun hs h => hs.set h.toNat (0, 0)) hs
open Classical in
noncomputable def detachOf (hs : List Pub) (l : List Int) : Int × List Pub := if okL hs l then if takenL hs l then (0, clearL hs l) else (41, hs) else (2, hs)
theorem okL_step {hs : List Pub} {l : List Int} {k : Nat} (hk : k < l.length) (h : okL hs (l.take k)) (h1 : ¬ bad hs l[k]) (h2 : l[k] ∉ l.take k) : okL hs (l.take (k + 1)) := by
  rw [List.take_succ_eq_append_getElem hk]
  refine ⟨fun x hx => ?_, ?_⟩
  · rcases List.mem_append.1 hx with hx | hx
    · exact h.1 x hx
    · rw [List.mem_singleton.1 hx]; exact h1
  · rw [List.nodup_append]
    exact ⟨h.2, by simp, fun a ha b hb => by rw [List.mem_singleton.1 hb]; rintro rfl; exact h2 ha⟩
theorem okL_bad {hs : List Pub} {l : List Int} {k : Nat} (hk : k < l.length) (h1 : bad hs l[k]) : ¬ okL hs l := fun h => h.1 _ (List.getElem_mem hk) h1
theorem okL_dup {hs : List Pub} {l : List Int} {k : Nat} (hk : k < l.length) (h1 : l[k] ∈ l.take k) : ¬ okL hs l := fun h => by
  have hn := h.2
  rw [← List.take_append_drop k l, List.nodup_append] at hn
  exact hn.2.2 _ h1 l[k] (by rw [List.drop_eq_getElem_cons hk]; exact List.mem_cons_self ..) rfl
theorem takenL_step {hs : List Pub} {l : List Int} {k : Nat} (hk : k < l.length) (h : takenL hs (l.take k)) (h1 : 0 < (getH hs l[k]).1) : takenL hs (l.take (k + 1)) := by
  rw [List.take_succ_eq_append_getElem hk]
  intro x hx
  rcases List.mem_append.1 hx with hx | hx
  · exact h x hx
  · rw [List.mem_singleton.1 hx]; exact h1
theorem takenL_no {hs : List Pub} {l : List Int} {k : Nat} (hk : k < l.length) (h1 : ¬ 0 < (getH hs l[k]).1) : ¬ takenL hs l := fun h => h1 (h _ (List.getElem_mem hk))
theorem clearL_step {hs : List Pub} {l : List Int} {k : Nat} (hk : k < l.length) : clearL hs (l.take (k + 1)) = (clearL hs (l.take k)).set l[k].toNat (0, 0) := by
  unfold clearL; rw [List.take_succ_eq_append_getElem hk, List.foldl_append]; rfl
theorem clearL_len (hs : List Pub) (l : List Int) : (clearL hs l).length = hs.length := by
  unfold clearL
  induction l generalizing hs with
  | nil => rfl
  | cons x l ih => rw [List.foldl_cons, ih, List.length_set]

set_option maxHeartbeats 4000000 in
theorem detach_any (g : Nat) (last : Int) (hs : List Pub) (l : List Int) (vl : Value) (S : Nat → Prop) (w : World) (H : TabS g last hs S w) (hn : hs.length ≤ 4) (hp : Rd (eInt .i64) w vl l) (hps : ∀ a n c, vl = .slice (some a) n c → 0 < n → ¬ S a.block) :
    Calls Try.prog 13 #[.pointer (some ⟨g, 0, none⟩), vl] w fun e w' => e = .returned (.int .i64 (detachOf hs l).1) ∧ TabS g last (detachOf hs l).2 S w' ∧ Only S w w' := by
  obtain ⟨v, H⟩ := H
  have HH := Lib.hid H
  obtain ⟨ao, cap, rfl⟩ := H.shape
  have c1 : w.cell? ⟨g, 1, none⟩ = some (.slice ao hs.length cap) := blk_cell H.1 1
  have HC := Lib.hid c1
  have HP := Lib.hid hp
  obtain ⟨hm, lo, lc, rfl, hlc, hlz, hx⟩ := hp
  obtain ⟨L, hL⟩ : ∃ L, L = l.length := ⟨_, rfl⟩
  have HL := Lib.hid hL
  rw [← hL] at hm hlc hx HP hps
  rw [← hL]
  unfold maxLen at hm
  clear H c1 hL
  go_enter Try.func13, Try.ntmps13
  go_wp2_with fail
  go_loop [5, 6, 13] (fun _ _ i => ∃ k : Nat, k ≤ L ∧ i = .int .i64 k ∧ Hid (okL hs (l.take k))) (fun _ _ i => L - (intOf i).toNat)
  case atStart => exact ⟨0, Nat.zero_le _, rfl, by show okL _ _; exact ⟨by simp, by simp⟩⟩
  case round =>
    obtain ⟨k, hk, rfl, hok⟩ := hrel
    by_cases hlt : k < L
    · have hkl : k < l.length := by have := HL.out; omega
      obtain ⟨b, off, rfl, hc⟩ := hx (by omega)
      have c0 := hc k _ (eInt_at .i64 l k hkl)
      have htk := HP.out.taken k (by omega) lc (by omega) (by simp)
      have HS := Lib.hid (okL_step hkl hok.out)
      have HB := Lib.hid (okL_bad (hs := hs) hkl)
      have HD := Lib.hid (okL_dup (hs := hs) hkl)
      have HTK := Lib.hid htk
      clear hc htk hok
      generalize l[k] = y at *
      by_cases hb : bad hs y
      · have h2 := HB.out hb
        have e1 : detachOf hs l = (2, hs) := by unfold detachOf; rw [if_neg h2]
        have E1 := Lib.hid e1
        have HBB := Lib.hid hb
        clear h2 e1 hb
        go_wp2_with fail
        refine (known_no g hs.length ao cap y w HC.out HBB.out (by omega)).mono ?_
        rintro e w1 ⟨rfl, rfl⟩
        go_wp2_with fail
        go_ret
        rw [E1.out]; exact ⟨rfl, ⟨_, HH.out⟩, Only.refl _ _⟩
      · obtain ⟨j, rfl⟩ : ∃ j : Nat, y = (j : Int) := ⟨y.toNat, by unfold bad at hb; omega⟩
        have hj : j < hs.length := by unfold bad at hb; omega
        have HBB := Lib.hid hb
        clear hb
        by_cases hd : (j : Int) ∈ l.take k
        · have e1 : detachOf hs l = (2, hs) := by unfold detachOf; rw [if_neg (HD.out hd)]
          have E1 := Lib.hid e1
          have hdd : decide ((j : Int) ∈ l.take k) = true := by simpa using hd
          have HDD := Lib.hid hdd
          clear e1 hd hdd
          go_wp2_with fail
          refine (known_yes g hs.length ao cap j w HC.out hj (by omega)).mono ?_
          rintro e w1 ⟨rfl, rfl⟩
          go_wp2_with fail
          refine (contains_any (l.take k) (j : Int) _ w HTK.out).mono ?_
          rintro e w1 ⟨rfl, rfl⟩
          rw [HDD.out]
          go_wp2_with fail
          go_ret
          rw [E1.out]; exact ⟨rfl, ⟨_, HH.out⟩, Only.refl _ _⟩
        · have hdd : decide ((j : Int) ∈ l.take k) = false := by simpa using hd
          have HDD := Lib.hid hdd
          have HOK := Lib.hid (HS.out HBB.out hd)
          clear hd hdd
          go_wp2_with fail
          refine (known_yes g hs.length ao cap j w HC.out hj (by omega)).mono ?_
          rintro e w1 ⟨rfl, rfl⟩
          go_wp2_with fail
          refine (contains_any (l.take k) (j : Int) _ w HTK.out).mono ?_
          rintro e w1 ⟨rfl, rfl⟩
          rw [HDD.out]
          go_wp2_with fail
          go_round
          case rel => exact ⟨k + 1, by omega, by go_num, HOK⟩
          case measure => simp [intOf]; omega
    · have hokl : okL hs l := by have h := hok.out; rwa [List.take_of_length_le (by have := HL.out; omega)] at h
      have HOK := Lib.hid hokl
      clear hokl hok
      go_wp2_with fail
      go_loop [8, 32] (fun _ i => ∃ k : Nat, k ≤ L ∧ i = .int .i64 k ∧ Hid (takenL hs (l.take k))) (fun _ i => L - (intOf i).toNat)
      case atStart => exact ⟨0, Nat.zero_le _, rfl, by show takenL _ _; exact fun h hh => by simp at hh⟩
      case round =>
        obtain ⟨k, hk, rfl, htk⟩ := hrel
        by_cases hlt : k < L
        · have hkl : k < l.length := by have := HL.out; omega
          obtain ⟨b, off, rfl, hc⟩ := hx (by omega)
          have c0 := hc k _ (eInt_at .i64 l k hkl)
          have hnb := HOK.out.1 _ (List.getElem_mem hkl)
          have HS := Lib.hid (takenL_step hkl htk.out)
          have HNO := Lib.hid (takenL_no (hs := hs) hkl)
          clear hc htk
          generalize l[k] = y at *
          obtain ⟨j, rfl⟩ : ∃ j : Nat, y = (j : Int) := ⟨y.toNat, by unfold bad at hnb; omega⟩
          have hj : j < hs.length := by unfold bad at hnb; omega
          have hge : getH hs (j : Int) = hs[j] := by simp [getH, hj]
          obtain ⟨b2, off2, cap2, hv2, hcap2, x0, x1⟩ := TabV.at_ HH.out j hj
          obtain ⟨rfl, _, rfl⟩ : ao = some ⟨b2, off2, none⟩ ∧ hs.length = hs.length ∧ cap = cap2 := by simpa using hv2
          rw [hge] at HS HNO
          have HX := Lib.hid x0
          clear hnb hge hv2 x0 x1
          by_cases ht : 0 < hs[j].1
          · have HT := Lib.hid ht
            have HS2 := Lib.hid (HS.out ht)
            clear ht
            go_wp2_with fail
            refine (taken_any g b2 off2 hs.length cap j _ w HC.out hj (by omega) HX.out true (by simpa using HT.out)).mono ?_
            rintro e w1 ⟨rfl, rfl⟩
            go_wp2_with fail
            go_round
            case rel => exact ⟨k + 1, by omega, by go_num, HS2⟩
            case measure => simp [intOf]; omega
          · have e1 : detachOf hs l = (41, hs) := by unfold detachOf; rw [if_pos HOK.out, if_neg (HNO.out ht)]
            have E1 := Lib.hid e1
            have HT := Lib.hid ht
            clear ht e1
            go_wp2_with fail
            refine (taken_any g b2 off2 hs.length cap j _ w HC.out hj (by omega) HX.out false (by simpa using HT.out)).mono ?_
            rintro e w1 ⟨rfl, rfl⟩
            go_wp2_with fail
            go_ret
            rw [E1.out]; exact ⟨rfl, ⟨_, HH.out⟩, Only.refl _ _⟩
        · have e1 : detachOf hs l = (0, clearL hs l) := by
            have h := htk.out
            rw [List.take_of_length_le (by have := HL.out; omega)] at h
            unfold detachOf; rw [if_pos HOK.out, if_pos h]
          have E1 := Lib.hid e1
          clear e1 htk
          go_wp2_with fail
          go_loopw [10, 43] (fun _ i wr => ∃ k : Nat, k ≤ L ∧ i = .int .i64 k ∧ TabV g last (.slice ao hs.length cap) (clearL hs (l.take k)) S wr ∧ Only S w wr) (fun _ i _ => L - (intOf i).toNat)
          case atStart => exact ⟨0, Nat.zero_le _, rfl, HH.out, Only.refl _ _⟩
          case round =>
            obtain ⟨k, hk, rfl, Hr, ho⟩ := hrel
            by_cases hlt : k < L
            · have hkl : k < l.length := by have := HL.out; omega
              obtain ⟨b, off, rfl, hc⟩ := hx (by omega)
              have hlb := Rd.lt HP.out (by omega)
              have hnS := hps _ _ _ rfl (by omega)
              have c0 := (World.cell?_of_block (a := ⟨b, off + k, none⟩) (ho.block b hlb hnS)).trans (hc k _ (eInt_at .i64 l k hkl))
              have hnb := HOK.out.1 _ (List.getElem_mem hkl)
              have hcs := clearL_step (hs := hs) hkl
              have hcl := clearL_len hs (l.take k)
              have HCS := Lib.hid hcs
              clear hc hcs
              generalize l[k] = y at *
              generalize clearL hs (l.take k) = hk' at *
              obtain ⟨j, rfl⟩ : ∃ j : Nat, y = (j : Int) := ⟨y.toNat, by unfold bad at hnb; omega⟩
              have hj : j < hs.length := by unfold bad at hnb; omega
              have hj2 : j < hk'.length := by omega
              rw [← hcl] at Hr
              have d1 := blk_cell Hr.1 1
              obtain ⟨b2, off2, cap2, hv2, hcap2, hbg, hlb2⟩ := Hr.len (by omega)
              obtain ⟨rfl, _, rfl⟩ : ao = some ⟨b2, off2, none⟩ ∧ hk'.length = hk'.length ∧ cap = cap2 := by simpa using hv2
              obtain ⟨b3, off3, hbo, _, hat⟩ := Hr.2.1.at_ j hj2
              obtain ⟨rfl, rfl⟩ : b2 = b3 ∧ off2 = off3 := by simpa using hbo
              have x0 : wr.cell? ⟨b2, off2 + j * 2, none⟩ = some (.int .i64 hk'[j].1) := (hat 0 (by decide)).1
              have x1 : wr.cell? ⟨b2, off2 + j * 2 + 1, none⟩ = some (.int .i64 hk'[j].2) := (hat 1 (by decide)).1
              have y0 : wr.frozen? ⟨b2, off2 + j * 2, none⟩ = false := (hat 0 (by decide)).2
              have y1 : wr.frozen? ⟨b2, off2 + j * 2 + 1, none⟩ = false := (hat 1 (by decide)).2
              obtain ⟨He, oe⟩ := Hr.elem (by decide) j hj2 ((0, 0) : Pub)
              have HE : Hid (TabV g last (.slice (some ⟨b2, off2, none⟩) hk'.length cap) (hk'.set j (0, 0)) S ((wr.setCell ⟨b2, off2 + j * 2, none⟩ (.int .i64 0)).setCell ⟨b2, off2 + j * 2 + 1, none⟩ (.int .i64 0))) := He
              have HOE : Hid (Only S wr ((wr.setCell ⟨b2, off2 + j * 2, none⟩ (.int .i64 0)).setCell ⟨b2, off2 + j * 2 + 1, none⟩ (.int .i64 0))) := oe
              have d1' : wr.cell? ⟨g, 1, none⟩ = some (.slice (some ⟨b2, off2, none⟩) hk'.length cap) := d1
              have hi0 : (0 : Int) ≤ (j : Int) := by omega
              have hi1 : (j : Int) < (hk'.length : Int) := by omega
              have HO := Lib.hid ho
              have HCL := Lib.hid hcl
              clear He oe hat hbo hv2 d1 Hr ho hnb hcl hj
              go_wp2_with fail
              go_roundw
              case rel => exact ⟨k + 1, by omega, by go_num, by rw [HCS.out, ← HCL.out]; exact HE.out, HO.out.tr HOE.out⟩
              case measure => simp [intOf]; omega
            · rw [List.take_of_length_le (by have := HL.out; omega)] at Hr
              have HR := Lib.hid Hr
              clear Hr
              go_wp2_with fail
              go_ret
              rw [E1.out]; exact ⟨rfl, ⟨_, HR.out⟩, ho⟩
end Go.Proofs.Ythemkcgifefjmaa
