/- cmap: the document's map, Walk. -/
import Derived.Test.YthppleegiieneaaRefMapDo
namespace Go.Proofs.Ythppleegiieneaa
open Go.RowKit
set_option linter.unusedVariables false
set_option linter.unusedSimpArgs false

set_option maxRecDepth 100000 in
set_option maxHeartbeats 4000000 in
theorem refMapWalk_ {m : Nat} {kind cap : Int} {al : List RShA} {ss : List RSt} {T : Nat → Prop} {w : World} (hT : RMapS m cap al ss T w) (G : RMGood kind cap al ss) :
    Calls Try.prog 22 #[.pointer (some ⟨m, 0, none⟩)] w fun e w' => ∃ v', e = .returned v' ∧ OwS ePair 65 (fun k => w.heap.size ≤ k) w' v' (allP (ss.map (·.1))) ∧ Only (fun _ => False) w w' := by
  obtain ⟨v, hV⟩ := hT.named
  obtain ⟨sb, off, c, rfl⟩ := hV.shape (by have := G.n1; omega)
  obtain ⟨c0, -⟩ := hV.slot (i := 0) (by have := G.n1; omega)
  have h4 := G.n4
  have HG := Lib.hid G
  have HV := Lib.hid hV
  have HSG := Lib.hid (show ∀ s ∈ ss.map (·.1), SGood (decide (kind = 1)) cap s from fun s hs => by
    obtain ⟨x, hx, rfl⟩ := List.mem_map.1 hs
    exact G.good x hx)
  clear hT hV G
  go_enter Try.func22, Try.ntmps22
  go_wp2_with fail
  go_loopw [4, 3] (fun t4 t3 wr => ∃ k : Nat, k ≤ al.length ∧ t4 = .int .i64 k ∧ Hid (Upd (fun S w => OwS ePair 65 S w t3 (allP ((ss.map (·.1)).take k))) (fun _ => False) w wr)) (fun t4 _ _ => al.length - (intOf t4).toNat)
  case atStart => exact ⟨0, Nat.zero_le _, rfl, Lib.hid ⟨OwS.nil _ _, Only.refl _ _⟩⟩
  case round =>
    obtain ⟨k, hk, rfl, V⟩ := hrel
    have d0 := only_cell V.out.2 c0
    by_cases hlt : k < al.length
    · have hVr : RMapV m cap (.slice (some ⟨sb, off, none⟩) al.length c) al ss T wr := RMapV.framed.only _ _ _ _ HV.out V.out.2 (fun _ _ _ h => h)
      obtain ⟨-, c1⟩ := hVr.slot hlt
      have h2 : k < ss.length := by rw [← HG.out.len]; exact hlt
      have h2m : k < (ss.map (·.1)).length := by rw [List.length_map]; exact h2
      obtain ⟨A, hA, -⟩ := hVr.at HG.out.len k hlt h2
      have hi0 : (0 : Int) ≤ (k : Int) := by omega
      have hi1 : (k : Int) < (al.length : Int) := by omega
      have hb1 := (HG.out.good _ (List.getElem_mem h2)).len
      have hb2 : (allP ((ss.map (·.1)).take k)).length ≤ 64 := by
        have := allP_len (ss := (ss.map (·.1)).take k) (fun s hs => HSG.out s (List.mem_of_mem_take hs))
        have := List.length_take_le k (ss.map (·.1))
        have := HG.out.len
        simp only [List.length_map] at *
        omega
      have HL := Lib.hid (refShPairs_ hA)
      have HTK := Lib.hid (show allP ((ss.map (·.1)).take (k + 1)) = allP ((ss.map (·.1)).take k) ++ ss[k].1.1 by rw [allP_take k h2m]; simp)
      generalize al[k].rs = rs at *
      clear hVr hA
      go_wp2_with fail
      refine HL.out.mono ?_
      rintro e w1 ⟨vp, rfl, hvp, ho⟩
      have HA1 := Lib.hid (V.out.add OwS.framed (Q := fun S w => OwS ePair 65 S w vp ss[k].1.1) OwS.framed hvp ho)
      obtain ⟨S1, hS1⟩ := HA1.out.getL
      obtain ⟨S2, hS2⟩ := HA1.out.getR
      have HR2 := Lib.hid hS2.1.rd
      obtain ⟨A, hA, hback⟩ := HA1.out.1.focus OwS.framed
      have HA := Lib.hid hA
      have HBK := Lib.hid (fun (v2 : Value) (w2 : World) (h2 : OwS ePair 65 (fun k => A k ∨ w1.heap.size ≤ k) w2 v2 (allP ((ss.map (·.1)).take k) ++ ss[k].1.1)) (ho2 : Only A w1 w2) => (HA1.out.step (Sep.framed OwS.framed OwS.framed) (hback _ w2 (OwS.framed (v := v2)) ⟨h2, ho2⟩)).drop OwS.framed)
      obtain ⟨a3, n3, c3, rfl⟩ := hA.shape'
      clear hvp ho hS1 hS2 hA hback HL
      go_wp2_with (at_builtin; refine wl_appendS (E := ePair) rfl _ (.tmp 22) _ rfl 65 16 ePair_slice _ _ (allP ((ss.map (·.1)).take k)) rfl HA.out _ ss[k].1.1 rfl HR2.out (by omega) (by unfold maxLen; omega) ?_)
      intro v2 w2 hown2 hO2
      have HB2 := Lib.hid (HBK.out v2 w2 hown2 hO2)
      obtain ⟨a4, n4, c4, rfl⟩ := hown2.shape'
      clear hown2 hO2 HBK HA HA1 HR2
      go_wp2_with fail
      refine ⟨⟨k + 1, by omega, by simp, ?_⟩, ?_⟩
      · rw [HTK.out]; exact HB2
      · first | omega | (simp only [intOf]; omega)
    · obtain rfl : k = al.length := by omega
      have hts : (ss.map (·.1)).take al.length = ss.map (·.1) := List.take_of_length_le (by rw [List.length_map]; have := HG.out.len; omega)
      rw [hts] at V
      go_wp2_with fail
      go_ret
      exact ⟨_, rfl, OwS.framed.mono _ _ _ V.out.1 fun _ _ h => h.elim False.elim id, V.out.2⟩
end Go.Proofs.Ythppleegiieneaa
