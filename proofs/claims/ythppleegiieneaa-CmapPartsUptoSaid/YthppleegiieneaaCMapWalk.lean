/- cmap: Walk. -/
import Derived.Test.YthppleegiieneaaCMapPart
namespace Go.Proofs.Ythppleegiieneaa
open Go.RowKit
set_option linter.unusedVariables false
set_option linter.unusedSimpArgs false

set_option maxRecDepth 100000 in
set_option maxHeartbeats 4000000 in
theorem cmapWalk_ {m : Nat} {kind cap : Int} {al : List ShA} {ss : List Sh} {T : Nat → Prop} {w : World} (hT : MapS m kind cap al ss T w) (G : MGood kind cap al ss) :
    Calls Try.prog 23 #[.pointer (some ⟨m, 0, none⟩)] w fun e w' => ∃ v', e = .returned v' ∧ OwS ePair 65 (fun k => w.heap.size ≤ k) w' v' (allP ss) ∧ Only (fun _ => False) w w' := by
  obtain ⟨v, hV⟩ := hT.named
  obtain ⟨sb, off, c, rfl⟩ := hV.shape (by have := G.n1; omega)
  obtain ⟨c0, -⟩ := hV.slot (i := 0) (by have := G.n1; omega)
  have h4 := G.n4
  have HG := Lib.hid G
  have HV := Lib.hid hV
  clear hT hV G
  go_enter Try.func23, Try.ntmps23
  go_wp2_with fail
  go_loopw [11, 3, 5] (fun t11 t3 _ wr => ∃ k : Nat, k ≤ al.length ∧ t11 = .int .i64 k ∧ Hid (Upd (fun S w => OwS ePair 65 S w t3 (allP (ss.take k))) (fun _ => False) w wr)) (fun t11 _ _ _ => al.length - (intOf t11).toNat)
  case atStart => exact ⟨0, Nat.zero_le _, rfl, Lib.hid ⟨OwS.nil _ _, Only.refl _ _⟩⟩
  case round =>
    obtain ⟨k, hk, rfl, V⟩ := hrel
    by_cases hlt : k < al.length
    · have hVr : MapV m kind cap (.slice (some ⟨sb, off, none⟩) al.length c) al ss T wr := MapV.framed.only _ _ _ _ HV.out V.out.2 (fun _ _ _ h => h)
      obtain ⟨-, c1⟩ := hVr.slot hlt
      have h2 : k < ss.length := by rw [← HG.out.len]; exact hlt
      obtain ⟨A, hA, -⟩ := hVr.at HG.out.len k hlt h2
      have hi0 : (0 : Int) ≤ (k : Int) := by omega
      have hi1 : (k : Int) < (al.length : Int) := by omega
      have HGk := Lib.hid (HG.out.good _ (List.getElem_mem h2))
      have hb1 := HGk.out.len
      have hb2 : (allP (ss.take k)).length ≤ 64 := by
        have := allP_len (ss := ss.take k) (fun s hs => HG.out.good s (List.mem_of_mem_take hs))
        have := List.length_take_le k ss
        have := HG.out.len
        omega
      clear hVr
      cases hai : al[k] with
      | plain b =>
        rw [hai] at c1 hA
        have hcm := cm_book_pairs b
        have HL := Lib.hid (shPairs_plain hA HGk.out)
        replace c1 : wr.cell? ⟨sb, off + k, none⟩ = some (.iface 67 (.pointer (some ⟨b, 0, none⟩))) := c1
        clear hA
        go_wp2_with fail
        refine HL.out.mono ?_
        rintro e w1 ⟨vp, rfl, hvp, ho⟩
        have HA1 := Lib.hid (V.out.add OwS.framed (Q := fun S w => OwS ePair 65 S w vp ss[k].1) OwS.framed hvp ho)
        obtain ⟨S1, hS1⟩ := HA1.out.getL
        obtain ⟨S2, hS2⟩ := HA1.out.getR
        have HR2 := Lib.hid hS2.1.rd
        obtain ⟨A, hA, hback⟩ := HA1.out.1.focus OwS.framed
        have HA := Lib.hid hA
        have HBK := Lib.hid (fun (v2 : Value) (w2 : World) (h2 : OwS ePair 65 (fun k => A k ∨ w1.heap.size ≤ k) w2 v2 (allP (ss.take k) ++ ss[k].1)) (ho2 : Only A w1 w2) => (HA1.out.step (Sep.framed OwS.framed OwS.framed) (hback _ w2 (OwS.framed (v := v2)) ⟨h2, ho2⟩)).drop OwS.framed)
        obtain ⟨a3, n3, c3, rfl⟩ := hA.shape'
        clear hvp ho hS1 hS2 hA hback HL
        go_wp2_with (at_builtin; refine wl_appendS (E := ePair) rfl _ (.tmp 17) _ rfl 65 16 ePair_slice _ _ (allP (ss.take k)) rfl HA.out _ ss[k].1 rfl HR2.out (by omega) (by unfold maxLen; omega) ?_)
        intro v2 w2 hown2 hO2
        have HB2 := Lib.hid (HBK.out v2 w2 hown2 hO2)
        obtain ⟨a4, n4, c4, rfl⟩ := hown2.shape'
        clear hown2 hO2 HBK HA HA1 HR2
        go_wp2_with fail
        refine ⟨⟨k + 1, by omega, by simp, ?_⟩, ?_⟩
        · rw [allP_take k h2]; exact HB2
        · first | omega | (simp only [intOf]; omega)
      | bound g b =>
        rw [hai] at c1 hA
        have HP := Lib.hid hA.ptr
        have HL := Lib.hid (shPairs_bound hA HGk.out)
        replace c1 : wr.cell? ⟨sb, off + k, none⟩ = some (.iface 70 (.pointer (some ⟨g, 0, none⟩))) := c1
        clear hA
        go_wp2_with fail
        rw [cm_lru_n g b wr HP.out "Pairs" 55 (by kernel_rfl) (by kernel_rfl)]
        go_wp2_with fail
        refine HL.out.mono ?_
        rintro e w1 ⟨vp, rfl, hvp, ho⟩
        have HA1 := Lib.hid (V.out.add OwS.framed (Q := fun S w => OwS ePair 65 S w vp ss[k].1) OwS.framed hvp ho)
        obtain ⟨S1, hS1⟩ := HA1.out.getL
        obtain ⟨S2, hS2⟩ := HA1.out.getR
        have HR2 := Lib.hid hS2.1.rd
        obtain ⟨A, hA, hback⟩ := HA1.out.1.focus OwS.framed
        have HA := Lib.hid hA
        have HBK := Lib.hid (fun (v2 : Value) (w2 : World) (h2 : OwS ePair 65 (fun k => A k ∨ w1.heap.size ≤ k) w2 v2 (allP (ss.take k) ++ ss[k].1)) (ho2 : Only A w1 w2) => (HA1.out.step (Sep.framed OwS.framed OwS.framed) (hback _ w2 (OwS.framed (v := v2)) ⟨h2, ho2⟩)).drop OwS.framed)
        obtain ⟨a3, n3, c3, rfl⟩ := hA.shape'
        clear hvp ho hS1 hS2 hA hback HL
        go_wp2_with (at_builtin; refine wl_appendS (E := ePair) rfl _ (.tmp 17) _ rfl 65 16 ePair_slice _ _ (allP (ss.take k)) rfl HA.out _ ss[k].1 rfl HR2.out (by omega) (by unfold maxLen; omega) ?_)
        intro v2 w2 hown2 hO2
        have HB2 := Lib.hid (HBK.out v2 w2 hown2 hO2)
        obtain ⟨a4, n4, c4, rfl⟩ := hown2.shape'
        clear hown2 hO2 HBK HA HA1 HR2
        go_wp2_with fail
        refine ⟨⟨k + 1, by omega, by simp, ?_⟩, ?_⟩
        · rw [allP_take k h2]; exact HB2
        · first | omega | (simp only [intOf]; omega)
    · obtain rfl : k = al.length := by omega
      have hts : ss.take al.length = ss := by rw [HG.out.len]; exact List.take_length
      rw [hts] at V
      go_wp2_with fail
      go_ret
      exact ⟨_, rfl, OwS.framed.mono _ _ _ V.out.1 fun _ _ h => h.elim False.elim id, V.out.2⟩
end Go.Proofs.Ythppleegiieneaa
