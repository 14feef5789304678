/- The law WireKeeps: its walk. -/
import Derived.Test.YtkocfgaajghggaaDoorWireKeepsP
namespace Go.Proofs.YtkocfgaajghggaaDoor
open Go.RowKit
set_option linter.unusedVariables false
set_option linter.unusedSimpArgs false

set_option maxRecDepth 100000 in
set_option maxHeartbeats 8000000 in
theorem wireKeeps_any (b : List Int) (v : Value) (w : World) (hv : Rd (eInt .u8) w v b) (hl : b.length * 1 ≤ 140737488351232) (hwf : ∀ x ∈ b, (Lit.int .u8 x).wf = true) (hF : FormsB w) :
    Calls Tryd.prog 6 #[v] w fun e w' => e = .returned (.bool true) ∧ Below w.heap.size w w' := by
  have HV := Lib.hid hv
  have HBY := Lib.hid (bytes_wf hwf)
  have HF := Lib.hid hF.forms
  have hmd := decM_ok (bytes_wf hwf)
  obtain ⟨⟨ms, cs⟩, hdm⟩ : ∃ p, decM b = p := ⟨_, rfl⟩
  rw [hdm] at hmd
  obtain ⟨hi, hm4, hc64⟩ := hmd
  dsimp only at hi hm4 hc64
  have HDM := Lib.hid hdm
  have HI := Lib.hid hi
  have HP := Lib.hid hF.forms.pos
  clear hF hwf hdm hi
  obtain ⟨hvx, av, cv, rfl, -⟩ := hv
  unfold maxLen at hvx
  go_enter Tryd.func6, Tryd.ntmps6
  go_wp2_with fail
  refine (awake_any _ HF.out).mono ?_
  rintro e w1 ⟨rfl, hO1⟩
  have HO1 := Lib.hid hO1
  have HL1 := Lib.hid (litU8 w1)
  clear hO1
  go_wp2_with (at_builtin; refine wl_appendS (E := eU8) rfl _ (.tmp 26) _ rfl 5 1 sliceU8 _ _ [] rfl HL1.out _ b rfl ((HV.out.only HO1.out).alloc _) (by simp only [List.length_nil]; omega) (by unfold maxLen; simp only [List.length_nil]; omega) ?_)
  intro v8 w8 h8 hO8
  have h8b : OwS eU8 5 (fun k => w1.heap.size ≤ k) w8 v8 b := OwS.framed.mono _ _ _ h8 fun k _ h => h.elim id fun h => Nat.le_of_succ_le h
  have HO8 := Lib.hid ((Only.alloc (fun _ => False) w1 (.cells #[] 5)).trans hO8 fun k hk h => by omega)
  have HX8 := Lib.hid (h8b.keep0 (Only.alloc _ w8 (.cells #[.int .u8 71, .int .u8 72, .int .u8 73] 5)))
  have HRL := Lib.hid (Rd.lit (E := eU8) w8 #[.int .u8 71, .int .u8 72, .int .u8 73] 5 (0, 0) 3 3 [71, 72, 73] rfl rfl (by simp) (by simp [maxLen]))
  clear h8 h8b hO8 HL1
  go_wp2_with (at_builtin; refine wl_appendS (E := eU8) rfl _ (.tmp 28) _ rfl 5 1 sliceU8 _ _ b rfl HX8.out _ [71, 72, 73] rfl HRL.out (by simp only [List.length_cons, List.length_nil]; omega) (by unfold maxLen; simp only [List.length_cons, List.length_nil]; omega) ?_)
  intro v9 w9 h9 hO9
  obtain ⟨xs, hxs⟩ : ∃ xs, xs = b ++ [71, 72, 73] := ⟨_, rfl⟩
  rw [← hxs] at h9
  have hxl : xs.length = b.length + 3 := by rw [hxs]; simp
  have hxt : xs.take b.length = b := by rw [hxs]; simp
  have HXS := Lib.hid hxs
  obtain ⟨sb, off, cap, rfl⟩ := h9.1.some_ (by omega)
  have hcap : xs.length ≤ cap := by
    obtain ⟨_, ao', cap', he, h1, _⟩ := h9.1
    obtain ⟨_, rfl⟩ : some ⟨sb, off, none⟩ = ao' ∧ cap = cap' := by simpa using he
    exact h1
  rw [hxl] at h9 hcap ⊢
  have HXL := Lib.hid hxl
  have HS0 := Lib.hid (LSt.start (w0 := w) (w := w1) (HO1.out.below (Nat.le_refl _) fun _ h => h.elim))
  have HA := Lib.hid (HS0.out.newP (Y := fun S w => OwS eU8 5 S w (.slice (some ⟨sb, off, none⟩) (b.length + 3) cap) xs) NoX.framed NoX.framed OwS.framed (OwS.framed.mono _ _ _ h9 fun k _ h => by
    have h1 := HO8.out.size
    rcases h with h | h
    · exact h
    · exact Nat.le_trans h1 (Nat.le_of_succ_le h)) ((HO8.out.tr (Only.alloc _ _ _)).trans hO9 fun k hk h => by omega))
  clear h9 hO9 HX8 HRL HO8 HS0 hxs hxl
  have hi0 : (0 : Int) ≤ (b.length : Int) := by omega
  have hi1 : (b.length : Int) ≤ (cap : Int) := by omega
  have HRT := Lib.hid (fun (W : World) (h : Rd eU8 W (.slice (some ⟨sb, off, none⟩) (b.length + 3) cap) xs) => show Rd eU8 W (.slice (some ⟨sb, off, none⟩) b.length cap) b from by
    have h2 := h.taken b.length (by have := HXL.out; omega) cap (by omega) (by simp)
    rw [hxt] at h2
    exact h2)
  clear hxt
  go_wp2_with fail
  obtain ⟨_, hp⟩ := HA.out.first
  refine (decode_both HDM.out _ w9 (HRT.out _ hp.rd) HBY.out (HF.out.below HA.out.below HP.out)).mono ?_
  rintro e w5 ⟨vm, vc, p1, e1, rfl, hN⟩
  obtain ⟨_, am, cm, rfl, -⟩ := id hN.1.1
  obtain ⟨_, ac, cc, rfl, -⟩ := id hN.2.1.1
  have HB := Lib.hid (HA.out.newQ OwS.framed NoX.framed ModO.framed hN.obj.1 hN.obj.2)
  clear hp hN HA
  go_wp2_with fail
  generalize hW5 : w5.alloc (.cells #[.slice am ms.length cm, .slice ac cs.length cc] 25) = W5 at *
  generalize w5.heap.size = g4 at *
  clear hW5
  obtain ⟨_, hp⟩ := HB.out.first
  refine (decode_both HDM.out _ W5 (HRT.out _ hp.rd) HBY.out (HF.out.below HB.out.below HP.out)).mono ?_
  rintro e w6 ⟨vn, vd, p2, e2, rfl, hN⟩
  obtain ⟨_, an, cn, rfl, -⟩ := id hN.1.1
  obtain ⟨_, ad, cd, rfl, -⟩ := id hN.2.1.1
  have HC := Lib.hid (HB.out.newX OwS.framed ModO.framed NoX.framed ModO.framed hN.obj.1 hN.obj.2)
  clear hp hN HB
  go_wp2_with fail
  generalize hW6 : w6.alloc (.cells #[.slice an ms.length cn, .slice ad cs.length cd] 25) = W6 at *
  generalize w6.heap.size = g7 at *
  clear hW6
  refine (refDecode_both HDM.out _ W6 (HV.out.grow HC.out.below) HBY.out).mono ?_
  rintro e w7 ⟨vx, vy, p3, e3, rfl, hN⟩
  obtain ⟨_, ax, cx, rfl, -⟩ := id hN.1.1
  obtain ⟨_, ay, cy, rfl, -⟩ := id hN.2.1.1
  have HD := Lib.hid ((HC.out.newX OwS.framed ModO.framed (NoX.framed.and ModO.framed) ModO.framed hN.obj.1 hN.obj.2).wide (X' := XK g7 w7.heap.size (.slice an ms.length cn) (.slice ad cs.length cd) (.slice ax ms.length cx) (.slice ay cs.length cy) ms cs) fun _ h => ⟨h.1.2, h.2⟩)
  clear hN HC HDM
  go_upto_region 7 with (fail)
  generalize hW7 : w7.alloc (.cells #[.slice ax ms.length cx, .slice ay cs.length cy] 25) = W7 at *
  generalize w7.heap.size = g10 at *
  clear hW7
  obtain ⟨_, hp⟩ := HD.out.first
  have hcv1 := conv_rd hp.rd
  have hcv2 := conv_rd (HV.out.grow HD.out.below)
  have hsz : (strB b).size + 3 ≤ 9223372036854775807 := by rw [strB_size]; omega
  have hse := strB_ghi b
  rw [← HXS.out] at hse
  generalize strB b = sB at *
  generalize strB xs = sX at *
  clear hp
  go_wp2_with fail
  clear hcv1 hcv2 hsz hse HXS HRT
  go_loopw [13] (fun t13 wr => ∃ (k : Nat) (ys : List Int), k ≤ b.length ∧ ys.length = b.length + 3 ∧ t13 = .int .i64 k ∧ Hid (LSt (fun S w => OwS eU8 5 S w (.slice (some ⟨sb, off, none⟩) (b.length + 3) cap) ys) (ModO g4 (.slice am ms.length cm) (.slice ac cs.length cc) ms cs) (XK g7 g10 (.slice an ms.length cn) (.slice ad cs.length cd) (.slice ax ms.length cx) (.slice ay cs.length cy) ms cs) w wr)) (fun t13 _ => b.length - (intOf t13).toNat)
  case atStart => exact ⟨0, xs, Nat.zero_le _, HXL.out, rfl, HD⟩
  case round =>
    clear HD HXL
    obtain ⟨k, ys, hk, hyl, rfl, V⟩ := hrel
    have HYL := Lib.hid hyl
    clear hyl
    by_cases hlt : k < b.length
    · obtain ⟨_, hp⟩ := V.out.first
      obtain ⟨sb', off', he, c0, f0⟩ := hp.cell1 k (by have := HYL.out; omega)
      obtain ⟨rfl, rfl⟩ : sb = sb' ∧ off = off' := by simpa using he
      have hk2 := HYL.out
      have hky : k < ys.length := by omega
      generalize ys[k] = y0 at c0
      have HV2 := Lib.hid (V.out.step (P' := fun S w => OwS eU8 5 S w (.slice (some ⟨sb, off, none⟩) (b.length + 3) cap) (ys.set k 0)) OwS.framed ModO.framed XK.framed (w' := wr.setCell ⟨sb, off + k, none⟩ (.int .u8 0)) fun S hS => by
        obtain ⟨h1, h2⟩ := OwS.store1 hS k (by omega) (0 : Int)
        exact ⟨OwS.framed.mono _ _ _ h1 fun _ _ h => .inl h, h2⟩)
      have HZ := Lib.hid (show (ys.set k 0).length = b.length + 3 by simpa using hk2)
      have hi0 : (0 : Int) ≤ (k : Int) := by omega
      have hi1 : (k : Int) < (b.length : Int) := by omega
      clear hp hk2 he V
      go_wp2_with fail
      go_roundw
      case rel => exact ⟨k + 1, _, by omega, HZ.out, by go_num, HV2⟩
      case measure => simp [intOf]; omega
    · have HVA := Lib.hid V.out.dropP
      clear V HYL hcap
      go_wp2_with fail
      go_loopw [14] (fun t14 wr => ∃ (k : Nat) (ys : List Int), k ≤ ms.length ∧ ys.length = ms.length ∧ t14 = .int .i64 k ∧ Hid (LSt NoX (ModO g4 (.slice am ms.length cm) (.slice ac cs.length cc) ys cs) (XK g7 g10 (.slice an ms.length cn) (.slice ad cs.length cd) (.slice ax ms.length cx) (.slice ay cs.length cy) ms cs) w wr)) (fun t14 _ => ms.length - (intOf t14).toNat)
      case atStart => exact ⟨0, ms, Nat.zero_le _, rfl, rfl, HVA⟩
      case round =>
        clear HVA hlt hk
        rename_i wq _
        obtain ⟨k, ys, hk, hyl, rfl, V⟩ := hrel
        have HYL := Lib.hid hyl
        clear hyl
        obtain ⟨_, hb, ha, hc⟩ := V.out.second
        have hg4l := heap_lt hb.1
        have b0 := cells_of_heap hb.1 0 _ rfl
        have bf0 := blk_free hb.1 0
        by_cases hlt : k < ms.length
        · obtain ⟨sb2, off2, rfl, c0, f0⟩ := ha.cell1 k (by have := HYL.out; omega)
          have hk2 := HYL.out
          have hky : k < ys.length := by omega
          generalize ys[k] = y0 at c0
          have HV2 := Lib.hid (V.out.stepQ (Q' := ModO g4 (.slice (some ⟨sb2, off2, none⟩) ms.length cm) (.slice ac cs.length cc) (ys.set k (-9)) cs) NoX.framed ModO.framed XK.framed (w' := wr.setCell ⟨sb2, off2 + k, none⟩ (.int .i64 (-9))) fun S hS => by
            obtain ⟨h1, h2⟩ := OwS.store1 (S := fun j => (Value.slice (some ⟨sb2, off2, none⟩) ms.length cm).ownBlock = some j) ⟨hS.2.1.1, fun _ h => h⟩ k (by omega) (-9 : Int)
            exact hS.stA h1 h2)
          have HZ := Lib.hid (show (ys.set k (-9)).length = ms.length by simpa using hk2)
          have hi0 : (0 : Int) ≤ (k : Int) := by omega
          have hi1 : (k : Int) < (ms.length : Int) := by omega
          clear hk2 V ha hc hb
          go_wp2_with fail
          go_roundw
          case rel => exact ⟨k + 1, _, by omega, HZ.out, by go_num, HV2⟩
          case measure => simp [intOf]; omega
        · have HW1 := Lib.hid (V.out.fresh NoX.framed ModO.framed XK.framed (Only.alloc _ wr (.cells #[.int .i64 (-8), .int .i64 (-7)] 3)))
          have HRL := Lib.hid (Rd.lit (E := eInt .i64) wr #[.int .i64 (-8), .int .i64 (-7)] 3 (0, 0) 2 2 [-8, -7] rfl rfl (by simp) (by simp [maxLen]))
          have hyl := HYL.out
          obtain ⟨_, hb2, ha2, hc2⟩ := HW1.out.second
          have HAO := Lib.hid (show OwS (eInt .i64) 3 (fun j => (Value.slice am ms.length cm).ownBlock = some j) (wr.alloc (.cells #[.int .i64 (-8), .int .i64 (-7)] 3)) (.slice am ms.length cm) ys from ⟨ha2.1, fun _ h => h⟩)
          have HBB := Lib.hid hb2.1
          clear V hb ha hc hb2 ha2 hc2
          go_wp2_with (at_builtin; refine wl_appendS (E := eInt .i64) rfl _ (.tmp 82) _ rfl 3 8 sliceInt _ _ ys rfl HAO.out _ [-8, -7] rfl HRL.out (by simp only [List.length_cons, List.length_nil]; omega) (by unfold maxLen; simp only [List.length_cons, List.length_nil]; omega) ?_)
          intro v3 w3 h3 hO3
          have hb3 := hO3.heap HBB.out (row_ne HBB.out HAO.out.1 (by decide))
          have hg4m := heap_lt hb3
          have b0 := cells_of_heap hb3 0 _ rfl
          have bf0 := blk_free hb3 0
          obtain ⟨_, am2, cm2, rfl, -⟩ := id h3.1
          have HW2 := Lib.hid (HW1.out.stepQ NoX.framed ModO.framed XK.framed fun S hS => hS.pushA (by simp) h3 hO3)
          clear h3 hO3 HBB HAO HRL HW1 hb3 hyl
          generalize ys ++ [-8, -7] = ys2 at *
          go_wp2_with fail
          clear b0 bf0
          go_loopw [15] (fun t15 wr => ∃ (k : Nat) (zs : List InstD), k ≤ cs.length ∧ zs.length = cs.length ∧ t15 = .int .i64 k ∧ Hid (LSt NoX (ModO g4 (.slice am2 ys2.length cm2) (.slice ac cs.length cc) ys2 zs) (XK g7 g10 (.slice an ms.length cn) (.slice ad cs.length cd) (.slice ax ms.length cx) (.slice ay cs.length cy) ms cs) w wr)) (fun t15 _ => cs.length - (intOf t15).toNat)
          case atStart => exact ⟨0, cs, Nat.zero_le _, rfl, rfl, HW2⟩
          case round =>
            clear HW2 hlt hk hg4m hg4l
            obtain ⟨k, zs, hk, hyl, rfl, V⟩ := hrel
            have HYL := Lib.hid hyl
            clear hyl
            obtain ⟨_, hb, ha, hc⟩ := V.out.second
            have hg4l := heap_lt hb.1
            have b1 := cells_of_heap hb.1 1 _ rfl
            have bf1 := blk_free hb.1 1
            by_cases hlt : k < cs.length
            · have hk2 := HYL.out
              have hky : k < zs.length := by omega
              obtain ⟨sb3, off3, rfl, c0, f0, c1, f1, c2, f2, c3, f3, c4, f4⟩ := hc.cells5 k hky
              generalize zs[k].1 = z0 at *
              generalize zs[k].2.1 = z1 at *
              generalize zs[k].2.2.1 = z2 at *
              generalize zs[k].2.2.2.1 = z3 at *
              generalize zs[k].2.2.2.2 = z4 at *
              have d1 : (wr.setCell ⟨sb3, off3 + k * 5, none⟩ (.int .i64 99)).cell? ⟨sb3, off3 + k * 5 + 1, none⟩ = some (.int .i64 z1) := (World.cell?_setCell_other _ _ _ _ (by simp)).trans (c1)
              have d2 : ((wr.setCell ⟨sb3, off3 + k * 5, none⟩ (.int .i64 99)).setCell ⟨sb3, off3 + k * 5 + 1, none⟩ (.int .i64 0)).cell? ⟨sb3, off3 + k * 5 + 2, none⟩ = some (.int .i64 z2) := (World.cell?_setCell_other _ _ _ _ (by simp)).trans ((World.cell?_setCell_other _ _ _ _ (by simp)).trans (c2))
              have d3 : (((wr.setCell ⟨sb3, off3 + k * 5, none⟩ (.int .i64 99)).setCell ⟨sb3, off3 + k * 5 + 1, none⟩ (.int .i64 0)).setCell ⟨sb3, off3 + k * 5 + 2, none⟩ (.int .i64 0)).cell? ⟨sb3, off3 + k * 5 + 3, none⟩ = some (.int .i64 z3) := (World.cell?_setCell_other _ _ _ _ (by simp)).trans ((World.cell?_setCell_other _ _ _ _ (by simp)).trans ((World.cell?_setCell_other _ _ _ _ (by simp)).trans (c3)))
              have d4 : ((((wr.setCell ⟨sb3, off3 + k * 5, none⟩ (.int .i64 99)).setCell ⟨sb3, off3 + k * 5 + 1, none⟩ (.int .i64 0)).setCell ⟨sb3, off3 + k * 5 + 2, none⟩ (.int .i64 0)).setCell ⟨sb3, off3 + k * 5 + 3, none⟩ (.int .i64 0)).cell? ⟨sb3, off3 + k * 5 + 4, none⟩ = some (.int .i64 z4) := (World.cell?_setCell_other _ _ _ _ (by simp)).trans ((World.cell?_setCell_other _ _ _ _ (by simp)).trans ((World.cell?_setCell_other _ _ _ _ (by simp)).trans ((World.cell?_setCell_other _ _ _ _ (by simp)).trans (c4))))
              have HV2 := Lib.hid (V.out.stepQ (Q' := ModO g4 (.slice am2 ys2.length cm2) (.slice (some ⟨sb3, off3, none⟩) cs.length cc) ys2 (zs.set k (99, 0, 0, 0, 0))) NoX.framed ModO.framed XK.framed (w' := (((((wr.setCell ⟨sb3, off3 + k * 5, none⟩ (.int .i64 99)).setCell ⟨sb3, off3 + k * 5 + 1, none⟩ (.int .i64 0)).setCell ⟨sb3, off3 + k * 5 + 2, none⟩ (.int .i64 0)).setCell ⟨sb3, off3 + k * 5 + 3, none⟩ (.int .i64 0)).setCell ⟨sb3, off3 + k * 5 + 4, none⟩ (.int .i64 0))) fun S hS => by
                obtain ⟨h1, h2⟩ := OwS.store5 (S := fun j => (Value.slice (some ⟨sb3, off3, none⟩) cs.length cc).ownBlock = some j) ⟨hS.2.2.1, fun _ h => h⟩ k (by omega) ((99, 0, 0, 0, 0) : InstD)
                exact hS.stB h1 h2)
              have HZ := Lib.hid (show (zs.set k (99, 0, 0, 0, 0)).length = cs.length by simpa using hk2)
              have hi0 : (0 : Int) ≤ (k : Int) := by omega
              have hi1 : (k : Int) < (cs.length : Int) := by omega
              clear hk2 V ha hc hb
              go_wp2_with fail
              go_roundw
              case rel => exact ⟨k + 1, _, by omega, HZ.out, by go_num, HV2⟩
              case measure => simp [intOf]; omega
            · have HW1 := Lib.hid (V.out.fresh NoX.framed ModO.framed XK.framed (Only.alloc _ wr (.cells #[.int .i64 98, .int .i64 0, .int .i64 0, .int .i64 0, .int .i64 0] 44)))
              have HRL := Lib.hid (Rd.lit (E := eInst) wr #[.int .i64 98, .int .i64 0, .int .i64 0, .int .i64 0, .int .i64 0] 44 (0, 0) 1 1 [((98, 0, 0, 0, 0) : InstD)] rfl rfl (by simp) (by simp [maxLen]))
              have hyl := HYL.out
              obtain ⟨_, hb2, ha2, hc2⟩ := HW1.out.second
              have HAO := Lib.hid (show OwS eInst 44 (fun j => (Value.slice ac cs.length cc).ownBlock = some j) (wr.alloc (.cells #[.int .i64 98, .int .i64 0, .int .i64 0, .int .i64 0, .int .i64 0] 44)) (.slice ac cs.length cc) zs from ⟨hc2.1, fun _ h => h⟩)
              have HBB := Lib.hid hb2.1
              clear V hb ha hc hb2 ha2 hc2
              go_wp2_with (at_builtin; refine wl_appendS (E := eInst) rfl _ (.tmp 100) _ rfl 44 40 eInst_slice _ _ zs rfl HAO.out _ [((98, 0, 0, 0, 0) : InstD)] rfl HRL.out (by simp only [List.length_cons, List.length_nil]; omega) (by unfold maxLen; simp only [List.length_cons, List.length_nil]; omega) ?_)
              intro v3 w4 h3 hO3
              have hb3 := hO3.heap HBB.out (row_ne HBB.out HAO.out.1 (by decide))
              have hg4m := heap_lt hb3
              have b1 := cells_of_heap hb3 1 _ rfl
              have bf1 := blk_free hb3 1
              obtain ⟨_, ac2, cc2, rfl, -⟩ := id h3.1
              have HW2 := Lib.hid (HW1.out.stepQ NoX.framed ModO.framed XK.framed fun S hS => hS.pushB (by simp) h3 hO3)
              clear h3 hO3 HBB HAO HRL HW1 hb3
              have hz2 : (zs ++ [((98, 0, 0, 0, 0) : InstD)]).length = cs.length + 1 := by rw [List.length_append, hyl]; rfl
              rw [hz2] at HW2 ⊢
              generalize zs ++ [((98, 0, 0, 0, 0) : InstD)] = zs2 at *
              clear hz2 hyl HYL
              go_upto_region 23 with (fail)
              clear b1 bf1 hg4m hg4l hlt hk
              generalize w4.setCell ⟨g4, 1, none⟩ (.slice ac2 (cs.length + 1) cc2) = W8 at *
              obtain ⟨_, hXn, hXw⟩ := HW2.out.rest
              have x0 := cells_of_heap hXw.1.1 0 _ rfl
              have x1 := cells_of_heap hXw.1.1 1 _ rfl
              have HRM := Lib.hid hXw.2.1.rd
              have HRC := Lib.hid hXw.2.2.rd
              clear hXn hXw
              go_wp2_with fail
              refine (encode_un ms cs _ _ W8 HRM.out HRC.out HI.out (HF.out.below HW2.out.below HP.out)).mono ?_
              clear HRM HRC
              rintro e W9 ⟨vc9, rfl, hv9, hO9⟩
              obtain ⟨_, ae, ce, rfl, -⟩ := id hv9.1
              have HW3 := Lib.hid (HW2.out.newP (Y := fun S w => OwS eU8 5 S w (.slice ae (encX ms cs).length ce) (encX ms cs)) ModO.framed XK.framed OwS.framed hv9 hO9)
              clear x0 x1
              obtain ⟨_, hXn, hXw⟩ := HW3.out.rest
              have x0 := cells_of_heap hXw.1.1 0 _ rfl
              have x1 := cells_of_heap hXw.1.1 1 _ rfl
              have HRM := Lib.hid hXw.2.1.rd
              have HRC := Lib.hid hXw.2.2.rd
              clear hXn hXw
              clear hv9 hO9 HW2
              go_wp2_with fail
              refine (encode_un ms cs _ _ W9 HRM.out HRC.out HI.out (HF.out.below HW3.out.below HP.out)).mono ?_
              clear HRM HRC x0 x1
              rintro e W10 ⟨vd9, rfl, hv9, hO9⟩
              obtain ⟨_, af, cf, rfl, -⟩ := id hv9.1
              have HW4 := Lib.hid (HW3.out.newX (Y := fun S w => OwS eU8 5 S w (.slice af (encX ms cs).length cf) (encX ms cs)) OwS.framed ModO.framed XK.framed OwS.framed hv9 hO9)
              clear hv9 hO9 HW3
              obtain ⟨ex, hex⟩ : ∃ ex, ex = encX ms cs := ⟨_, rfl⟩
              rw [← hex] at HW4 ⊢
              have hel : ex.length ≤ 4000 := by rw [hex]; exact encX_len ms cs
              have HEX := Lib.hid hex
              clear hex
              go_wp2_with fail
              go_loopw [20] (fun t20 wr => ∃ (k : Nat) (ys : List Int), k ≤ ex.length ∧ ys.length = ex.length ∧ t20 = .int .i64 k ∧ Hid (LSt (fun S w => OwS eU8 5 S w (.slice ae ex.length ce) ys) (ModO g4 (.slice am2 ys2.length cm2) (.slice ac2 (cs.length + 1) cc2) ys2 zs2) (fun S w => (XK g7 g10 (.slice an ms.length cn) (.slice ad cs.length cd) (.slice ax ms.length cx) (.slice ay cs.length cy) ms cs) S w ∧ OwS eU8 5 S w (.slice af ex.length cf) ex) w wr)) (fun t20 _ => ex.length - (intOf t20).toNat)
              case atStart => exact ⟨0, ex, Nat.zero_le _, rfl, rfl, HW4⟩
              case round =>
                clear HW4
                obtain ⟨k, ys, hk, hyl, rfl, V⟩ := hrel
                have HYL := Lib.hid hyl
                clear hyl
                by_cases hlt : k < ex.length
                · obtain ⟨_, hp⟩ := V.out.first
                  have hk2 := HYL.out
                  have hky : k < ys.length := by omega
                  obtain ⟨sb4, off4, rfl, c0, f0⟩ := hp.cell1 k hky
                  generalize ys[k] = y0 at c0
                  have HV2 := Lib.hid (V.out.step (P' := fun S w => OwS eU8 5 S w (.slice (some ⟨sb4, off4, none⟩) ex.length ce) (ys.set k 1)) OwS.framed ModO.framed (XK.framed.and OwS.framed) (w' := wr.setCell ⟨sb4, off4 + k, none⟩ (.int .u8 1)) fun S hS => by
                    obtain ⟨h1, h2⟩ := OwS.store1 hS k (by omega) (1 : Int)
                    exact ⟨OwS.framed.mono _ _ _ h1 fun _ _ h => .inl h, h2⟩)
                  have HZ := Lib.hid (show (ys.set k 1).length = ex.length by simpa using hk2)
                  have hi0 : (0 : Int) ≤ (k : Int) := by omega
                  have hi1 : (k : Int) < (ex.length : Int) := by omega
                  clear hp hk2 V
                  go_wp2_with fail
                  go_roundw
                  case rel => exact ⟨k + 1, _, by omega, HZ.out, by go_num, HV2⟩
                  case measure => simp [intOf]; omega
                · have HW5 := Lib.hid V.out.dropP
                  clear V HYL
                  obtain ⟨_, ⟨hXn, hXw⟩, hXd⟩ := HW5.out.rest
                  have x0 := cells_of_heap hXw.1.1 0 _ rfl
                  have x1 := cells_of_heap hXw.1.1 1 _ rfl
                  have HRM := Lib.hid hXw.2.1.rd
                  have HRC := Lib.hid hXw.2.2.rd
                  clear hXn hXw hXd
                  go_wp2_with fail
                  refine (refEncode_un ms cs _ _ wr HRM.out HRC.out HI.out).mono ?_
                  clear HRM HRC x0 x1
                  rintro e W11 ⟨vg, rfl, hv9, hO9⟩
                  rw [← HEX.out] at hv9
                  have HW6 := Lib.hid (HW5.out.newX (Y := fun S w => OwS eU8 5 S w vg ex) NoX.framed ModO.framed (XK.framed.and OwS.framed) OwS.framed hv9 hO9)
                  clear hv9 hO9 HW5
                  obtain ⟨_, ⟨⟨hXn, hXw⟩, hXd⟩, hXg⟩ := HW6.out.rest
                  have x0 := cells_of_heap hXw.1.1 0 _ rfl
                  have x1 := cells_of_heap hXw.1.1 1 _ rfl
                  have y0 := cells_of_heap hXn.1.1 0 _ rfl
                  have y1 := cells_of_heap hXn.1.1 1 _ rfl
                  have HRM := Lib.hid hXw.2.1.rd
                  have HRC := Lib.hid hXw.2.2.rd
                  have HNM := Lib.hid hXn.2.1.rd
                  have HNC := Lib.hid hXn.2.2.rd
                  clear hXn hXw hXd hXg
                  go_wp2_with fail
                  refine (refSame_any ms ms cs cs _ _ _ _ W11 HNM.out HRM.out HNC.out HRC.out).mono ?_
                  clear HRM HRC HNM HNC x0 x1 y0 y1
                  rintro e W12 ⟨rfl, hO12⟩
                  rw [← same_y (rfl : ms = ms) (rfl : cs = cs)]
                  have HW7 := Lib.hid (HW6.out.fresh NoX.framed ModO.framed ((XK.framed.and OwS.framed).and OwS.framed) hO12)
                  clear hO12 HW6
                  obtain ⟨_, ⟨⟨hXn, hXw⟩, hXd⟩, hXg⟩ := HW7.out.rest
                  obtain ⟨_, hM⟩ := HW7.out.second
                  have x1 := cells_of_heap hXw.1.1 1 _ rfl
                  have m1 := cells_of_heap hM.1.1 1 _ rfl
                  have hcv1 := conv_rd hXd.rd
                  have hcv2 := conv_rd hXg.rd
                  generalize strB ex = sE at *
                  generalize encE ms cs = eE at *
                  clear hXn hXw hXd hXg hM
                  go_wp2_with fail
                  go_ret
                  exact ⟨rfl, HW7.out.below⟩
end Go.Proofs.YtkocfgaajghggaaDoor
