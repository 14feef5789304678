/- The law OwnerOrders: its walk (printed by ownord.py). -/
import Derived.Test.YtdlkblklfoagbaaOwnLast
import Derived.Test.YtdlkblklfoagbaaOwnFresh
import Derived.Deep.RegionHeld3
import Derived.Deep.DeepCutAuto
import Derived.Deep.CutBlock
namespace Go.Proofs.Ytdlkblklfoagbaa
open Go.RowKit
set_option linter.unusedVariables false
set_option linter.unusedSimpArgs false
set_option maxRecDepth 100000 in
set_option maxHeartbeats 4000000 in
theorem ownerOrders_bad (sd n : Int) (vm : Value) (ds : List DefD) (v vc : Value) (w : World) (hr : Rd eDef w vm ds) (h : okOwn sd n ds = false) :
    Calls Try.prog 6 #[.agg #[.int .i64 sd, .int .i64 n, vm], v, vc] w fun e w' => e = .returned (.bool true) ∧ Only (fun _ => False) w w' := by
  obtain ⟨_, am, cm, rfl, _⟩ := id hr
  have HH := Lib.hid h
  have HR := Lib.hid hr
  have HB := Lib.hid (show Upd (Blk w.heap.size (shO sd n (.slice am ds.length cm))) (fun _ => False) w (w.alloc (shO sd n (.slice am ds.length cm))) from ⟨⟨heap_alloc_new _ _, .inr (Nat.le_refl _)⟩, Only.alloc _ _ _⟩)
  clear h hr
  go_enter Try.func6, Try.ntmps6
  go_wp2_with fail
  generalize World.alloc w _ = wa at *
  generalize w.heap.size = bd at *
  refine (HB.out.callRead Blk.framed (E := fun e => e = .returned (.bool true)) (awake_any wa)).mono ?_
  rintro e w1 ⟨rfl, hB1⟩
  have HB1 := Lib.hid hB1
  have c0 : w1.cell? ⟨bd, 0, none⟩ = some (.int .i64 sd) := blk_cell hB1.1.1 0
  have c1 : w1.cell? ⟨bd, 1, none⟩ = some (.int .i64 n) := blk_cell hB1.1.1 1
  have c2 : w1.cell? ⟨bd, 2, none⟩ = some (.slice am ds.length cm) := blk_cell hB1.1.1 2
  clear hB1 HB
  go_wp2_with fail
  refine (HB1.out.callRead Blk.framed (E := fun e => e = .returned (.tuple #[.pointer none, .int .i64 2])) (new_no sd n ds _ (HR.out.only HB1.out.2) HH.out)).mono ?_
  rintro e w2 ⟨rfl, hB2⟩
  have HB2 := Lib.hid hB2
  clear hB2 HB1 c0 c1 c2
  go_wp2_with fail
  go_ret
  exact ⟨rfl, HB2.out.2⟩
set_option maxRecDepth 100000 in
set_option maxHeartbeats 40000000 in
theorem ownerOrders_yes (sd n : Int) (vm : Value) (ds : List DefD) (qs : List ReqD) (cs : List Int) (v vc : Value) (w : World) (hr : Rd eDef w vm ds) (hok : okOwn sd n ds = true) (hv : Rd eReq w v qs) (hc : Rd (eInt .i64) w vc cs) :
    Calls Try.prog 6 #[.agg #[.int .i64 sd, .int .i64 n, vm], v, vc] w fun e w' => e = .returned (.bool true) ∧ Only (fun _ => False) w w' := by
  obtain ⟨hmd, am, cm, rfl, _, _, hxd⟩ := id hr
  obtain ⟨hmx, ao, c, rfl, hcap, _, hx⟩ := id hv
  obtain ⟨hmc, ac, cc, rfl, hcc0, hcn, hxc⟩ := id hc
  have HCC0 := Lib.hid hcc0
  have HCN := Lib.hid hcn
  unfold maxLen at hmx hmd hmc
  have HXD := Lib.hid hxd
  have HX := Lib.hid hx
  have HXC := Lib.hid hxc
  have HOK := Lib.hid hok
  have HR := Lib.hid hr
  have HN4 := Lib.hid (show n ≤ 4 from (okOwn_iff.1 hok).1.1.2)
  have HDS := Lib.hid (okOwn_iff.1 hok).2
  have HB := Lib.hid (show Upd (Blk w.heap.size (shO sd n (.slice am ds.length cm))) (fun _ => False) w (w.alloc (shO sd n (.slice am ds.length cm))) from ⟨⟨heap_alloc_new _ _, .inr (Nat.le_refl _)⟩, Only.alloc _ _ _⟩)
  clear hok hr hv hx hc hxd hxc
  go_enter Try.func6, Try.ntmps6
  go_wp2_with fail
  generalize World.alloc w _ = wa at *
  generalize w.heap.size = bd at *
  refine (HB.out.callRead Blk.framed (E := fun e => e = .returned (.bool true)) (awake_any wa)).mono ?_
  rintro e w1 ⟨rfl, hB1⟩
  have HB1 := Lib.hid hB1
  have c0 : w1.cell? ⟨bd, 0, none⟩ = some (.int .i64 sd) := blk_cell hB1.1.1 0
  have c1 : w1.cell? ⟨bd, 1, none⟩ = some (.int .i64 n) := blk_cell hB1.1.1 1
  have c2 : w1.cell? ⟨bd, 2, none⟩ = some (.slice am ds.length cm) := blk_cell hB1.1.1 2
  clear hB1 HB
  go_wp2_with fail
  refine (newU sd n ds _ Blk.framed HB1.out (HR.out.only HB1.out.2) HOK.out).mono ?_
  rintro e w2 ⟨ga, rfl, ml, ⟨Ga, hma⟩, hU⟩
  have HGA := Lib.hid Ga
  have HMA := Lib.hid hma
  have HLA := Lib.hid (show ml.length = ds.length by rw [← hma, List.length_map])
  have HU2 := Lib.hid hU
  clear hU HB1 c0 c1 c2 Ga hma
  by_cases h2k : (2000 : Int) < (qs.length : Int)
  · go_wp2_with fail
    go_ret
    exact ⟨rfl, HU2.out.2⟩
  have hq2 : qs.length ≤ 2000 := by omega
  have HV0 := Lib.hid (show Upd (Sep (OwnS ga sd n ml (List.replicate ds.length z0) [] false) (Sep (MineS (.slice none 0 0) [] (List.replicate 0 z0)) (Blk bd (shO sd n (.slice am ds.length cm))))) (fun _ => False) w w2 from HU2.out.imp fun _ h => h.imp (fun _ h => h) fun S h => ⟨fun _ => False, S, fun _ h _ => h, fun _ h => h.elim, fun _ h => h, MineS.nil _ _, h⟩)
  have HSS0 := Lib.hid (show List.replicate ds.length z0 = List.replicate ds.length z0 from rfl)
  clear HU2
  generalize hss0 : List.replicate ds.length z0 = ss0 at HV0 HGA
  have HSS := Lib.hid hss0
  clear hss0 HSS0
  go_wp2_with fail
  go_loopw [10, 9, 11, 12] (fun t10 t9 _ _ wr => ∃ (k : Nat) (mm : List MSh), k ≤ ds.length ∧ t10 = .int .i64 k ∧ Hid (OGood mm (List.replicate k z0) ∧ mm.map (·.2) = ds.take k) ∧ Hid (Upd (Sep (OwnS ga sd n ml ss0 [] false) (Sep (MineS t9 mm (List.replicate k z0)) (Blk bd (shO sd n (.slice am ds.length cm))))) (fun _ => False) w wr)) (fun t10 _ _ _ _ => ds.length - (intOf t10).toNat)
  case atStart => exact ⟨0, [], Nat.zero_le _, rfl, Lib.hid ⟨⟨rfl, by decide, fun _ h => by simp at h, fun i h => by simp at h⟩, rfl⟩, HV0⟩
  case round =>
    clear HV0
    obtain ⟨k, mm, hk, rfl, HM, V⟩ := hrel
    have b2 : wr.cell? ⟨bd, 2, none⟩ = some (.slice am ds.length cm) := by
      obtain ⟨_, hz⟩ := V.out.getR
      exact blk_cell (hz.right Blk.framed).1 2
    by_cases hlt : k < ds.length
    · obtain ⟨sb, off, rfl, hcd⟩ := HXD.out (by omega)
      obtain ⟨d0, d1⟩ := def_cells2 hcd k hlt
      replace d0 := only_cell V.out.2 d0
      replace d1 := only_cell V.out.2 d1
      have hi0 : (0 : Int) ≤ (k : Int) := by omega
      have hi1 : (k : Int) < (ds.length : Int) := by omega
      have HTK := Lib.hid (show ds.take (k + 1) = ds.take k ++ [ds[k]] from (List.take_append_getElem hlt).symm)
      have hok := List.all_eq_true.1 HDS.out.2 _ (List.getElem_mem hlt)
      clear hcd
      generalize ds[k] = dd at *
      obtain ⟨kind, cap⟩ := dd
      dsimp only at d0 d1 hok
      have HSG := Lib.hid (show SGood (decide (kind = 1)) cap ([], []) by obtain ⟨_, h1, h2⟩ := okDef_iff.1 hok; exact sgood_nil h1 h2)
      have HMK := Lib.hid (fun w => make_ok kind cap w hok)
      have hsn := sh_eqn
      clear hok
      go_wp2_with fail
      refine (V.out.callNew (Sep.framed OwnS.framed (Sep.framed MineS.framed Blk.framed)) (Yx := fun a S w => a.bd = decide (kind = 1) ∧ ShardS a cap ([], []) S w) (E := fun a e => e = .returned (.tuple #[a.val, .int .i64 0])) (fun _ => Framed.and (Framed.pure _) ShardS.framed) (HMK.out _)).mono ?_
      rintro e w3 ⟨a, rfl, hU⟩
      obtain ⟨tv, xv, hav⟩ : ∃ t x, a.val = .iface t x := by cases a <;> exact ⟨_, _, rfl⟩
      rw [hav]
      have HBD := Lib.hid (show a.bd = decide (kind = 1) by obtain ⟨_, h, _⟩ := hU.getR; exact h)
      have HML := Lib.hid (show mm.length = k by have := HM.out.1.len; simpa using this)
      have hml4 : (mm.map (·.1)).length ≤ 4 := by have := HML.out; have := HDS.out.1; simp; omega
      have HU := Lib.hid (hU.imp fun _ h => rearr1 (h.imp (fun _ h => h) fun _ h => h.2))
      have HRD := Lib.hid (Rd.lit (E := eSh) w3 #[.iface tv xv] 72 (0, 0) 1 1 [a] (by simp [Enc.all, eSh, hav]) rfl (Nat.le_refl _) (by decide))
      obtain ⟨hOW, hBK⟩ := HU.out.push (ys := mm.map (·.1) ++ [a]) (Sep.framed (Sep.framed ownL_framed ShardS.framed) (Sep.framed OwnS.framed Blk.framed)) (Only.alloc (fun _ => False) w3 (.cells #[.iface tv xv] 72 (0, 0)))
      have HOW := Lib.hid hOW
      have HBK := Lib.hid hBK
      clear hU V hav hOW hBK b2 d0 d1
      go_wp2_with (at_builtin; refine wl_appendS (E := eSh) rfl _ (.tmp 79) _ rfl 72 16 eSh_slice _ _ (mm.map (·.1)) rfl HOW.out _ [a] rfl HRD.out (by simp only [List.length_cons, List.length_nil]; omega) (by unfold maxLen; simp only [List.length_cons, List.length_nil]; omega) ?_)
      intro v2 w4 hown2 hO2
      have HV2 := Lib.hid (show Upd (Sep (OwnS ga sd n ml ss0 [] false) (Sep (MineS v2 (mm ++ [(a, (kind, cap))]) (List.replicate (k + 1) z0)) (Blk bd (shO sd n (.slice (some ⟨sb, off, none⟩) ds.length cm))))) (fun _ => False) w w4 from (HBK.out v2 w4 (OwS.framed.mono _ _ _ hown2 fun k _ h => by simpa using h) hO2).imp fun _ h => rearr2 (h.imp (fun _ h => by simpa using h) fun _ h => h.imp (fun _ h => by
        have := SepL.snoc h
        rw [show ShardS a cap ([], []) = (fun (m : MSh) (s : Sh) => ShardS m.1 m.2.2 s) (a, (kind, cap)) z0 from rfl] at this
        rw [ownL, zw_snoc (by simpa using HML.out), ← List.replicate_succ'] at this
        exact this) fun _ h => h))
      have HM2 := Lib.hid (show OGood (mm ++ [(a, (kind, cap))]) (List.replicate (k + 1) z0) ∧ (mm ++ [(a, (kind, cap))]).map (·.2) = ds.take (k + 1) from by
        refine ⟨⟨by simp [HML.out], by simp [HML.out]; have := HDS.out.1; omega, fun m hm => ?_, fun i h1 h2 => ?_⟩, by rw [HTK.out, List.map_append, HM.out.2]; rfl⟩
        · rcases List.mem_append.1 hm with hm | hm
          · exact HM.out.1.bd m hm
          · rw [List.mem_singleton.1 hm]; exact HBD.out
        · simp only [List.getElem_replicate]
          by_cases hi : i < mm.length
          · rw [List.getElem_append_left hi]
            have := HM.out.1.good i hi (by simpa using by rw [← HML.out]; exact hi)
            simpa using this
          · rw [List.getElem_append_right (by omega)]
            simp only [List.getElem_singleton]
            rw [HBD.out]; exact HSG.out)
      obtain ⟨a2, n2, c2, rfl⟩ := hown2.shape'
      clear hown2 hO2 HBK HOW HRD HU
      go_wp2_with fail
      refine ⟨⟨k + 1, _, by omega, by simp, HM2, HV2⟩, ?_⟩
      first | omega | (simp only [intOf]; omega)
    · obtain rfl : k = ds.length := by omega
      rw [HSS.out] at V HM
      rw [List.take_length] at HM
      have HLM := Lib.hid (show mm.length = ds.length by rw [← HM.out.2, List.length_map])
      obtain ⟨_, hz⟩ := V.out.getR
      obtain ⟨⟨_, ma, mc, rfl, _⟩, _⟩ := (hz.left MineS.framed).left OwS.framed
      simp only [List.length_map] at V ⊢
      have HGM := Lib.hid HM.out.1
      have HMM := Lib.hid HM.out.2
      have HV1 := Lib.hid (show Upd (Sep (OwnS ga sd n ml (runP ds ss0 (([] : List ReqD).take ([] : List RepD).length)) (([] : List ReqD).drop ([] : List RepD).length) false) (Sep (GotS (.slice none 0 0) ([] : List RepD) []) (Sep (fun S w => OwS eReq 37 S w (.slice none 0 0) ([] : List ReqD)) (Sep (MineS (.slice ma mm.length mc) mm ss0) (Blk bd (shO sd n (.slice am ds.length cm))))))) (fun _ => False) w wr from V.out.imp fun _ h => h.imp (fun _ h => h) fun S h => ⟨fun _ => False, S, fun _ h _ => h, fun _ h => h.elim, fun _ h => h, GotS.nil _ _, ⟨fun _ => False, S, fun _ h _ => h, fun _ h => h.elim, fun _ h => h, OwS.nil _ _, h⟩⟩)
      clear hz V HM
      go_wp2_with fail
      clear b2
      go_loopw [15, 13, 14, 16, 17, 18] (fun t15 t13 t14 _ _ _ wr => ∃ (k : Nat) (took : List ReqD) (rl : List RepD) (pl : List (List PairD)), k ≤ qs.length ∧ t15 = .int .i64 k ∧ took.length ≤ k ∧ Hid (GotOk ds ss0 took rl pl) ∧ Hid (∀ q ∈ took, fitsP sd n ds.length q = true) ∧ Hid (Upd (Sep (OwnS ga sd n ml (runP ds ss0 (took.take rl.length)) (took.drop rl.length) false) (Sep (GotS t14 rl pl) (Sep (fun S w => OwS eReq 37 S w t13 took) (Sep (MineS (.slice ma mm.length mc) mm ss0) (Blk bd (shO sd n (.slice am ds.length cm))))))) (fun _ => False) w wr)) (fun t15 _ _ _ _ _ _ => qs.length - (intOf t15).toNat)
      case atStart => exact ⟨0, [], [], [], Nat.zero_le _, rfl, Nat.le_refl _, Lib.hid ⟨Nat.le_refl _, fun i h => by simp at h⟩, Lib.hid (fun q h => by simp at h), HV1⟩
      case round =>
        clear HV1
        obtain ⟨k, took, rl, pl, hk, rfl, hl, HG, HFT0, V⟩ := hrel
        by_cases hlt : k < qs.length
        · obtain ⟨sb, off, rfl, hcq⟩ := HX.out (by omega)
          have HCC := Lib.hid (req_cells hcq k hlt)
          have hi0 : (0 : Int) ≤ (k : Int) := by omega
          have hi1 : (k : Int) < (qs.length : Int) := by omega
          clear hcq
          generalize qs[k] = q at *
          obtain ⟨fr, tg, wk, mp, op, dk, dv⟩ := q
          obtain ⟨c0, c1, c2, c3, c4, c5, c6⟩ := HCC.out
          replace c0 := only_cell V.out.2 c0
          replace c1 := only_cell V.out.2 c1
          replace c2 := only_cell V.out.2 c2
          replace c3 := only_cell V.out.2 c3
          replace c4 := only_cell V.out.2 c4
          replace c5 := only_cell V.out.2 c5
          replace c6 := only_cell V.out.2 c6
          dsimp only at c0 c1 c2 c3 c4 c5 c6
          have hgl := HG.out.len
          have HRQ := Lib.hid (Rd.lit (E := eReq) wr #[.int .i64 fr, .int .i64 tg, .bool wk, .int .i64 mp, .int .i64 op, .int .u64 dk, .int .u64 dv] 37 (0, 0) 1 1 [(fr, tg, wk, mp, op, dk, dv)] rfl rfl (Nat.le_refl _) (by decide))
          have HVa := Lib.hid (V.out.fresh (Sep.framed OwnS.framed (Sep.framed GotS.framed (Sep.framed OwS.framed (Sep.framed MineS.framed Blk.framed)))) (Only.alloc (fun _ => False) wr (reqO fr tg wk mp op dk dv)))
          cases hf : fitsP sd n ds.length (fr, tg, wk, mp, op, dk, dv) with
          | true =>
            have HSE := Lib.hid (show sendP sd n ml.length false (took.drop rl.length) [(fr, tg, wk, mp, op, dk, dv)] = (0, (took ++ [(fr, tg, wk, mp, op, dk, dv)]).drop rl.length) by rw [sendP_one, HLA.out, hf, List.drop_append_of_le_length hgl]; rfl)
            have HFT := Lib.hid (show ∀ q ∈ took ++ [(fr, tg, wk, mp, op, dk, dv)], fitsP sd n ds.length q = true from fun q hq => by
              rcases List.mem_append.1 hq with hq | hq
              · exact HFT0.out q hq
              · rw [List.mem_singleton.1 hq]; exact hf)
            have HG2 := Lib.hid (HG.out.more (fr, tg, wk, mp, op, dk, dv))
            have HTT := Lib.hid (show (took ++ [(fr, tg, wk, mp, op, dk, dv)]).take rl.length = took.take rl.length from List.take_append_of_le_length hgl)
            have hl2 : (took ++ [(fr, tg, wk, mp, op, dk, dv)]).length ≤ k + 1 := by simp; omega
            clear hf
            go_wp2_with fail
            refine (HVa.out.on1 (Sep.framed GotS.framed (Sep.framed OwS.framed (Sep.framed MineS.framed Blk.framed))) (P' := (OwnS ga sd n ml (runP ds ss0 (took.take rl.length)) ((took ++ [(fr, tg, wk, mp, op, dk, dv)]).drop rl.length) false)) (E := fun e => e = .returned (.int .i64 0)) OwnS.framed fun A hA => by
              have := send_ hA HN4.out HRQ.out (by simp only [List.length_drop, List.length_cons, List.length_nil]; omega)
              rwa [HSE.out] at this).mono ?_
            rintro e w5 ⟨rfl, h5⟩
            obtain ⟨c0, c1, c2, c3, c4, c5, c6⟩ := HCC.out
            replace c0 := only_cell h5.2 c0
            replace c1 := only_cell h5.2 c1
            replace c2 := only_cell h5.2 c2
            replace c3 := only_cell h5.2 c3
            replace c4 := only_cell h5.2 c4
            replace c5 := only_cell h5.2 c5
            replace c6 := only_cell h5.2 c6
            try dsimp only at c0 c1 c2 c3 c4 c5 c6
            have H5a := Lib.hid (h5.imp fun _ h => (h.imp (fun _ h => h) fun _ h => h.turn).turn)
            have HRQ2 := Lib.hid (Rd.lit (E := eReq) w5 #[.int .i64 fr, .int .i64 tg, .bool wk, .int .i64 mp, .int .i64 op, .int .u64 dk, .int .u64 dv] 37 (0, 0) 1 1 [(fr, tg, wk, mp, op, dk, dv)] rfl rfl (Nat.le_refl _) (by decide))
            obtain ⟨hOW, hBK⟩ := H5a.out.push (ys := took ++ [(fr, tg, wk, mp, op, dk, dv)]) (Sep.framed OwnS.framed (Sep.framed GotS.framed (Sep.framed MineS.framed Blk.framed))) (Only.alloc (fun _ => False) w5 (reqO fr tg wk mp op dk dv))
            obtain ⟨tA, tN, tC, rfl⟩ := hOW.shape'
            have HOW := Lib.hid hOW
            have HBK := Lib.hid hBK
            clear h5 HVa HRQ V hOW hBK
            go_wp2_with (at_builtin; refine wl_appendS (E := eReq) rfl _ (.tmp 100) _ rfl 37 56 eReq_slice _ _ took rfl HOW.out _ [(fr, tg, wk, mp, op, dk, dv)] rfl HRQ2.out (by simp only [List.length_cons, List.length_nil]; omega) (by unfold maxLen; simp only [List.length_cons, List.length_nil]; omega) ?_)
            intro tv2 w8 hown8 hO8
            have H5 := Lib.hid (show Upd (Sep (OwnS ga sd n ml (runP ds ss0 ((took ++ [(fr, tg, wk, mp, op, dk, dv)]).take rl.length)) ((took ++ [(fr, tg, wk, mp, op, dk, dv)]).drop rl.length) false) (Sep (GotS u14 rl pl) (Sep (fun S w => OwS eReq 37 S w tv2 (took ++ [(fr, tg, wk, mp, op, dk, dv)])) (Sep (MineS (.slice ma mm.length mc) mm ss0) (Blk bd (shO sd n (.slice am ds.length cm))))))) (fun _ => False) w w8 from by
              rw [HTT.out]
              exact (HBK.out tv2 w8 (OwS.framed.mono _ _ _ hown8 fun k _ h => by simpa using h) hO8).imp fun _ h => h.turn.imp (fun _ h => h) fun _ h => h.turn)
            obtain ⟨a8, n8, c8, rfl⟩ := hown8.shape'
            generalize hv8 : Value.slice a8 n8 c8 = tv2 at *
            clear hown8 hO8 HBK HOW HRQ2 H5a c0 c1 c2 c3 c4 c5 c6 HG HTT HSE
            generalize took ++ [(fr, tg, wk, mp, op, dk, dv)] = took2 at *
            go_wp2_with fail
            refine innerL (am := am) (cm := cm) hmc HCC0.out HCN.out HXC HOK HN4 HDS HMA HLA HGA HLM HGM HMM (by omega) HFT hl2 HG2 _ _ _ _ _ _ _ _ _ _ _ _ _ _ _ _ _ _ _ _ _ _ _ _ _ _ _ _ _ _ _ _ _ _ _ _ _ _ _ _ _ _ _ _ _ _ _ _ _ _ _ _ _ _ _ _ _ _ _ _ _ _ _ _ _ _ _ _ _ _ _ _ _ _ _ _ _ _ _ _ _ _ _ _ _ _ _ _ _ _ _ _ _ _ _ _ _ _ _ _ _ _ _ _ _ _ _ _ _ _ _ _ _ _ _ _ _ _ _ _ _ _ _ _ _ _ _ _ _ _ _ _ _ _ _ _ _ _ _ _ _ _ _ _ _ _ _ _ _ _ _ _ _ _ _ _ _ _ _ _ _ _ _ _ _ _ _ _ _ _ _ _ _ _ _ _ _ _ _ _ _ _ _ _ _ _ _ _ _ _ _ _ _ _ _ _ _ _ _ _ _ _ _ _ _ _ _ _ _ _ _ _ _ _ _ _ _ _ _ _ _ _ _ _ _ _ _ _ _ _ _ _ _ _ _ _ _ _ _ H5 ?_
            intro a9 w9 hI9
            obtain ⟨u14, u16, u17, u18, u102, u103, u104, u105, u106, u107, u108, u109, u110, u111, u112, u113, u114, u115, u116, u117, u118, u119, u120, u121, u122, u123, u124, u125, u126, u127, u128, u129, rl, pl, HG, V, rfl⟩ := hI9
            clear HG2 H5
            go_wp2_with fail
            refine ⟨⟨k + 1, took2, rl, pl, by omega, by simp, hl2, HG, HFT, V⟩, ?_⟩
            first | omega | (simp only [intOf]; omega)
          | false =>
            have HSE := Lib.hid (show sendP sd n ml.length false (took.drop rl.length) [(fr, tg, wk, mp, op, dk, dv)] = (2, took.drop rl.length) by rw [sendP_one, HLA.out, hf]; rfl)
            have HFT := Lib.hid HFT0.out
            have HG2 := Lib.hid HG.out
            have hl2 : took.length ≤ k + 1 := by omega
            clear hf
            go_wp2_with fail
            refine (HVa.out.on1 (Sep.framed GotS.framed (Sep.framed OwS.framed (Sep.framed MineS.framed Blk.framed))) (P' := (OwnS ga sd n ml (runP ds ss0 (took.take rl.length)) (took.drop rl.length) false)) (E := fun e => e = .returned (.int .i64 2)) OwnS.framed fun A hA => by
              have := send_ hA HN4.out HRQ.out (by simp only [List.length_drop, List.length_cons, List.length_nil]; omega)
              rwa [HSE.out] at this).mono ?_
            rintro e w5 ⟨rfl, h5⟩
            have H5 := Lib.hid h5
            clear h5 HVa HRQ V c0 c1 c2 c3 c4 c5 c6 HG HSE
            obtain ⟨tv2, htv2⟩ : ∃ tv2, tv2 = u13 := ⟨_, rfl⟩
            rw [← htv2] at H5 ⊢
            obtain ⟨took2, htk2⟩ : ∃ took2, took2 = took := ⟨_, rfl⟩
            rw [← htk2] at H5 HG2 HFT hl2
            clear htv2 htk2
            go_wp2_with fail
            refine innerL (am := am) (cm := cm) hmc HCC0.out HCN.out HXC HOK HN4 HDS HMA HLA HGA HLM HGM HMM (by omega) HFT hl2 HG2 _ _ _ _ _ _ _ _ _ _ _ _ _ _ _ _ _ _ _ _ _ _ _ _ _ _ _ _ _ _ _ _ _ _ _ _ _ _ _ _ _ _ _ _ _ _ _ _ _ _ _ _ _ _ _ _ _ _ _ _ _ _ _ _ _ _ _ _ _ _ _ _ _ _ _ _ _ _ _ _ _ _ _ _ _ _ _ _ _ _ _ _ _ _ _ _ _ _ _ _ _ _ _ _ _ _ _ _ _ _ _ _ _ _ _ _ _ _ _ _ _ _ _ _ _ _ _ _ _ _ _ _ _ _ _ _ _ _ _ _ _ _ _ _ _ _ _ _ _ _ _ _ _ _ _ _ _ _ _ _ _ _ _ _ _ _ _ _ _ _ _ _ _ _ _ _ _ _ _ _ _ _ _ _ _ _ _ _ _ _ _ _ _ _ _ _ _ _ _ _ _ _ _ _ _ _ _ _ _ _ _ _ _ _ _ _ _ _ _ _ _ _ _ _ _ _ _ _ _ _ _ _ _ _ _ _ _ _ _ H5 ?_
            intro a9 w9 hI9
            obtain ⟨u14, u16, u17, u18, u102, u103, u104, u105, u106, u107, u108, u109, u110, u111, u112, u113, u114, u115, u116, u117, u118, u119, u120, u121, u122, u123, u124, u125, u126, u127, u128, u129, rl, pl, HG, V, rfl⟩ := hI9
            clear HG2 H5
            go_wp2_with fail
            refine ⟨⟨k + 1, took2, rl, pl, by omega, by simp, hl2, HG, HFT, V⟩, ?_⟩
            first | omega | (simp only [intOf]; omega)
        · skip
          have hll : took.length ≤ 2000 := by omega
          have HFT := Lib.hid HFT0.out
          obtain ⟨_, hz⟩ := V.out.getR
          obtain ⟨gA, gC, rfl⟩ : ∃ a c, u14 = .slice a rl.length c := by
            obtain ⟨⟨⟨_, a, c, h, _⟩, _⟩, _⟩ := hz.left GotS.framed
            exact ⟨a, c, h⟩
          obtain ⟨tA, tC, rfl⟩ : ∃ a c, u13 = .slice a took.length c := by
            obtain ⟨⟨_, a, c, h, _⟩, _⟩ := (hz.right (Sep.framed OwS.framed (Sep.framed MineS.framed Blk.framed))).left OwS.framed
            exact ⟨a, c, h⟩
          clear hz
          go_wp2_with fail
          go_loopw [14, 19, 20] (fun t14 _ _ wr => ∃ (rl : List RepD) (pl : List (List PairD)) (gA : Option Addr) (gC : Nat), t14 = (.slice gA rl.length gC) ∧ Hid (GotOk ds ss0 took rl pl) ∧ Hid (Upd (Sep (OwnS ga sd n ml (runP ds ss0 (took.take rl.length)) (took.drop rl.length) false) (Sep (GotS (.slice gA rl.length gC) rl pl) (Sep (fun S w => OwS eReq 37 S w (.slice tA took.length tC) took) (Sep (MineS (.slice ma mm.length mc) mm ss0) (Blk bd (shO sd n (.slice am ds.length cm))))))) (fun _ => False) w wr)) (fun t14 _ _ _ => took.length - lenOfV t14)
          case atStart => exact ⟨rl, pl, gA, gC, rfl, HG, V⟩
          case round => 
            clear HG V
            obtain ⟨rl, pl, gA, gC, rfl, HG, V⟩ := hrel
            have hgl := HG.out.len
            have hrl : rl.length ≤ 2001 := by omega
            by_cases hdl : rl.length < took.length
            · have hdi : (rl.length : Int) < (took.length : Int) := by omega
              obtain ⟨_, hzg⟩ := V.out.getR
              have HPL := Lib.hid (show rl.length = pl.length from (hzg.left GotS.framed).2.1)

              clear hzg
              have HDR := Lib.hid (show took.drop rl.length = took[rl.length] :: took.drop (rl.length + 1) from List.drop_eq_getElem_cons hdl)
              have HFQ := Lib.hid (HFT.out _ (List.getElem_mem hdl))
              have HRT := Lib.hid (runP_take ds ss0 took rl.length hdl)
              rw [HDR.out] at V
              obtain ⟨q, hq⟩ : ∃ q, q = took[rl.length] := ⟨_, rfl⟩
              have HQD := Lib.hid hq
              rw [← hq] at V HFQ HRT
              clear hq
              obtain ⟨r, ps, ss', hst⟩ : ∃ r ps ss', stepP ds (runP ds ss0 (took.take rl.length)) q = (r, ps, ss') := ⟨_, _, _, rfl⟩
              have HMQ := Lib.hid (show 0 ≤ q.2.2.2.1 ∧ q.2.2.2.1 < ds.length by have := HFQ.out; unfold fitsP at this; simp only [Bool.and_eq_true, decide_eq_true_eq] at this; exact this.1)
              have HST := Lib.hid hst
              have HGD := Lib.hid (show OGood ml (runP ds ss0 (took.take rl.length)) by have := runP_good HGA.out (took.take rl.length); rwa [HMA.out] at this)
              rw [hst] at HRT
              clear hst
              go_wp2_with fail
              refine (V.out.on1x (Sep.framed GotS.framed (Sep.framed OwS.framed (Sep.framed MineS.framed Blk.framed))) (Px := fun vp => Sep (OwnS ga sd n ml ss' (took.drop (rl.length + 1)) false) (fun S w => OwS ePair 50 S w vp ps)) (E := fun vp e => e = .returned (.tuple #[repV q r vp, .bool true])) (fun _ => Sep.framed OwnS.framed OwS.framed) fun A hA => step_any hA HGD.out (by rw [HLA.out]; exact HMQ.out) (by rw [HMA.out]; exact HST.out)).mono ?_
              rintro e w6 ⟨va, rfl, h6⟩
              obtain ⟨pa, pc, rfl⟩ : ∃ pa pc, va = .slice pa ps.length pc := by
                obtain ⟨_, hz⟩ := h6.getL
                obtain ⟨_, _, _, _, _, _, ⟨⟨_, pa, pc, rfl, _⟩, _⟩⟩ := hz
                exact ⟨pa, pc, rfl⟩
              obtain ⟨fr, tg, wk, mp, op, dk, dv⟩ := q
              obtain ⟨x0, x1, x2, x3, x4, x5⟩ := r
              have H6 := Lib.hid (show Upd (Sep (Sep (GotS (.slice gA rl.length gC) rl pl) (fun S w => OwS ePair 50 S w (.slice (((fr, tg, wk, mp, op, dk, dv), (x0, x1, x2, x3, x4, x5), (pa, ps.length, pc)) : RepD).2.2.1 (((fr, tg, wk, mp, op, dk, dv), (x0, x1, x2, x3, x4, x5), (pa, ps.length, pc)) : RepD).2.2.2.1 (((fr, tg, wk, mp, op, dk, dv), (x0, x1, x2, x3, x4, x5), (pa, ps.length, pc)) : RepD).2.2.2.2) ps)) (Sep (OwnS ga sd n ml ss' (took.drop (rl.length + 1)) false) (Sep (fun S w => OwS eReq 37 S w (.slice tA took.length tC) took) (Sep (MineS (.slice ma mm.length mc) mm ss0) (Blk bd (shO sd n (.slice am ds.length cm))))))) (fun _ => False) w w6 from h6.imp fun _ h => (h.assoc.imp (fun _ h => h) fun _ h => h.assoc'.imp (fun _ h => h.swap) fun _ h => h).turn)
              have HO6 := Lib.hid ((Only.alloc (fun _ => False) w6 (.cells #[.int .i64 fr, .int .i64 tg, .bool wk, .int .i64 mp, .int .i64 op, .int .u64 dk, .int .u64 dv, .int .i64 x0, .bool x1, .int .u64 x2, .bool x3, .int .u64 x4, .int .u64 x5, .slice pa ps.length pc] 44 (0, 0))).tr (Only.alloc (fun _ => False) _ (.cells #[.int .i64 fr, .int .i64 tg, .bool wk, .int .i64 mp, .int .i64 op, .int .u64 dk, .int .u64 dv, .int .i64 x0, .bool x1, .int .u64 x2, .bool x3, .int .u64 x4, .int .u64 x5, .slice pa ps.length pc] 44 (0, 0))))
              obtain ⟨hOW, hBK⟩ := H6.out.pushG (Sep.framed OwnS.framed (Sep.framed OwS.framed (Sep.framed MineS.framed Blk.framed))) HO6.out
              have HOW := Lib.hid hOW
              have HBK := Lib.hid hBK
              have HRD := Lib.hid (by
                have h := Rd.lit (E := eRep) (w6.alloc (.cells #[.int .i64 fr, .int .i64 tg, .bool wk, .int .i64 mp, .int .i64 op, .int .u64 dk, .int .u64 dv, .int .i64 x0, .bool x1, .int .u64 x2, .bool x3, .int .u64 x4, .int .u64 x5, .slice pa ps.length pc] 44 (0, 0))) #[.int .i64 fr, .int .i64 tg, .bool wk, .int .i64 mp, .int .i64 op, .int .u64 dk, .int .u64 dv, .int .i64 x0, .bool x1, .int .u64 x2, .bool x3, .int .u64 x4, .int .u64 x5, .slice pa ps.length pc] 44 (0, 0) 1 1 [(((fr, tg, wk, mp, op, dk, dv), (x0, x1, x2, x3, x4, x5), (pa, ps.length, pc)) : RepD)] rfl rfl (Nat.le_refl _) (by decide)
                rw [show (w6.alloc (.cells #[.int .i64 fr, .int .i64 tg, .bool wk, .int .i64 mp, .int .i64 op, .int .u64 dk, .int .u64 dv, .int .i64 x0, .bool x1, .int .u64 x2, .bool x3, .int .u64 x4, .int .u64 x5, .slice pa ps.length pc] 44 (0, 0))).heap.size = w6.heap.size + 1 by simp] at h
                exact h)
              have HG7 := Lib.hid (HG.out.push HPL.out hdl (x := (((fr, tg, wk, mp, op, dk, dv), (x0, x1, x2, x3, x4, x5), (pa, ps.length, pc)) : RepD)) (ps := ps) HQD.out (by rw [← HQD.out, HST.out]) (by rw [← HQD.out, HST.out]))
              have HLN := Lib.hid (show (rl ++ [(((fr, tg, wk, mp, op, dk, dv), (x0, x1, x2, x3, x4, x5), (pa, ps.length, pc)) : RepD)]).length = rl.length + 1 by simp)
              clear h6 hOW hBK H6 V
              go_wp2_with (at_builtin; refine wl_appendS (E := eRep) rfl _ (.tmp 144) _ rfl 44 128 eRep_slice _ _ rl rfl HOW.out _ [(((fr, tg, wk, mp, op, dk, dv), (x0, x1, x2, x3, x4, x5), (pa, ps.length, pc)) : RepD)] rfl HRD.out (by simp only [List.length_cons, List.length_nil]; omega) (by unfold maxLen; simp only [List.length_cons, List.length_nil]; omega) ?_)
              intro v2 w7 hown7 hO7
              have HV7 := Lib.hid (show Upd (Sep (OwnS ga sd n ml (runP ds ss0 (took.take (rl ++ [(((fr, tg, wk, mp, op, dk, dv), (x0, x1, x2, x3, x4, x5), (pa, ps.length, pc)) : RepD)]).length)) (took.drop (rl ++ [(((fr, tg, wk, mp, op, dk, dv), (x0, x1, x2, x3, x4, x5), (pa, ps.length, pc)) : RepD)]).length) false) (Sep (GotS v2 (rl ++ [(((fr, tg, wk, mp, op, dk, dv), (x0, x1, x2, x3, x4, x5), (pa, ps.length, pc)) : RepD)]) (pl ++ [ps])) (Sep (fun S w => OwS eReq 37 S w (.slice tA took.length tC) took) (Sep (MineS (.slice ma mm.length mc) mm ss0) (Blk bd (shO sd n (.slice am ds.length cm))))))) (fun _ => False) w w7 from by
                rw [HLN.out, HRT.out]
                exact (HBK.out v2 w7 (OwS.framed.mono _ _ _ hown7 fun k _ h => by simpa using h) hO7).imp fun _ h => h.turn)
              obtain ⟨⟨_, a7, c7, rfl, _⟩, _⟩ := hown7
              clear hO7 HBK HOW HRD HO6
              go_wp2_with fail
              refine ⟨⟨_, _, _, _, rfl, HG7, HV7⟩, ?_⟩
              simp only [lenOfV, HLN.out]
              omega
            · have hdi : ¬ (rl.length : Int) < (took.length : Int) := by omega
              have hre : rl.length = took.length := by omega
              have hnil : took.drop rl.length = [] := List.drop_eq_nil_of_le (by omega)
              rw [hnil] at V
              have HRE := Lib.hid hre
              clear hre hnil
              go_wp2_with fail
              obtain ⟨_, hA⟩ := V.out.getL
              refine (V.out.callRead (Sep.framed OwnS.framed (Sep.framed GotS.framed (Sep.framed OwS.framed (Sep.framed MineS.framed Blk.framed)))) (E := fun e => e = .returned (.tuple #[repV0, .bool false])) (step_none hA)).mono ?_
              rintro e w6 ⟨rfl, h6⟩
              have H6 := Lib.hid (h6.fresh (Sep.framed OwnS.framed (Sep.framed GotS.framed (Sep.framed OwS.framed (Sep.framed MineS.framed Blk.framed)))) (Only.alloc (fun _ => False) w6 (repO 0 0 false 0 0 0 0 0 false 0 false 0 0 (.slice none 0 0))))
              clear h6 V hA
              go_wp2_with fail
              obtain ⟨_, hA⟩ := H6.out.getL
              refine (H6.out.callNew (Sep.framed OwnS.framed (Sep.framed GotS.framed (Sep.framed OwS.framed (Sep.framed MineS.framed Blk.framed)))) (Yx := fun v S w => OwS eReq 37 S w v []) (E := fun v e => e = .returned v) (fun _ => OwS.framed) (waiting_ hA (by decide))).mono ?_
              rintro e w7 ⟨vw, rfl, h7⟩
              obtain ⟨_, ⟨⟨_, aw, cw, rfl, _⟩, _⟩⟩ := h7.getR
              have H7 := Lib.hid (h7.drop (Sep.framed OwnS.framed (Sep.framed GotS.framed (Sep.framed OwS.framed (Sep.framed MineS.framed Blk.framed)))))
              clear h7 hA H6
              go_wp2_with fail
              generalize runP ds ss0 (took.take rl.length) = ssE at H7
              have HV8 := Lib.hid (show Upd (Sep (MineS (.slice ma mm.length mc) mm (runP ds ss0 (took.take 0))) (Sep (OwnS ga sd n ml ssE [] false) (Sep (GotS (.slice gA rl.length gC) rl pl) (Sep (fun S w => OwS eReq 37 S w (.slice tA took.length tC) took) (Blk bd (shO sd n (.slice am ds.length cm))))))) (fun _ => False) w w7 from H7.out.imp fun _ h => (h.imp (fun _ h => h) fun _ h => (h.imp (fun _ h => h) fun _ h => h.turn).turn).turn)
              clear H7
              refine lastL HOK HN4 HDS HMA HLA HGA HLM HGM HMM hll HFT HG hgl hrl HRE _ _ _ _ _ _ _ _ _ _ _ _ _ _ _ _ _ _ _ _ _ _ _ _ _ _ _ _ _ _ _ _ _ _ _ _ _ _ _ _ _ _ _ _ _ _ _ _ _ _ _ _ _ _ _ _ _ _ _ _ _ _ _ _ _ _ _ _ _ _ _ _ _ _ _ _ _ _ _ _ _ _ _ _ _ _ _ _ _ _ _ _ _ _ _ _ _ _ _ _ _ _ _ _ _ _ _ _ _ _ _ _ _ _ _ _ _ _ _ _ _ _ _ _ _ _ _ _ _ _ _ _ _ _ _ _ _ _ _ _ _ _ _ _ _ _ _ _ _ _ _ _ _ _ _ _ _ _ _ _ _ _ _ _ _ _ _ _ _ _ _ _ _ _ _ _ _ _ _ _ _ _ _ _ _ _ _ _ _ _ _ _ _ _ _ _ _ _ _ _ _ _ _ _ _ _ _ _ _ _ _ _ _ _ _ _ _ _ _ _ _ _ _ _ _ _ _ _ _ _ _ _ _ _ _ _ _ _ HV8 ?_
              intro a9 wr hI9
              obtain ⟨u6, u23, u24, u25, u158, u159, u160, u161, u162, u163, u164, u165, u166, u167, u168, u169, u170, u171, u172, u173, u174, u175, u176, u177, u178, u179, u180, u181, u182, u183, u184, u185, u186, u187, u188, u189, u190, u191, u192, u193, u194, u195, u196, u197, u198, u199, u200, u201, u202, u203, u204, u205, u206, u207, u208, u209, u210, u211, u212, u213, u214, u215, u216, u217, u218, u219, u220, u221, u222, u223, u224, u225, u226, u227, u228, u229, u230, u231, V, rfl⟩ := hI9
              clear HV8
              go_wp2_with fail
              obtain ⟨_, hz⟩ := V.out.getR
              have HV9 := Lib.hid (show Upd (Sep (OwnS ga sd n ml ssE [] false) (Blk bd (shO sd n (.slice am ds.length cm)))) (fun _ => False) w wr from V.out.imp fun _ h => (h.right (Sep.framed OwnS.framed (Sep.framed GotS.framed (Sep.framed OwS.framed Blk.framed)))).imp (fun _ h => h) fun _ h => (h.right (Sep.framed OwS.framed Blk.framed)).right Blk.framed)
              clear hz V
              refine (HV9.out.on1 Blk.framed (P' := OwnS ga sd n ml ssE [] true) (E := fun e => e = .returned (.int .i64 0)) OwnS.framed fun A hA => end_ hA).mono ?_
              rintro e wx1 ⟨rfl, h1⟩
              have H1 := Lib.hid h1
              clear h1 HV9
              go_wp2_with fail
              obtain ⟨_, hA⟩ := H1.out.getL
              refine (H1.out.callRead (Sep.framed OwnS.framed Blk.framed) (E := fun e => e = .returned (.bool true)) (ended_ hA)).mono ?_
              rintro e wx2 ⟨rfl, h2⟩
              have H2 := Lib.hid h2
              clear h2 hA H1
              go_wp2_with fail
              refine (H2.out.on1 Blk.framed (P' := OwnS ga sd n ml ssE [] true) (E := fun e => e = .returned (.int .i64 43)) OwnS.framed fun A hA => send_ hA HN4.out (qs := []) (OwS.nil (E := eReq) (ty := 37) (fun _ => False) _).rd (by decide)).mono ?_
              rintro e wx3 ⟨rfl, h3⟩
              have H3 := Lib.hid h3
              clear h3 H2
              go_wp2_with fail
              go_ret
              exact ⟨rfl, H3.out.2⟩
end Go.Proofs.Ytdlkblklfoagbaa
