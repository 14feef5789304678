/- The law OwnerMany: its walk. -/
import Derived.Test.YtdlkblklfoagbaaOwnAwake
namespace Go.Proofs.Ytdlkblklfoagbaa
open Go.RowKit
set_option linter.unusedVariables false
set_option linter.unusedSimpArgs false

abbrev shO (sd n : Int) (vm : Value) : Obj := .cells #[.int .i64 sd, .int .i64 n, vm] 24 (0, 0)
theorem rep_cells {w : World} {rb : Nat} {tt tg mp op dk dv x0 x2 x4 x5 : Int} {wk x1 x3 : Bool} {vp : Value} (h : w.heap[rb]? = some (repO tt tg wk mp op dk dv x0 x1 x2 x3 x4 x5 vp)) :
    w.cell? ⟨rb, 0, none⟩ = some (.int .i64 tt) ∧ w.cell? ⟨rb, 1, none⟩ = some (.int .i64 tg) ∧ w.cell? ⟨rb, 2, none⟩ = some (.bool wk) ∧ w.cell? ⟨rb, 3, none⟩ = some (.int .i64 mp) ∧ w.cell? ⟨rb, 4, none⟩ = some (.int .i64 op) ∧ w.cell? ⟨rb, 5, none⟩ = some (.int .u64 dk) ∧ w.cell? ⟨rb, 6, none⟩ = some (.int .u64 dv) ∧ w.cell? ⟨rb, 7, none⟩ = some (.int .i64 x0) ∧ w.cell? ⟨rb, 8, none⟩ = some (.bool x1) ∧ w.cell? ⟨rb, 9, none⟩ = some (.int .u64 x2) ∧ w.cell? ⟨rb, 10, none⟩ = some (.bool x3) ∧ w.cell? ⟨rb, 11, none⟩ = some (.int .u64 x4) ∧ w.cell? ⟨rb, 12, none⟩ = some (.int .u64 x5) ∧ w.cell? ⟨rb, 13, none⟩ = some vp :=
  ⟨blk_cell h 0, blk_cell h 1, blk_cell h 2, blk_cell h 3, blk_cell h 4, blk_cell h 5, blk_cell h 6, blk_cell h 7, blk_cell h 8, blk_cell h 9, blk_cell h 10, blk_cell h 11, blk_cell h 12, blk_cell h 13⟩
theorem sendP_one (sd n : Int) (nm : Nat) (line : List ReqD) (q : ReqD) : sendP sd n nm false line [q] = if fitsP sd n nm q then (0, line ++ [q]) else (2, line) := by
  unfold sendP
  simp
set_option maxRecDepth 100000 in
set_option maxHeartbeats 4000000 in
theorem ownerMany_bad (sd n : Int) (vm : Value) (ds : List DefD) (v : Value) (w : World) (hr : Rd eDef w vm ds) (h : okOwn sd n ds = false) :
    Calls Try.prog 4 #[.agg #[.int .i64 sd, .int .i64 n, vm], v] w fun e w' => e = .returned (.bool true) ∧ Only (fun _ => False) w w' := by
  obtain ⟨_, am, cm, rfl, _⟩ := id hr
  have HH := Lib.hid h
  have HR := Lib.hid hr
  have HB := Lib.hid (show Upd (Blk w.heap.size (shO sd n (.slice am ds.length cm))) (fun _ => False) w (w.alloc (shO sd n (.slice am ds.length cm))) from ⟨⟨heap_alloc_new _ _, .inr (Nat.le_refl _)⟩, Only.alloc _ _ _⟩)
  clear h hr
  go_enter Try.func4, Try.ntmps4
  go_wp2_with fail
  generalize World.alloc w _ = wa at *
  generalize w.heap.size = bd at *
  refine (HB.out.callRead Blk.framed (E := fun e => e = .returned (.bool true)) (awake_any wa)).mono ?_
  rintro e w1 ⟨rfl, hB1⟩
  have HB1 := Lib.hid hB1
  have c0 : w1.cell? ⟨bd, 0, none⟩ = some (.int .i64 sd) := blk_cell hB1.1.1 0
  have c1 : w1.cell? ⟨bd, 1, none⟩ = some (.int .i64 n) := blk_cell hB1.1.1 1
  have c2 : w1.cell? ⟨bd, 2, none⟩ = some (.slice am ds.length cm) := blk_cell hB1.1.1 2
  clear hB1 HB
  go_wp2_with fail
  refine (HB1.out.callRead Blk.framed (E := fun e => e = .returned (.tuple #[.pointer none, .int .i64 2])) (new_no sd n ds _ (HR.out.only HB1.out.2) HH.out)).mono ?_
  rintro e w2 ⟨rfl, hB2⟩
  have HB2 := Lib.hid hB2
  replace c0 : w2.cell? ⟨bd, 0, none⟩ = some (.int .i64 sd) := blk_cell hB2.1.1 0
  replace c1 : w2.cell? ⟨bd, 1, none⟩ = some (.int .i64 n) := blk_cell hB2.1.1 1
  replace c2 : w2.cell? ⟨bd, 2, none⟩ = some (.slice am ds.length cm) := blk_cell hB2.1.1 2
  clear hB2 HB1
  go_wp2_with fail
  refine (HB2.out.callRead Blk.framed (E := fun e => e = .returned (.tuple #[.pointer none, .int .i64 2])) (new_no sd n ds _ (HR.out.only HB2.out.2) HH.out)).mono ?_
  rintro e w3 ⟨rfl, hB3⟩
  have HB3 := Lib.hid hB3
  clear hB3 HB2 c0 c1 c2
  go_wp2_with fail
  go_ret
  exact ⟨rfl, HB3.out.2⟩
set_option maxRecDepth 100000 in
set_option maxHeartbeats 40000000 in
theorem ownerMany_yes (sd n : Int) (vm : Value) (ds : List DefD) (qs : List ReqD) (v : Value) (w : World) (hr : Rd eDef w vm ds) (hok : okOwn sd n ds = true) (hv : Rd eReq w v qs) (hl : qs.length * 56 ≤ 140737488351232) :
    Calls Try.prog 4 #[.agg #[.int .i64 sd, .int .i64 n, vm], v] w fun e w' => e = .returned (.bool true) ∧ Only (fun _ => False) w w' := by
  obtain ⟨_, am, cm, rfl, _⟩ := id hr
  obtain ⟨hmx, ao, c, rfl, hcap, _, hx⟩ := id hv
  unfold maxLen at hmx
  have hlq : qs.length ≤ 2513169434843 := by omega
  have HX := Lib.hid hx
  have HOK := Lib.hid hok
  have HR := Lib.hid hr
  have HV := Lib.hid hv
  have HN4 := Lib.hid (show n ≤ 4 from (okOwn_iff.1 hok).1.1.2)
  have HB := Lib.hid (show Upd (Blk w.heap.size (shO sd n (.slice am ds.length cm))) (fun _ => False) w (w.alloc (shO sd n (.slice am ds.length cm))) from ⟨⟨heap_alloc_new _ _, .inr (Nat.le_refl _)⟩, Only.alloc _ _ _⟩)
  clear hok hr hv hx hl
  go_enter Try.func4, Try.ntmps4
  go_wp2_with fail
  generalize World.alloc w _ = wa at *
  generalize w.heap.size = bd at *
  refine (HB.out.callRead Blk.framed (E := fun e => e = .returned (.bool true)) (awake_any wa)).mono ?_
  rintro e w1 ⟨rfl, hB1⟩
  have HB1 := Lib.hid hB1
  have c0 : w1.cell? ⟨bd, 0, none⟩ = some (.int .i64 sd) := blk_cell hB1.1.1 0
  have c1 : w1.cell? ⟨bd, 1, none⟩ = some (.int .i64 n) := blk_cell hB1.1.1 1
  have c2 : w1.cell? ⟨bd, 2, none⟩ = some (.slice am ds.length cm) := blk_cell hB1.1.1 2
  clear hB1 HB
  go_wp2_with fail
  refine (newU sd n ds _ Blk.framed HB1.out (HR.out.only HB1.out.2) HOK.out).mono ?_
  rintro e w2 ⟨ga, rfl, mla, ⟨Ga, hma⟩, hU⟩
  have HU2 := Lib.hid hU
  obtain ⟨_, hbk⟩ := hU.getR
  replace c0 : w2.cell? ⟨bd, 0, none⟩ = some (.int .i64 sd) := blk_cell hbk.1 0
  replace c1 : w2.cell? ⟨bd, 1, none⟩ = some (.int .i64 n) := blk_cell hbk.1 1
  replace c2 : w2.cell? ⟨bd, 2, none⟩ = some (.slice am ds.length cm) := blk_cell hbk.1 2
  have HGA := Lib.hid Ga
  have HMA := Lib.hid hma
  clear hU hbk HB1 Ga hma
  go_wp2_with fail
  refine (newU sd n ds _ (Sep.framed OwnS.framed Blk.framed) HU2.out (HR.out.only HU2.out.2) HOK.out).mono ?_
  rintro e w3 ⟨gb, rfl, mlb, ⟨Gb, hmb⟩, hU⟩
  have HU3 := Lib.hid (show Upd (Sep (OwnS ga sd n mla (List.replicate ds.length z0) [] false) (OwnS gb sd n mlb (List.replicate ds.length z0) [] false)) (fun _ => False) w w3 from hU.imp fun _ h => (h.imp (fun _ h => h) fun _ h => h.left OwnS.framed).swap)
  have HGB := Lib.hid Gb
  have HMB := Lib.hid hmb
  have HLA := Lib.hid (show mla.length = ds.length by rw [← HMA.out, List.length_map])
  have HLB := Lib.hid (show mlb.length = ds.length by rw [← HMB.out, List.length_map])
  clear hU HU2 c0 c1 c2 Gb hmb
  generalize List.replicate ds.length z0 = ss0 at *
  go_wp2_with fail
  go_loopw [10, 9] (fun t10 t9 wr => ∃ k : Nat, k ≤ qs.length ∧ t10 = .int .i64 k ∧ t9 = .bool ((qs.take k).all (fitsP sd n ds.length)) ∧ Hid (Upd (Sep (OwnS ga sd n mla ss0 [] false) (OwnS gb sd n mlb ss0 ((qs.take k).filter (fitsP sd n ds.length)) false)) (fun _ => False) w wr)) (fun t10 _ _ => qs.length - (intOf t10).toNat)
  case atStart => exact ⟨0, Nat.zero_le _, rfl, rfl, HU3⟩
  case round =>
    clear HU3
    obtain ⟨k, hk, rfl, rfl, V⟩ := hrel
    by_cases hlt : k < qs.length
    · obtain ⟨sb, off, rfl, hc⟩ := HX.out (by omega)
      obtain ⟨c0, c1, c2, c3, c4, c5, c6⟩ := req_cells hc k hlt
      replace c0 := only_cell V.out.2 c0
      replace c1 := only_cell V.out.2 c1
      replace c2 := only_cell V.out.2 c2
      replace c3 := only_cell V.out.2 c3
      replace c4 := only_cell V.out.2 c4
      replace c5 := only_cell V.out.2 c5
      replace c6 := only_cell V.out.2 c6
      have hi0 : (0 : Int) ≤ (k : Int) := by omega
      have hi1 : (k : Int) < (qs.length : Int) := by omega
      have HTK := Lib.hid (show qs.take (k + 1) = qs.take k ++ [qs[k]] from (List.take_append_getElem hlt).symm)
      have hfl : ((qs.take k).filter (fitsP sd n ds.length)).length ≤ k := Nat.le_trans (List.length_filter_le _ _) (by simp; omega)
      clear hc
      generalize qs[k] = q at *
      obtain ⟨fr, tg, wk, mp, op, dk, dv⟩ := q
      dsimp only at c0 c1 c2 c3 c4 c5 c6
      generalize hline : (qs.take k).filter (fitsP sd n ds.length) = line at *
      generalize hall : (qs.take k).all (fitsP sd n ds.length) = al at *
      have HLN := Lib.hid hline
      have HALL := Lib.hid hall
      have HRQ := Lib.hid (Rd.lit (E := eReq) wr #[.int .i64 fr, .int .i64 tg, .bool wk, .int .i64 mp, .int .i64 op, .int .u64 dk, .int .u64 dv] 37 (0, 0) 1 1 [(fr, tg, wk, mp, op, dk, dv)] rfl rfl (Nat.le_refl _) (by decide))
      have HVa := Lib.hid (V.out.fresh (Sep.framed OwnS.framed OwnS.framed) (Only.alloc (fun _ => False) wr (reqO fr tg wk mp op dk dv)))
      clear hline hall
      cases hf : fitsP sd n ds.length (fr, tg, wk, mp, op, dk, dv) with
      | true =>
        have HSE := Lib.hid (show sendP sd n mlb.length false line [(fr, tg, wk, mp, op, dk, dv)] = (0, line ++ [(fr, tg, wk, mp, op, dk, dv)]) by rw [sendP_one, HLB.out, hf]; rfl)
        have HL2 := Lib.hid (show (qs.take (k + 1)).filter (fitsP sd n ds.length) = line ++ [(fr, tg, wk, mp, op, dk, dv)] by rw [HTK.out, List.filter_append, HLN.out]; simp [hf])
        have HA2 := Lib.hid (show (qs.take (k + 1)).all (fitsP sd n ds.length) = al by rw [HTK.out, List.all_append, HALL.out]; simp [hf])
        clear hf
        go_wp2_with fail
        refine (HVa.out.swap.on1 OwnS.framed (P' := OwnS gb sd n mlb ss0 (line ++ [(fr, tg, wk, mp, op, dk, dv)]) false) (E := fun e => e = .returned (.int .i64 0)) OwnS.framed fun A hA => by
          have := send_ hA HN4.out HRQ.out (by simp only [List.length_cons, List.length_nil]; omega)
          rwa [HSE.out] at this).mono ?_
        rintro e w5 ⟨rfl, h5⟩
        have H5 := Lib.hid h5.swap
        clear h5 HVa HRQ V c0 c1 c2 c3 c4 c5 c6
        go_wp2_with fail
        refine ⟨⟨k + 1, by omega, by simp, by rw [HA2.out], by rw [HL2.out]; exact H5⟩, ?_⟩
        first | omega | (simp only [intOf]; omega)
      | false =>
        have HSE := Lib.hid (show sendP sd n mlb.length false line [(fr, tg, wk, mp, op, dk, dv)] = (2, line) by rw [sendP_one, HLB.out, hf]; rfl)
        have HL2 := Lib.hid (show (qs.take (k + 1)).filter (fitsP sd n ds.length) = line by rw [HTK.out, List.filter_append, HLN.out]; simp [hf])
        have HA2 := Lib.hid (show (qs.take (k + 1)).all (fitsP sd n ds.length) = false by rw [HTK.out, List.all_append, HALL.out]; simp [hf])
        clear hf
        go_wp2_with fail
        refine (HVa.out.swap.on1 OwnS.framed (P' := OwnS gb sd n mlb ss0 line false) (E := fun e => e = .returned (.int .i64 2)) OwnS.framed fun A hA => by
          have := send_ hA HN4.out HRQ.out (by simp only [List.length_cons, List.length_nil]; omega)
          rwa [HSE.out] at this).mono ?_
        rintro e w5 ⟨rfl, h5⟩
        have H5 := Lib.hid h5.swap
        clear h5 HVa HRQ V c0 c1 c2 c3 c4 c5 c6
        go_wp2_with fail
        refine ⟨⟨k + 1, by omega, by simp, by rw [HA2.out], by rw [HL2.out]; exact H5⟩, ?_⟩
        first | omega | (simp only [intOf]; omega)
    · obtain rfl : k = qs.length := by omega
      rw [List.take_length] at V ⊢
      have HOW := Lib.hid (OwS.of_ow (Ow.lit (E := eReq) wr wr.heap.size #[] 37 0 [] (by simp [Enc.all]) rfl (by simp) (Nat.le_refl _)))
      have HRD := Lib.hid ((HV.out.only V.out.2).only (Only.alloc _ wr (.cells #[] 37 (0, 0))))
      have hbb : (5 * (0 + qs.length) + 2816) * 56 ≤ 1125899906842624 := by omega
      have hbm : 0 + qs.length ≤ maxLen := by unfold maxLen; omega
      generalize hall : qs.all (fitsP sd n ds.length) = al at *
      have HALL := Lib.hid hall
      clear hall
      go_wp2_with (at_builtin; refine wl_appendS (E := eReq) rfl _ _ _ rfl 37 56 eReq_slice _ _ [] rfl HOW.out _ qs rfl HRD.out hbb hbm ?_)
      clear hbb hbm
      intro vi w4 hown4 hO4
      have HRI := Lib.hid (show Rd eReq w4 vi qs from hown4.rd)
      have HI := Lib.hid (V.out.fresh (Sep.framed OwnS.framed OwnS.framed) (w2 := w4) ((Only.alloc (fun _ => False) wr (.cells #[] 37 (0, 0))).trans hO4 fun j hj h => by omega))
      obtain ⟨_, ai, ci, rfl, _⟩ := HRI.out
      clear hown4 hO4 HOW HRD V
      cases al with
      | false =>
        have HSE := Lib.hid (show sendP sd n mla.length false [] qs = (2, []) by unfold sendP; rw [HLA.out, HALL.out]; rfl)
        go_wp2_with fail
        refine (HI.out.on1 OwnS.framed (P' := OwnS ga sd n mla ss0 [] false) (E := fun e => e = .returned (.int .i64 2)) OwnS.framed fun A hA => by
          have := send_ hA HN4.out HRI.out (by simp only [List.length_nil]; omega)
          rwa [HSE.out] at this).mono ?_
        rintro e w5 ⟨rfl, h5⟩
        have H5 := Lib.hid h5
        clear h5 HI HRI
        go_wp2_with fail
        obtain ⟨_, hA⟩ := H5.out.getL
        refine (H5.out.callNew (Sep.framed OwnS.framed OwnS.framed) (Yx := fun v S w => OwS eReq 37 S w v []) (E := fun v e => e = .returned v) (fun _ => OwS.framed) (waiting_ hA (by decide))).mono ?_
        rintro e w6 ⟨vw, rfl, h6⟩
        have H6 := Lib.hid h6.2
        obtain ⟨_, ⟨⟨_, aw, cw, rfl, _⟩, _⟩⟩ := h6.getR
        clear h6 hA H5
        go_wp2_with fail
        go_ret
        exact ⟨rfl, H6.out⟩
      | true =>
        have HSE := Lib.hid (show sendP sd n mla.length false [] qs = (0, qs) by unfold sendP; rw [HLA.out, HALL.out]; rfl)
        have HFI := Lib.hid (show qs.filter (fitsP sd n ds.length) = qs from List.filter_eq_self.2 fun a ha => List.all_eq_true.1 HALL.out a ha)
        rw [HFI.out] at HI
        go_wp2_with fail
        refine (HI.out.on1 OwnS.framed (P' := OwnS ga sd n mla ss0 qs false) (E := fun e => e = .returned (.int .i64 0)) OwnS.framed fun A hA => by
          have := send_ hA HN4.out HRI.out (by simp only [List.length_nil]; omega)
          rwa [HSE.out] at this).mono ?_
        rintro e w5 ⟨rfl, h5⟩
        have H5 := Lib.hid h5
        clear h5 HI HRI HSE HFI
        go_wp2_with fail
        obtain ⟨_, hA⟩ := H5.out.getL
        refine (H5.out.callNew (Sep.framed OwnS.framed OwnS.framed) (Yx := fun v S w => OwS eReq 37 S w v qs) (E := fun v e => e = .returned v) (fun _ => OwS.framed) (waiting_ hA (by omega))).mono ?_
        rintro e w6 ⟨vwa, rfl, h6⟩
        have H6 := Lib.hid h6
        clear h6 hA H5
        go_wp2_with fail
        obtain ⟨_, hB⟩ := H6.out.getB
        refine (H6.out.callNew (Sep.framed (Sep.framed OwnS.framed OwnS.framed) OwS.framed) (Yx := fun v S w => OwS eReq 37 S w v qs) (E := fun v e => e = .returned v) (fun _ => OwS.framed) (waiting_ hB (by omega))).mono ?_
        rintro e w7 ⟨vwb, rfl, h7⟩
        have H7 := Lib.hid h7
        clear h7 hB H6
        go_wp2_with fail
        obtain ⟨_, h1⟩ := H7.out.getB
        obtain ⟨_, h2⟩ := H7.out.getR
        refine (H7.out.callRead (Sep.framed (Sep.framed (Sep.framed OwnS.framed OwnS.framed) OwS.framed) OwS.framed) (E := fun e => e = .returned (.bool true)) (lines_eq qs _ _ _ h1.rd h2.rd)).mono ?_
        rintro e w8 ⟨rfl, h8⟩
        have H8 := Lib.hid (show Upd (Sep (OwnS ga sd n mla ss0 qs false) (OwnS gb sd n mlb ss0 qs false)) (fun _ => False) w w8 from h8.imp fun _ h => (h.left (Sep.framed (Sep.framed OwnS.framed OwnS.framed) OwS.framed)).left (Sep.framed OwnS.framed OwnS.framed))
        clear h8 h1 h2 H7
        go_wp2_with fail
        obtain ⟨_, hA⟩ := H8.out.getL
        refine (H8.out.callNew (Sep.framed OwnS.framed OwnS.framed) (Yx := fun v S w => OwS eReq 37 S w v qs) (E := fun v e => e = .returned v) (fun _ => OwS.framed) (waiting_ hA (by omega))).mono ?_
        rintro e w9 ⟨vw, rfl, h9⟩
        obtain ⟨_, ⟨⟨_, aw, cw, rfl, _⟩, _⟩⟩ := h9.getR
        have H9 := Lib.hid (show Upd (Sep (OwnS ga sd n mla ss0 (qs.drop 0) false) (OwnS gb sd n mlb ss0 (qs.drop 0) false)) (fun _ => False) w w9 from h9.imp fun _ h => h.left (Sep.framed OwnS.framed OwnS.framed))
        have hne : (((qs.length : Nat) : Int) != ((qs.length : Nat) : Int)) = false := by simp
        clear h9 hA H8
        go_wp2_with fail
        go_loopw [12, 13, 14, 15, 16] (fun t12 _ _ _ _ wr => ∃ (k : Nat) (ss : List Sh), k ≤ qs.length ∧ t12 = .int .i64 k ∧ Hid (OGood mla ss ∧ OGood mlb ss) ∧ Hid (Upd (Sep (OwnS ga sd n mla ss (qs.drop k) false) (OwnS gb sd n mlb ss (qs.drop k) false)) (fun _ => False) w wr)) (fun t12 _ _ _ _ _ => qs.length - (intOf t12).toNat)
        case atStart => exact ⟨0, ss0, Nat.zero_le _, rfl, Lib.hid ⟨HGA.out, HGB.out⟩, H9⟩
        case round =>
          clear H9
          obtain ⟨k, ss, hk, rfl, HG, V⟩ := hrel
          by_cases hlt : k < qs.length
          · have HDR := Lib.hid (show qs.drop k = qs[k] :: qs.drop (k + 1) from List.drop_eq_getElem_cons hlt)
            have HFQ := Lib.hid (List.all_eq_true.1 HALL.out _ (List.getElem_mem hlt))
            rw [HDR.out] at V
            have hi1 : (k : Int) < (qs.length : Int) := by omega
            generalize qs[k] = q at *
            obtain ⟨r, ps, ss', hst⟩ : ∃ r ps ss', stepP ds ss q = (r, ps, ss') := ⟨_, _, _, rfl⟩
            have HMQ := Lib.hid (show 0 ≤ q.2.2.2.1 ∧ q.2.2.2.1 < ds.length by have := HFQ.out; unfold fitsP at this; simp only [Bool.and_eq_true, decide_eq_true_eq] at this; exact this.1)
            have HST := Lib.hid hst
            have HG2 := Lib.hid (show OGood mla ss' ∧ OGood mlb ss' from by
              have h1 := stepP_good (q := q) HG.out.1
              have h2 := stepP_good (q := q) HG.out.2
              rw [HMA.out, hst] at h1
              rw [HMB.out, hst] at h2
              exact ⟨h1, h2⟩)
            clear hst
            go_wp2_with fail
            refine (V.out.on1x OwnS.framed (Px := fun vp => Sep (OwnS ga sd n mla ss' (qs.drop (k + 1)) false) (fun S w => OwS ePair 50 S w vp ps)) (E := fun vp e => e = .returned (.tuple #[repV q r vp, .bool true])) (fun _ => Sep.framed OwnS.framed OwS.framed) fun A hA => step_any hA HG.out.1 (by rw [HLA.out]; exact HMQ.out) (by rw [HMA.out]; exact HST.out)).mono ?_
            rintro e w10 ⟨va, rfl, h10⟩
            have H10 := Lib.hid (h10.imp fun _ h => h.swap)
            obtain ⟨fr, tg, wk, mp, op, dk, dv⟩ := q
            obtain ⟨x0, x1, x2, x3, x4, x5⟩ := r
            have H10a := Lib.hid (H10.out.loc' OwnS.framed (Sep.framed OwnS.framed OwS.framed) (repO fr tg wk mp op dk dv x0 x1 x2 x3 x4 x5 va))
            obtain ⟨_, hz⟩ := h10.getL
            obtain ⟨_, _, _, _, _, _, ⟨⟨_, pa, pc, rfl, _⟩, _⟩⟩ := hz
            clear h10 V H10
            go_wp2_with fail
            generalize w10.heap.size = rb at *
            generalize World.alloc w10 _ = wb at *
            refine (H10a.out.on1x (Framed.and (Sep.framed OwnS.framed OwS.framed) Blk.framed) (Px := fun vp => Sep (OwnS gb sd n mlb ss' (qs.drop (k + 1)) false) (fun S w => OwS ePair 50 S w vp ps)) (E := fun vp e => e = .returned (.tuple #[repV (fr, tg, wk, mp, op, dk, dv) (x0, x1, x2, x3, x4, x5) vp, .bool true])) (fun _ => Sep.framed OwnS.framed OwS.framed) fun A hA => step_any hA HG.out.2 (by rw [HLB.out]; exact HMQ.out) (by rw [HMB.out]; exact HST.out)).mono ?_
            rintro e w11 ⟨vb, rfl, h11⟩
            obtain ⟨_, hq1, hbk⟩ := h11.getR
            obtain ⟨k0, k1, k2, k3, k4, k5, k6, k7, k8, k9, k10, k11, k12, k13⟩ := rep_cells hbk.1
            have hl1 : rb < w11.heap.size := heap_lt hbk.1
            obtain ⟨_, hz⟩ := h11.getL
            have HRB := Lib.hid (show Rd ePair w11 vb ps from (hz.right OwS.framed).rd)
            have HRA := Lib.hid (show Rd ePair w11 (.slice pa ps.length pc) ps from (hq1.right OwS.framed).rd)
            obtain ⟨_, pb, pd, rfl, _⟩ := HRB.out
            have H11 := Lib.hid (show Upd (Sep (OwnS ga sd n mla ss' (qs.drop (k + 1)) false) (OwnS gb sd n mlb ss' (qs.drop (k + 1)) false)) (fun _ => False) w w11 from h11.imp fun _ h => (h.imp (fun _ h => h.left OwnS.framed) fun _ h => h.1.left OwnS.framed).swap)
            have HO := Lib.hid (Only.alloc (fun _ => False) w11 (repO fr tg wk mp op dk dv x0 x1 x2 x3 x4 x5 (.slice pb ps.length pd)))
            have HAL := Lib.hid (alike_eq (fr, tg, wk, mp, op, dk, dv) (x0, x1, x2, x3, x4, x5) _ _ ps _ (HRA.out.only HO.out) (HRB.out.only HO.out))
            clear h11 hz hbk hq1 H10a
            go_wp2_with fail
            refine ((H11.out.fresh (Sep.framed OwnS.framed OwnS.framed) HO.out).callRead (Sep.framed OwnS.framed OwnS.framed) (E := fun e => e = .returned (.bool true)) HAL.out).mono ?_
            rintro e w12 ⟨rfl, h12⟩
            have H12 := Lib.hid h12
            clear h12 H11 HAL k0 k1 k2 k3 k4 k5 k6 k7 k8 k9 k10 k11 k12 k13
            go_wp2_with fail
            refine ⟨⟨k + 1, ss', by omega, by simp, HG2, H12⟩, ?_⟩
            first | omega | (simp only [intOf]; omega)
          · go_wp2_with fail
            go_ret
            exact ⟨rfl, V.out.2⟩
end Go.Proofs.Ytdlkblklfoagbaa
