/- The law OwnerFresh: its walk. -/
import Derived.Test.YtdlkblklfoagbaaOwnMany
namespace Go.Proofs.Ytdlkblklfoagbaa
open Go.RowKit
set_option linter.unusedVariables false
set_option linter.unusedSimpArgs false

theorem there_at {α : Type} {E : Enc α} {ty : Nat} {S : Nat → Prop} {w : World} {ao : Option Addr} {n cap : Nat} {xs : List α} (h : OwS E ty S w (.slice ao n cap) xs) (i : Nat) (hi : i < xs.length) :
    ∃ pb po, ao = some ⟨pb, po, none⟩ ∧ w.there pb (po + i * E.size) E.size := by
  obtain ⟨pb, po, he, _, hc⟩ := h.1.at_ i hi
  refine ⟨pb, po, he, fun j hj => ?_⟩
  obtain ⟨q, f⟩ := hc j hj
  rw [show po + i * E.size + j = po + (i * E.size + j) by omega]
  refine ⟨?_, f⟩
  rw [q, List.getElem?_eq_getElem (by rw [E.len]; exact hj)]
  rfl
theorem reqs_there {ty : Nat} {S : Nat → Prop} {w : World} {ao : Option Addr} {n cap : Nat} {xs : List ReqD} (h : OwS eReq ty S w (.slice ao n cap) xs) (i : Nat) (hi : i < xs.length) :
    ∃ pb po, ao = some ⟨pb, po, none⟩ ∧ Hid (w.there pb (po + i * 7) 7) := there_at h i hi
theorem pairs_there {ty : Nat} {S : Nat → Prop} {w : World} {ao : Option Addr} {n cap : Nat} {xs : List PairD} (h : OwS ePair ty S w (.slice ao n cap) xs) (i : Nat) (hi : i < xs.length) :
    ∃ pb po, ao = some ⟨pb, po, none⟩ ∧ Hid (w.there pb (po + i * 2) 2) := there_at h i hi
set_option maxRecDepth 100000 in
set_option maxHeartbeats 4000000 in
theorem ownerFresh_bad (sd n : Int) (vm : Value) (ds : List DefD) (v : Value) (w : World) (hr : Rd eDef w vm ds) (h : okOwn sd n ds = false) :
    Calls Try.prog 3 #[.agg #[.int .i64 sd, .int .i64 n, vm], v] w fun e w' => e = .returned (.bool true) ∧ Only (fun _ => False) w w' := by
  obtain ⟨_, am, cm, rfl, _⟩ := id hr
  have HH := Lib.hid h
  have HR := Lib.hid hr
  have HB := Lib.hid (show Upd (Blk w.heap.size (shO sd n (.slice am ds.length cm))) (fun _ => False) w (w.alloc (shO sd n (.slice am ds.length cm))) from ⟨⟨heap_alloc_new _ _, .inr (Nat.le_refl _)⟩, Only.alloc _ _ _⟩)
  clear h hr
  go_enter Try.func3, Try.ntmps3
  go_wp2_with fail
  generalize World.alloc w _ = wa at *
  generalize w.heap.size = bd at *
  refine (HB.out.callRead Blk.framed (E := fun e => e = .returned (.bool true)) (awake_any wa)).mono ?_
  rintro e w1 ⟨rfl, hB1⟩
  have HB1 := Lib.hid hB1
  have c0 : w1.cell? ⟨bd, 0, none⟩ = some (.int .i64 sd) := blk_cell hB1.1.1 0
  have c1 : w1.cell? ⟨bd, 1, none⟩ = some (.int .i64 n) := blk_cell hB1.1.1 1
  have c2 : w1.cell? ⟨bd, 2, none⟩ = some (.slice am ds.length cm) := blk_cell hB1.1.1 2
  clear hB1 HB
  go_wp2_with fail
  refine (HB1.out.callRead Blk.framed (E := fun e => e = .returned (.tuple #[.pointer none, .int .i64 2])) (new_no sd n ds _ (HR.out.only HB1.out.2) HH.out)).mono ?_
  rintro e w2 ⟨rfl, hB2⟩
  have HB2 := Lib.hid hB2
  replace c0 : w2.cell? ⟨bd, 0, none⟩ = some (.int .i64 sd) := blk_cell hB2.1.1 0
  replace c1 : w2.cell? ⟨bd, 1, none⟩ = some (.int .i64 n) := blk_cell hB2.1.1 1
  replace c2 : w2.cell? ⟨bd, 2, none⟩ = some (.slice am ds.length cm) := blk_cell hB2.1.1 2
  clear hB2 HB1
  go_wp2_with fail
  refine (HB2.out.callRead Blk.framed (E := fun e => e = .returned (.tuple #[.pointer none, .int .i64 2])) (new_no sd n ds _ (HR.out.only HB2.out.2) HH.out)).mono ?_
  rintro e w3 ⟨rfl, hB3⟩
  have HB3 := Lib.hid hB3
  clear hB3 HB2 c0 c1 c2
  go_wp2_with fail
  go_ret
  exact ⟨rfl, HB3.out.2⟩
set_option maxRecDepth 100000 in
set_option maxHeartbeats 40000000 in
theorem ownerFresh_yes (sd n : Int) (vm : Value) (ds : List DefD) (qs : List ReqD) (v : Value) (w : World) (hr : Rd eDef w vm ds) (hok : okOwn sd n ds = true) (hv : Rd eReq w v qs) :
    Calls Try.prog 3 #[.agg #[.int .i64 sd, .int .i64 n, vm], v] w fun e w' => e = .returned (.bool true) ∧ Only (fun _ => False) w w' := by
  obtain ⟨hmd, am, cm, rfl, _⟩ := id hr
  obtain ⟨hmx, ao, c, rfl, hcap, _, hx⟩ := id hv
  unfold maxLen at hmx hmd
  have HX := Lib.hid hx
  have HOK := Lib.hid hok
  have HR := Lib.hid hr
  have HV := Lib.hid hv
  have HN4 := Lib.hid (show n ≤ 4 from (okOwn_iff.1 hok).1.1.2)
  have HB := Lib.hid (show Upd (Blk w.heap.size (shO sd n (.slice am ds.length cm))) (fun _ => False) w (w.alloc (shO sd n (.slice am ds.length cm))) from ⟨⟨heap_alloc_new _ _, .inr (Nat.le_refl _)⟩, Only.alloc _ _ _⟩)
  clear hok hr hv hx
  go_enter Try.func3, Try.ntmps3
  go_wp2_with fail
  generalize World.alloc w _ = wa at *
  generalize w.heap.size = bd at *
  refine (HB.out.callRead Blk.framed (E := fun e => e = .returned (.bool true)) (awake_any wa)).mono ?_
  rintro e w1 ⟨rfl, hB1⟩
  have HB1 := Lib.hid hB1
  have c0 : w1.cell? ⟨bd, 0, none⟩ = some (.int .i64 sd) := blk_cell hB1.1.1 0
  have c1 : w1.cell? ⟨bd, 1, none⟩ = some (.int .i64 n) := blk_cell hB1.1.1 1
  have c2 : w1.cell? ⟨bd, 2, none⟩ = some (.slice am ds.length cm) := blk_cell hB1.1.1 2
  clear hB1 HB
  go_wp2_with fail
  refine (newU sd n ds _ Blk.framed HB1.out (HR.out.only HB1.out.2) HOK.out).mono ?_
  rintro e w2 ⟨ga, rfl, mla, ⟨Ga, hma⟩, hU⟩
  have HU2 := Lib.hid hU
  obtain ⟨_, hbk⟩ := hU.getR
  replace c0 : w2.cell? ⟨bd, 0, none⟩ = some (.int .i64 sd) := blk_cell hbk.1 0
  replace c1 : w2.cell? ⟨bd, 1, none⟩ = some (.int .i64 n) := blk_cell hbk.1 1
  replace c2 : w2.cell? ⟨bd, 2, none⟩ = some (.slice am ds.length cm) := blk_cell hbk.1 2
  have HGA := Lib.hid Ga
  have HMA := Lib.hid hma
  clear hU hbk HB1 Ga hma
  go_wp2_with fail
  refine (newU sd n ds _ (Sep.framed OwnS.framed Blk.framed) HU2.out (HR.out.only HU2.out.2) HOK.out).mono ?_
  rintro e w3 ⟨gb, rfl, mlb, ⟨Gb, hmb⟩, hU⟩
  have HSS := Lib.hid (show ∀ m (h : m < (List.replicate ds.length z0).length), (List.replicate ds.length z0)[m].1 = [] from fun m h => by simp)
  have HU3 := Lib.hid (show Upd (Sep (OwnS ga sd n mla (List.replicate ds.length z0) [] false) (Sep (OwnS gb sd n mlb (List.replicate ds.length z0) [] false) (Blk bd (shO sd n (.slice am ds.length cm))))) (fun _ => False) w w3 from hU.imp fun _ h => h.turn)
  have HGB := Lib.hid Gb
  have HMB := Lib.hid hmb
  have HLA := Lib.hid (show mla.length = ds.length by rw [← HMA.out, List.length_map])
  have HLB := Lib.hid (show mlb.length = ds.length by rw [← HMB.out, List.length_map])
  clear hU HU2 c0 c1 c2 Gb hmb
  generalize List.replicate ds.length z0 = ss0 at *
  go_wp2_with fail
  go_loopw [9] (fun t9 wr => ∃ (k : Nat) (line : List ReqD), k ≤ qs.length ∧ k ≤ 500 ∧ line.length ≤ k ∧ t9 = .int .i64 k ∧ Hid (∀ q ∈ line, fitsP sd n ds.length q = true) ∧ Hid (Upd (Sep (OwnS ga sd n mla ss0 line false) (Sep (OwnS gb sd n mlb ss0 [] false) (Blk bd (shO sd n (.slice am ds.length cm))))) (fun _ => False) w wr)) (fun t9 _ => qs.length - (intOf t9).toNat)
  case atStart => exact ⟨0, [], Nat.zero_le _, by decide, by simp, rfl, Lib.hid (fun _ h => by simp at h), HU3⟩
  case round =>
    clear HU3
    obtain ⟨k, line, hk, hk5, hkl, rfl, HFIT, V⟩ := hrel
    by_cases hlt : k < qs.length ∧ k < 500
    · obtain ⟨hlt, hlt5⟩ := hlt
      obtain ⟨sb, off, rfl, hc⟩ := HX.out (by omega)
      obtain ⟨c0, c1, c2, c3, c4, c5, c6⟩ := req_cells hc k hlt
      replace c0 := only_cell V.out.2 c0
      replace c1 := only_cell V.out.2 c1
      replace c2 := only_cell V.out.2 c2
      replace c3 := only_cell V.out.2 c3
      replace c4 := only_cell V.out.2 c4
      replace c5 := only_cell V.out.2 c5
      replace c6 := only_cell V.out.2 c6
      have hi0 : (0 : Int) ≤ (k : Int) := by omega
      have hi1 : (k : Int) < (qs.length : Int) := by omega
      clear hc
      generalize qs[k] = q at *
      obtain ⟨fr, tg, wk, mp, op, dk, dv⟩ := q
      dsimp only at c0 c1 c2 c3 c4 c5 c6
      have HRQ := Lib.hid (Rd.lit (E := eReq) wr #[.int .i64 fr, .int .i64 tg, .bool wk, .int .i64 mp, .int .i64 op, .int .u64 dk, .int .u64 dv] 37 (0, 0) 1 1 [(fr, tg, wk, mp, op, dk, dv)] rfl rfl (Nat.le_refl _) (by decide))
      have HVa := Lib.hid (V.out.fresh (Sep.framed OwnS.framed (Sep.framed OwnS.framed Blk.framed)) (Only.alloc (fun _ => False) wr (reqO fr tg wk mp op dk dv)))
      obtain ⟨rc, line2, hsp⟩ : ∃ rc line2, sendP sd n mla.length false line [(fr, tg, wk, mp, op, dk, dv)] = (rc, line2) := ⟨_, _, rfl⟩
      have HSE := Lib.hid hsp
      have HL2 := Lib.hid (show line2.length ≤ k + 1 ∧ ∀ q ∈ line2, fitsP sd n ds.length q = true by
        rw [sendP_one, HLA.out] at hsp
        split at hsp
        · next hf =>
          obtain ⟨-, rfl⟩ : _ ∧ line ++ [(fr, tg, wk, mp, op, dk, dv)] = line2 := by simpa using hsp
          refine ⟨by simp; omega, fun q hq => ?_⟩
          rcases List.mem_append.1 hq with hq | hq
          · exact HFIT.out q hq
          · rw [List.mem_singleton.1 hq]; exact hf
        · obtain ⟨-, rfl⟩ : _ ∧ line = line2 := by simpa using hsp
          exact ⟨by omega, HFIT.out⟩)
      clear hsp
      go_wp2_with fail
      refine (HVa.out.on1 (Sep.framed OwnS.framed Blk.framed) (P' := OwnS ga sd n mla ss0 line2 false) (E := fun e => e = .returned (.int .i64 rc)) OwnS.framed fun A hA => by
        have := send_ hA HN4.out HRQ.out (by simp only [List.length_cons, List.length_nil]; omega)
        rwa [HSE.out] at this).mono ?_
      rintro e w5 ⟨rfl, h5⟩
      have H5 := Lib.hid h5
      clear h5 HVa HRQ V c0 c1 c2 c3 c4 c5 c6
      go_wp2_with fail
      refine ⟨⟨k + 1, line2, by omega, by omega, HL2.out.1, by simp, Lib.hid HL2.out.2, H5⟩, ?_⟩
      first | omega | (simp only [intOf]; omega)
    · have HSD := Lib.hid (show k = qs.length ∨ (k < qs.length ∧ k = 500) by omega)
      rcases HSD.out with rfl | ⟨hlt2, rfl⟩
      ·
        go_wp2_with fail
        obtain ⟨_, hA⟩ := V.out.getL
        refine (V.out.callNew (Sep.framed OwnS.framed (Sep.framed OwnS.framed Blk.framed)) (Yx := fun v S w => OwS eReq 37 S w v line) (E := fun v e => e = .returned v) (fun _ => OwS.framed) (waiting_ hA (by omega))).mono ?_
        rintro e wa1 ⟨vw, rfl, h1⟩
        obtain ⟨_, ⟨⟨_, aw, cw, rfl, _⟩, _⟩⟩ := h1.getR
        have H1 := Lib.hid h1
        clear h1 hA V
        go_wp2_with fail
        obtain ⟨_, hz⟩ := H1.out.getL
        have hB := (hz.right (Sep.framed OwnS.framed Blk.framed)).left OwnS.framed
        refine (H1.out.callNew (Sep.framed (Sep.framed OwnS.framed (Sep.framed OwnS.framed Blk.framed)) OwS.framed) (Yx := fun v S w => OwS eReq 37 S w v []) (E := fun v e => e = .returned v) (fun _ => OwS.framed) (waiting_ hB (by decide))).mono ?_
        rintro e wa2 ⟨vb, rfl, h2⟩
        obtain ⟨_, ⟨⟨_, ab, cb, rfl, _⟩, _⟩⟩ := h2.getR
        have H2 := Lib.hid (h2.drop (Sep.framed (Sep.framed OwnS.framed (Sep.framed OwnS.framed Blk.framed)) OwS.framed))
        clear h2 hz hB H1
        go_wp2_with fail
        obtain ⟨_, hz⟩ := H2.out.getL
        have hA := hz.left OwnS.framed
        refine (H2.out.callNew (Sep.framed (Sep.framed OwnS.framed (Sep.framed OwnS.framed Blk.framed)) OwS.framed) (Yx := fun v S w => OwS eReq 37 S w v line) (E := fun v e => e = .returned v) (fun _ => OwS.framed) (waiting_ hA (by omega))).mono ?_
        rintro e wa3 ⟨vx, rfl, h3⟩
        obtain ⟨_, ⟨⟨_, ax, cx, rfl, _⟩, _⟩⟩ := h3.getR
        have H3 := Lib.hid (show Upd (Sep (Sep (Sep (OwnS ga sd n mla ss0 line false) (Sep (OwnS gb sd n mlb ss0 [] false) (Blk bd (shO sd n (.slice am ds.length cm))))) (fun S w => OwS eReq 37 S w (.slice ax line.length cx) line)) (fun S w => OwS eReq 37 S w (.slice aw line.length cw) line)) (fun _ => False) w wa3 from h3.imp fun _ h => (h.assoc.imp (fun _ h => h) fun _ h => h.swap).assoc')
        clear h3 hz hA H2
        obtain ⟨L, hLL⟩ : ∃ L, L = line.length := ⟨_, rfl⟩
        have HL := Lib.hid hLL
        rw [← hLL] at H3 ⊢
        have hL5 : L ≤ 500 := by omega
        have hee : (((L + 1 : Nat) : Int) != (L : Int) + 1) = false := by simp
        have hee2 : (((L : Nat) : Int) + 1 != (L : Int) + 1) = false := by simp
        clear hLL
        go_wp2_with fail
        go_loopw [12] (fun t12 wr => ∃ (j : Nat) (zs : List ReqD), j ≤ L ∧ zs.length = L ∧ t12 = .int .i64 j ∧ Hid (Upd (Sep (Sep (Sep (OwnS ga sd n mla ss0 line false) (Sep (OwnS gb sd n mlb ss0 [] false) (Blk bd (shO sd n (.slice am ds.length cm))))) (fun S w => OwS eReq 37 S w (.slice ax L cx) line)) (fun S w => OwS eReq 37 S w (.slice aw L cw) zs)) (fun _ => False) w wr)) (fun t12 _ => L - (intOf t12).toNat)
        case atStart => exact ⟨0, _, Nat.zero_le _, HL.out.symm, rfl, H3⟩
        case round =>
          clear H3
          obtain ⟨j, zs, hj, hzl, rfl, V⟩ := hrel
          by_cases hjl : j < L
          · obtain ⟨D, hD, hb⟩ := V.out.1.focusR (Sep.framed (Sep.framed OwnS.framed (Sep.framed OwnS.framed Blk.framed)) OwS.framed)
            obtain ⟨pb, po, rfl, HTH⟩ := reqs_there hD j (by omega)
            obtain ⟨hos, hO3⟩ := hD.store j (by omega) ((-9, 0, false, 0, 0, 0, 0) : ReqD)
            have HV2 := Lib.hid (V.out.step (Sep.framed (Sep.framed (Sep.framed OwnS.framed (Sep.framed OwnS.framed Blk.framed)) OwS.framed) OwS.framed) (hb (fun S w => OwS eReq 37 S w _ (zs.set j (-9, 0, false, 0, 0, 0, 0))) _ OwS.framed ⟨OwS.framed.mono _ _ _ hos fun k _ h => .inl h, hO3⟩))
            have HZ := Lib.hid (show (zs.set j ((-9, 0, false, 0, 0, 0, 0) : ReqD)).length = L by simpa using hzl)
            have hi0 : (0 : Int) ≤ (j : Int) := by omega
            have hi1 : (j : Int) < (L : Int) := by omega
            clear hD hb hos hO3 V
            obtain ⟨wz, hwz⟩ : ∃ wz, wz = wr.setCells pb (po + j * 7) (#[.int .i64 (-9), .int .i64 0, .bool false, .int .i64 0, .int .i64 0, .int .u64 0, .int .u64 0] : Array Value).toList := ⟨_, rfl⟩
            have HV3 := Lib.hid (show Upd (Sep (Sep (Sep (OwnS ga sd n mla ss0 line false) (Sep (OwnS gb sd n mlb ss0 [] false) (Blk bd (shO sd n (.slice am ds.length cm))))) (fun S w => OwS eReq 37 S w (.slice ax L cx) line)) (fun S w => OwS eReq 37 S w (.slice (some ⟨pb, po, none⟩) L cw) (zs.set j (-9, 0, false, 0, 0, 0, 0)))) (fun _ => False) w wz from by rw [hwz]; exact HV2.out)
            have HWZ := Lib.hid hwz
            clear hwz HV2
            go_wp2_with (refine wpList_store_mid rfl 37 (.tmp 100) (.tmp 99) rfl pb (po + j * 7) #[.int .i64 (-9), .int .i64 0, .bool false, .int .i64 0, .int .i64 0, .int .u64 0, .int .u64 0] rfl rfl HTH.out (by kernel_rfl) (by simp [Value.oneCell']) ?_; rw [← HWZ.out])
            try simp only [Exit.inBlock, Exit.then]
            try go_wp2_with fail
            refine ⟨⟨j + 1, _, by omega, HZ.out, by simp, HV3⟩, ?_⟩
            first | omega | (simp only [intOf]; omega)
          · obtain rfl : j = L := by omega
            obtain ⟨D, hD, hb⟩ := V.out.1.focusR (Sep.framed (Sep.framed OwnS.framed (Sep.framed OwnS.framed Blk.framed)) OwS.framed)
            have HOW := Lib.hid (show OwS eReq 37 D (wr.alloc (.cells #[.int .i64 0, .int .i64 0, .bool false, .int .i64 0, .int .i64 0, .int .u64 0, .int .u64 0] 37 (0, 0))) (.slice aw j cw) zs from OwS.framed.alloc hD _)
            have HRD := Lib.hid (Rd.lit (E := eReq) wr #[.int .i64 0, .int .i64 0, .bool false, .int .i64 0, .int .i64 0, .int .u64 0, .int .u64 0] 37 (0, 0) 1 1 [((0, 0, false, 0, 0, 0, 0) : ReqD)] rfl rfl (Nat.le_refl _) (by decide))
            have HBK := Lib.hid (fun (v2 : Value) (w2 : World) (h2 : OwS eReq 37 (fun k => D k ∨ wr.heap.size ≤ k) w2 v2 (zs ++ [(0, 0, false, 0, 0, 0, 0)])) (ho2 : Only D (wr.alloc (.cells #[.int .i64 0, .int .i64 0, .bool false, .int .i64 0, .int .i64 0, .int .u64 0, .int .u64 0] 37 (0, 0))) w2) => V.out.step (Sep.framed (Sep.framed (Sep.framed OwnS.framed (Sep.framed OwnS.framed Blk.framed)) OwS.framed) OwS.framed) (hb (fun S w => OwS eReq 37 S w v2 (zs ++ [(0, 0, false, 0, 0, 0, 0)])) w2 OwS.framed ⟨h2, (Only.alloc _ _ _).tr ho2⟩))
            clear hD hb
            go_wp2_with (at_builtin; refine wl_appendS (E := eReq) rfl _ (.tmp 103) _ rfl 37 56 eReq_slice _ _ zs rfl HOW.out _ [(0, 0, false, 0, 0, 0, 0)] rfl HRD.out (by simp only [List.length_cons, List.length_nil]; omega) (by unfold maxLen; simp only [List.length_cons, List.length_nil]; omega) ?_)
            intro v2 w8 hown8 hO8
            have H8 := Lib.hid ((HBK.out v2 w8 (OwS.framed.mono _ _ _ hown8 fun k _ h => h.imp id fun h => Nat.le_of_succ_le h) hO8).drop (Sep.framed (Sep.framed OwnS.framed (Sep.framed OwnS.framed Blk.framed)) OwS.framed))
            have HL8 := Lib.hid (show (zs ++ [((0, 0, false, 0, 0, 0, 0) : ReqD)]).length = j + 1 by simp; omega)
            obtain ⟨⟨_, a8, c8, rfl, _⟩, _⟩ := hown8
            rw [HL8.out]
            clear hO8 HBK HOW HRD V
            go_wp2_with fail
            obtain ⟨_, hz⟩ := H8.out.getL
            have hA := hz.left OwnS.framed
            refine (H8.out.callNew (Sep.framed (Sep.framed OwnS.framed (Sep.framed OwnS.framed Blk.framed)) OwS.framed) (Yx := fun v S w => OwS eReq 37 S w v line) (E := fun v e => e = .returned v) (fun _ => OwS.framed) (waiting_ hA (by omega))).mono ?_
            rintro e w9 ⟨v9, rfl, h9⟩
            have H9 := Lib.hid h9
            clear h9 hz hA H8
            go_wp2_with fail
            obtain ⟨_, ha1⟩ := H9.out.getR
            obtain ⟨_, hb1⟩ := H9.out.getB
            refine (H9.out.callRead (Sep.framed (Sep.framed (Sep.framed OwnS.framed (Sep.framed OwnS.framed Blk.framed)) OwS.framed) OwS.framed) (E := fun e => e = .returned (.bool true)) (lines_eq line _ _ _ ha1.rd hb1.rd)).mono ?_
            rintro e w10 ⟨rfl, h10⟩
            have H10 := Lib.hid (show Upd (Sep (OwnS ga sd n mla ss0 (line.drop 0) false) (Sep (OwnS gb sd n mlb ss0 [] false) (Blk bd (shO sd n (.slice am ds.length cm))))) (fun _ => False) w w10 from h10.imp fun _ h => (h.left (Sep.framed (Sep.framed OwnS.framed (Sep.framed OwnS.framed Blk.framed)) OwS.framed)).left (Sep.framed OwnS.framed (Sep.framed OwnS.framed Blk.framed)))
            clear h10 ha1 hb1 H9
            go_wp2_with fail
            go_loopw [13] (fun t13 wr => ∃ (k : Nat) (ss : List Sh), k ≤ j ∧ t13 = .int .i64 k ∧ Hid (OGood mla ss) ∧ Hid (Upd (Sep (OwnS ga sd n mla ss (line.drop k) false) (Sep (OwnS gb sd n mlb ss0 [] false) (Blk bd (shO sd n (.slice am ds.length cm))))) (fun _ => False) w wr)) (fun t13 _ => j - (intOf t13).toNat)
            case atStart => exact ⟨0, ss0, Nat.zero_le _, rfl, HGA, H10⟩
            case round =>
              clear H10
              obtain ⟨k, ss, hk, rfl, HG, V⟩ := hrel
              by_cases hlt : k < j
              · have hkl : k < line.length := by rw [← HL.out]; exact hlt
                have HDR := Lib.hid (show line.drop k = line[k] :: line.drop (k + 1) from List.drop_eq_getElem_cons hkl)
                have HFQ := Lib.hid (HFIT.out _ (List.getElem_mem hkl))
                rw [HDR.out] at V
                have hi1 : (k : Int) < (j : Int) := by omega
                generalize line[k] = q at *
                obtain ⟨r, ps, ss', hst⟩ : ∃ r ps ss', stepP ds ss q = (r, ps, ss') := ⟨_, _, _, rfl⟩
                have HMQ := Lib.hid (show 0 ≤ q.2.2.2.1 ∧ q.2.2.2.1 < ds.length by have := HFQ.out; unfold fitsP at this; simp only [Bool.and_eq_true, decide_eq_true_eq] at this; exact this.1)
                have HST := Lib.hid hst
                have HG2 := Lib.hid (show OGood mla ss' from by
                  have h1 := stepP_good (q := q) HG.out
                  rwa [HMA.out, hst] at h1)
                clear hst
                go_wp2_with fail
                refine (V.out.on1x (Sep.framed OwnS.framed Blk.framed) (Px := fun vp => Sep (OwnS ga sd n mla ss' (line.drop (k + 1)) false) (fun S w => OwS ePair 50 S w vp ps)) (E := fun vp e => e = .returned (.tuple #[repV q r vp, .bool true])) (fun _ => Sep.framed OwnS.framed OwS.framed) fun A hA => step_any hA HG.out (by rw [HLA.out]; exact HMQ.out) (by rw [HMA.out]; exact HST.out)).mono ?_
                rintro e w11 ⟨va, rfl, h11⟩
                have H11 := Lib.hid (show Upd (Sep (OwnS ga sd n mla ss' (line.drop (k + 1)) false) (Sep (OwnS gb sd n mlb ss0 [] false) (Blk bd (shO sd n (.slice am ds.length cm))))) (fun _ => False) w w11 from h11.imp fun _ h => h.imp (fun _ h => h.left OwnS.framed) fun _ h => h)
                clear h11 V
                go_wp2_with fail
                refine ⟨⟨k + 1, ss', by omega, by simp, HG2, H11⟩, ?_⟩
                first | omega | (simp only [intOf]; omega)
              · have HV := Lib.hid V.out
                generalize line.drop k = line2 at *
                clear V
                go_wp2_with fail
                go_loopw [14, 15, 16, 17, 18, 19, 20, 21, 22, 23] (fun t14 _ _ _ _ _ _ _ _ _ wr => ∃ m : Nat, m ≤ ds.length ∧ t14 = .int .i64 m ∧ Hid (Upd (Sep (OwnS ga sd n mla ss line2 false) (Sep (OwnS gb sd n mlb ss0 [] false) (Blk bd (shO sd n (.slice am ds.length cm))))) (fun _ => False) w wr)) (fun t14 _ _ _ _ _ _ _ _ _ _ => ds.length - (intOf t14).toNat)
                case atStart => exact ⟨0, Nat.zero_le _, rfl, HV⟩
                case round =>
                  clear HV
                  obtain ⟨m, hm, rfl, V⟩ := hrel
                  obtain ⟨_, hz⟩ := V.out.getR
                  have hbk := hz.right Blk.framed
                  have b2 : wr.cell? ⟨bd, 2, none⟩ = some (.slice am ds.length cm) := blk_cell hbk.1 2
                  clear hz hbk
                  by_cases hmd : m < ds.length
                  · have hms : m < ss.length := by rw [← HG.out.len, HLA.out]; exact hmd
                    have hms0 : m < ss0.length := by rw [← HGB.out.len, HLB.out]; exact hmd
                    have HZ0 := Lib.hid (show ss0[m].1 = [] from HSS.out m hms0)
                    have hb1 := (HG.out.good m (by rw [HLA.out]; exact hmd) hms).len
                    have hi1 : (m : Int) < (ds.length : Int) := by omega
                    go_wp2_with fail
                    obtain ⟨_, hA⟩ := V.out.getL
                    refine (V.out.callNew (Sep.framed OwnS.framed (Sep.framed OwnS.framed Blk.framed)) (Yx := fun v S w => OwS ePair 50 S w v ss[m].1) (E := fun v e => e = .returned (.tuple #[v, .int .i64 0])) (fun _ => OwS.framed) (opairs_ok hA HG.out m hms)).mono ?_
                    rintro e wb1 ⟨vp, rfl, h1⟩
                    obtain ⟨_, ⟨⟨_, ap, cp, rfl, _⟩, _⟩⟩ := h1.getR
                    have HP1 := Lib.hid h1
                    clear h1 hA V b2
                    go_wp2_with fail
                    obtain ⟨_, hz⟩ := HP1.out.getL
                    have hA := hz.left OwnS.framed
                    refine (HP1.out.callNew (Sep.framed (Sep.framed OwnS.framed (Sep.framed OwnS.framed Blk.framed)) OwS.framed) (Yx := fun v S w => OwS ePair 50 S w v ss[m].1) (E := fun v e => e = .returned (.tuple #[v, .int .i64 0])) (fun _ => OwS.framed) (opairs_ok hA HG.out m hms)).mono ?_
                    rintro e wb2 ⟨vq, rfl, h2⟩
                    obtain ⟨_, ⟨⟨_, aq, cq, rfl, _⟩, _⟩⟩ := h2.getR
                    have HP2 := Lib.hid (show Upd (Sep (Sep (Sep (OwnS ga sd n mla ss line2 false) (Sep (OwnS gb sd n mlb ss0 [] false) (Blk bd (shO sd n (.slice am ds.length cm))))) (fun S w => OwS ePair 50 S w (.slice aq ss[m].1.length cq) ss[m].1)) (fun S w => OwS ePair 50 S w (.slice ap ss[m].1.length cp) ss[m].1)) (fun _ => False) w wb2 from h2.imp fun _ h => (h.assoc.imp (fun _ h => h) fun _ h => h.swap).assoc')
                    clear h2 hz hA HP1
                    obtain ⟨N, hNN⟩ : ∃ N, N = ss[m].1.length := ⟨_, rfl⟩
                    have HN := Lib.hid hNN
                    rw [← hNN] at HP2 hb1 ⊢
                    clear hNN
                    go_wp2_with fail
                    go_loopw [19] (fun t19 wr => ∃ (i : Nat) (zs : List PairD), i ≤ N ∧ zs.length = N ∧ t19 = .int .i64 i ∧ Hid (Upd (Sep (Sep (Sep (OwnS ga sd n mla ss line2 false) (Sep (OwnS gb sd n mlb ss0 [] false) (Blk bd (shO sd n (.slice am ds.length cm))))) (fun S w => OwS ePair 50 S w (.slice aq N cq) ss[m].1)) (fun S w => OwS ePair 50 S w (.slice ap N cp) zs)) (fun _ => False) w wr)) (fun t19 _ => N - (intOf t19).toNat)
                    case atStart => exact ⟨0, _, Nat.zero_le _, HN.out.symm, rfl, HP2⟩
                    case round =>
                      clear HP2
                      obtain ⟨i, zs, hi, hzl, rfl, V⟩ := hrel
                      by_cases hil : i < N
                      · obtain ⟨D, hD, hb⟩ := V.out.1.focusR (Sep.framed (Sep.framed OwnS.framed (Sep.framed OwnS.framed Blk.framed)) OwS.framed)
                        obtain ⟨pb, po, rfl, HTH⟩ := pairs_there hD i (by omega)
                        obtain ⟨hos, hO3⟩ := hD.store i (by omega) ((9999, 0) : PairD)
                        have HV2 := Lib.hid (V.out.step (Sep.framed (Sep.framed (Sep.framed OwnS.framed (Sep.framed OwnS.framed Blk.framed)) OwS.framed) OwS.framed) (hb (fun S w => OwS ePair 50 S w _ (zs.set i (9999, 0))) _ OwS.framed ⟨OwS.framed.mono _ _ _ hos fun k _ h => .inl h, hO3⟩))
                        have HZ := Lib.hid (show (zs.set i ((9999, 0) : PairD)).length = N by simpa using hzl)
                        have hi0 : (0 : Int) ≤ (i : Int) := by omega
                        have hi1 : (i : Int) < (N : Int) := by omega
                        clear hD hb hos hO3 V
                        obtain ⟨wz, hwz⟩ : ∃ wz, wz = wr.setCells pb (po + i * 2) (#[.int .u64 9999, .int .u64 0] : Array Value).toList := ⟨_, rfl⟩
                        have HV3 := Lib.hid (show Upd (Sep (Sep (Sep (OwnS ga sd n mla ss line2 false) (Sep (OwnS gb sd n mlb ss0 [] false) (Blk bd (shO sd n (.slice am ds.length cm))))) (fun S w => OwS ePair 50 S w (.slice aq N cq) ss[m].1)) (fun S w => OwS ePair 50 S w (.slice (some ⟨pb, po, none⟩) N cp) (zs.set i (9999, 0)))) (fun _ => False) w wz from by rw [hwz]; exact HV2.out)
                        have HWZ := Lib.hid hwz
                        clear hwz HV2
                        go_wp2_with (refine wpList_store_mid rfl 50 (.tmp 154) (.tmp 153) rfl pb (po + i * 2) #[.int .u64 9999, .int .u64 0] rfl rfl HTH.out (by kernel_rfl) (by simp [Value.oneCell']) ?_; rw [← HWZ.out])
                        try simp only [Exit.inBlock, Exit.then]
                        try go_wp2_with fail
                        refine ⟨⟨i + 1, _, by omega, HZ.out, by simp, HV3⟩, ?_⟩
                        first | omega | (simp only [intOf]; omega)
                      · have HW := Lib.hid (V.out.drop (Sep.framed (Sep.framed OwnS.framed (Sep.framed OwnS.framed Blk.framed)) OwS.framed))
                        clear V
                        go_wp2_with fail
                        obtain ⟨_, hz⟩ := HW.out.getL
                        have hA := hz.left OwnS.framed
                        refine (HW.out.callNew (Sep.framed (Sep.framed OwnS.framed (Sep.framed OwnS.framed Blk.framed)) OwS.framed) (Yx := fun v S w => OwS ePair 50 S w v ss[m].1) (E := fun v e => e = .returned (.tuple #[v, .int .i64 0])) (fun _ => OwS.framed) (opairs_ok hA HG.out m hms)).mono ?_
                        rintro e wc1 ⟨vr, rfl, h1⟩
                        have HR1 := Lib.hid h1
                        clear h1 hz hA HW
                        go_wp2_with fail
                        obtain ⟨_, hz⟩ := HR1.out.getA
                        have hB := (hz.right (Sep.framed OwnS.framed Blk.framed)).left OwnS.framed
                        refine (HR1.out.callNew (Sep.framed (Sep.framed (Sep.framed OwnS.framed (Sep.framed OwnS.framed Blk.framed)) OwS.framed) OwS.framed) (Yx := fun v S w => OwS ePair 50 S w v ([] : List PairD)) (E := fun v e => e = .returned (.tuple #[v, .int .i64 0])) (fun _ => OwS.framed) (by have := opairs_ok hB HGB.out m hms0; rwa [HZ0.out] at this)).mono ?_
                        rintro e wc2 ⟨vn, rfl, h2⟩
                        obtain ⟨_, ⟨⟨_, an, cn, rfl, _⟩, _⟩⟩ := h2.getR
                        have HR2 := Lib.hid (h2.drop (Sep.framed (Sep.framed (Sep.framed OwnS.framed (Sep.framed OwnS.framed Blk.framed)) OwS.framed) OwS.framed))
                        clear h2 hz hB HR1
                        go_wp2_with fail
                        obtain ⟨_, ha1⟩ := HR2.out.getR
                        obtain ⟨_, hb1⟩ := HR2.out.getB
                        refine (HR2.out.callRead (Sep.framed (Sep.framed (Sep.framed OwnS.framed (Sep.framed OwnS.framed Blk.framed)) OwS.framed) OwS.framed) (E := fun e => e = .returned (.bool true)) (pairs_eq ss[m].1 _ _ _ hb1.rd ha1.rd)).mono ?_
                        rintro e wc3 ⟨rfl, h3⟩
                        have HR3 := Lib.hid (show Upd (Sep (OwnS ga sd n mla ss line2 false) (Sep (OwnS gb sd n mlb ss0 [] false) (Blk bd (shO sd n (.slice am ds.length cm))))) (fun _ => False) w wc3 from h3.imp fun _ h => (h.left (Sep.framed (Sep.framed OwnS.framed (Sep.framed OwnS.framed Blk.framed)) OwS.framed)).left (Sep.framed OwnS.framed (Sep.framed OwnS.framed Blk.framed)))
                        clear h3 ha1 hb1 HR2
                        go_wp2_with fail
                        refine ⟨⟨m + 1, by omega, by simp, HR3⟩, ?_⟩
                        first | omega | (simp only [intOf]; omega)
                  · go_wp2_with fail
                    go_ret
                    exact ⟨rfl, V.out.2⟩
      ·
        go_wp2_with fail
        obtain ⟨_, hA⟩ := V.out.getL
        refine (V.out.callNew (Sep.framed OwnS.framed (Sep.framed OwnS.framed Blk.framed)) (Yx := fun v S w => OwS eReq 37 S w v line) (E := fun v e => e = .returned v) (fun _ => OwS.framed) (waiting_ hA (by omega))).mono ?_
        rintro e wa1 ⟨vw, rfl, h1⟩
        obtain ⟨_, ⟨⟨_, aw, cw, rfl, _⟩, _⟩⟩ := h1.getR
        have H1 := Lib.hid h1
        clear h1 hA V
        go_wp2_with fail
        obtain ⟨_, hz⟩ := H1.out.getL
        have hB := (hz.right (Sep.framed OwnS.framed Blk.framed)).left OwnS.framed
        refine (H1.out.callNew (Sep.framed (Sep.framed OwnS.framed (Sep.framed OwnS.framed Blk.framed)) OwS.framed) (Yx := fun v S w => OwS eReq 37 S w v []) (E := fun v e => e = .returned v) (fun _ => OwS.framed) (waiting_ hB (by decide))).mono ?_
        rintro e wa2 ⟨vb, rfl, h2⟩
        obtain ⟨_, ⟨⟨_, ab, cb, rfl, _⟩, _⟩⟩ := h2.getR
        have H2 := Lib.hid (h2.drop (Sep.framed (Sep.framed OwnS.framed (Sep.framed OwnS.framed Blk.framed)) OwS.framed))
        clear h2 hz hB H1
        go_wp2_with fail
        obtain ⟨_, hz⟩ := H2.out.getL
        have hA := hz.left OwnS.framed
        refine (H2.out.callNew (Sep.framed (Sep.framed OwnS.framed (Sep.framed OwnS.framed Blk.framed)) OwS.framed) (Yx := fun v S w => OwS eReq 37 S w v line) (E := fun v e => e = .returned v) (fun _ => OwS.framed) (waiting_ hA (by omega))).mono ?_
        rintro e wa3 ⟨vx, rfl, h3⟩
        obtain ⟨_, ⟨⟨_, ax, cx, rfl, _⟩, _⟩⟩ := h3.getR
        have H3 := Lib.hid (show Upd (Sep (Sep (Sep (OwnS ga sd n mla ss0 line false) (Sep (OwnS gb sd n mlb ss0 [] false) (Blk bd (shO sd n (.slice am ds.length cm))))) (fun S w => OwS eReq 37 S w (.slice ax line.length cx) line)) (fun S w => OwS eReq 37 S w (.slice aw line.length cw) line)) (fun _ => False) w wa3 from h3.imp fun _ h => (h.assoc.imp (fun _ h => h) fun _ h => h.swap).assoc')
        clear h3 hz hA H2
        obtain ⟨L, hLL⟩ : ∃ L, L = line.length := ⟨_, rfl⟩
        have HL := Lib.hid hLL
        rw [← hLL] at H3 ⊢
        have hL5 : L ≤ 500 := by omega
        have hee : (((L + 1 : Nat) : Int) != (L : Int) + 1) = false := by simp
        have hee2 : (((L : Nat) : Int) + 1 != (L : Int) + 1) = false := by simp
        clear hLL
        go_wp2_with fail
        go_loopw [12] (fun t12 wr => ∃ (j : Nat) (zs : List ReqD), j ≤ L ∧ zs.length = L ∧ t12 = .int .i64 j ∧ Hid (Upd (Sep (Sep (Sep (OwnS ga sd n mla ss0 line false) (Sep (OwnS gb sd n mlb ss0 [] false) (Blk bd (shO sd n (.slice am ds.length cm))))) (fun S w => OwS eReq 37 S w (.slice ax L cx) line)) (fun S w => OwS eReq 37 S w (.slice aw L cw) zs)) (fun _ => False) w wr)) (fun t12 _ => L - (intOf t12).toNat)
        case atStart => exact ⟨0, _, Nat.zero_le _, HL.out.symm, rfl, H3⟩
        case round =>
          clear H3
          obtain ⟨j, zs, hj, hzl, rfl, V⟩ := hrel
          by_cases hjl : j < L
          · obtain ⟨D, hD, hb⟩ := V.out.1.focusR (Sep.framed (Sep.framed OwnS.framed (Sep.framed OwnS.framed Blk.framed)) OwS.framed)
            obtain ⟨pb, po, rfl, HTH⟩ := reqs_there hD j (by omega)
            obtain ⟨hos, hO3⟩ := hD.store j (by omega) ((-9, 0, false, 0, 0, 0, 0) : ReqD)
            have HV2 := Lib.hid (V.out.step (Sep.framed (Sep.framed (Sep.framed OwnS.framed (Sep.framed OwnS.framed Blk.framed)) OwS.framed) OwS.framed) (hb (fun S w => OwS eReq 37 S w _ (zs.set j (-9, 0, false, 0, 0, 0, 0))) _ OwS.framed ⟨OwS.framed.mono _ _ _ hos fun k _ h => .inl h, hO3⟩))
            have HZ := Lib.hid (show (zs.set j ((-9, 0, false, 0, 0, 0, 0) : ReqD)).length = L by simpa using hzl)
            have hi0 : (0 : Int) ≤ (j : Int) := by omega
            have hi1 : (j : Int) < (L : Int) := by omega
            clear hD hb hos hO3 V
            obtain ⟨wz, hwz⟩ : ∃ wz, wz = wr.setCells pb (po + j * 7) (#[.int .i64 (-9), .int .i64 0, .bool false, .int .i64 0, .int .i64 0, .int .u64 0, .int .u64 0] : Array Value).toList := ⟨_, rfl⟩
            have HV3 := Lib.hid (show Upd (Sep (Sep (Sep (OwnS ga sd n mla ss0 line false) (Sep (OwnS gb sd n mlb ss0 [] false) (Blk bd (shO sd n (.slice am ds.length cm))))) (fun S w => OwS eReq 37 S w (.slice ax L cx) line)) (fun S w => OwS eReq 37 S w (.slice (some ⟨pb, po, none⟩) L cw) (zs.set j (-9, 0, false, 0, 0, 0, 0)))) (fun _ => False) w wz from by rw [hwz]; exact HV2.out)
            have HWZ := Lib.hid hwz
            clear hwz HV2
            go_wp2_with (refine wpList_store_mid rfl 37 (.tmp 100) (.tmp 99) rfl pb (po + j * 7) #[.int .i64 (-9), .int .i64 0, .bool false, .int .i64 0, .int .i64 0, .int .u64 0, .int .u64 0] rfl rfl HTH.out (by kernel_rfl) (by simp [Value.oneCell']) ?_; rw [← HWZ.out])
            try simp only [Exit.inBlock, Exit.then]
            try go_wp2_with fail
            refine ⟨⟨j + 1, _, by omega, HZ.out, by simp, HV3⟩, ?_⟩
            first | omega | (simp only [intOf]; omega)
          · obtain rfl : j = L := by omega
            obtain ⟨D, hD, hb⟩ := V.out.1.focusR (Sep.framed (Sep.framed OwnS.framed (Sep.framed OwnS.framed Blk.framed)) OwS.framed)
            have HOW := Lib.hid (show OwS eReq 37 D (wr.alloc (.cells #[.int .i64 0, .int .i64 0, .bool false, .int .i64 0, .int .i64 0, .int .u64 0, .int .u64 0] 37 (0, 0))) (.slice aw j cw) zs from OwS.framed.alloc hD _)
            have HRD := Lib.hid (Rd.lit (E := eReq) wr #[.int .i64 0, .int .i64 0, .bool false, .int .i64 0, .int .i64 0, .int .u64 0, .int .u64 0] 37 (0, 0) 1 1 [((0, 0, false, 0, 0, 0, 0) : ReqD)] rfl rfl (Nat.le_refl _) (by decide))
            have HBK := Lib.hid (fun (v2 : Value) (w2 : World) (h2 : OwS eReq 37 (fun k => D k ∨ wr.heap.size ≤ k) w2 v2 (zs ++ [(0, 0, false, 0, 0, 0, 0)])) (ho2 : Only D (wr.alloc (.cells #[.int .i64 0, .int .i64 0, .bool false, .int .i64 0, .int .i64 0, .int .u64 0, .int .u64 0] 37 (0, 0))) w2) => V.out.step (Sep.framed (Sep.framed (Sep.framed OwnS.framed (Sep.framed OwnS.framed Blk.framed)) OwS.framed) OwS.framed) (hb (fun S w => OwS eReq 37 S w v2 (zs ++ [(0, 0, false, 0, 0, 0, 0)])) w2 OwS.framed ⟨h2, (Only.alloc _ _ _).tr ho2⟩))
            clear hD hb
            go_wp2_with (at_builtin; refine wl_appendS (E := eReq) rfl _ (.tmp 103) _ rfl 37 56 eReq_slice _ _ zs rfl HOW.out _ [(0, 0, false, 0, 0, 0, 0)] rfl HRD.out (by simp only [List.length_cons, List.length_nil]; omega) (by unfold maxLen; simp only [List.length_cons, List.length_nil]; omega) ?_)
            intro v2 w8 hown8 hO8
            have H8 := Lib.hid ((HBK.out v2 w8 (OwS.framed.mono _ _ _ hown8 fun k _ h => h.imp id fun h => Nat.le_of_succ_le h) hO8).drop (Sep.framed (Sep.framed OwnS.framed (Sep.framed OwnS.framed Blk.framed)) OwS.framed))
            have HL8 := Lib.hid (show (zs ++ [((0, 0, false, 0, 0, 0, 0) : ReqD)]).length = j + 1 by simp; omega)
            obtain ⟨⟨_, a8, c8, rfl, _⟩, _⟩ := hown8
            rw [HL8.out]
            clear hO8 HBK HOW HRD V
            go_wp2_with fail
            obtain ⟨_, hz⟩ := H8.out.getL
            have hA := hz.left OwnS.framed
            refine (H8.out.callNew (Sep.framed (Sep.framed OwnS.framed (Sep.framed OwnS.framed Blk.framed)) OwS.framed) (Yx := fun v S w => OwS eReq 37 S w v line) (E := fun v e => e = .returned v) (fun _ => OwS.framed) (waiting_ hA (by omega))).mono ?_
            rintro e w9 ⟨v9, rfl, h9⟩
            have H9 := Lib.hid h9
            clear h9 hz hA H8
            go_wp2_with fail
            obtain ⟨_, ha1⟩ := H9.out.getR
            obtain ⟨_, hb1⟩ := H9.out.getB
            refine (H9.out.callRead (Sep.framed (Sep.framed (Sep.framed OwnS.framed (Sep.framed OwnS.framed Blk.framed)) OwS.framed) OwS.framed) (E := fun e => e = .returned (.bool true)) (lines_eq line _ _ _ ha1.rd hb1.rd)).mono ?_
            rintro e w10 ⟨rfl, h10⟩
            have H10 := Lib.hid (show Upd (Sep (OwnS ga sd n mla ss0 (line.drop 0) false) (Sep (OwnS gb sd n mlb ss0 [] false) (Blk bd (shO sd n (.slice am ds.length cm))))) (fun _ => False) w w10 from h10.imp fun _ h => (h.left (Sep.framed (Sep.framed OwnS.framed (Sep.framed OwnS.framed Blk.framed)) OwS.framed)).left (Sep.framed OwnS.framed (Sep.framed OwnS.framed Blk.framed)))
            clear h10 ha1 hb1 H9
            go_wp2_with fail
            go_loopw [13] (fun t13 wr => ∃ (k : Nat) (ss : List Sh), k ≤ j ∧ t13 = .int .i64 k ∧ Hid (OGood mla ss) ∧ Hid (Upd (Sep (OwnS ga sd n mla ss (line.drop k) false) (Sep (OwnS gb sd n mlb ss0 [] false) (Blk bd (shO sd n (.slice am ds.length cm))))) (fun _ => False) w wr)) (fun t13 _ => j - (intOf t13).toNat)
            case atStart => exact ⟨0, ss0, Nat.zero_le _, rfl, HGA, H10⟩
            case round =>
              clear H10
              obtain ⟨k, ss, hk, rfl, HG, V⟩ := hrel
              by_cases hlt : k < j
              · have hkl : k < line.length := by rw [← HL.out]; exact hlt
                have HDR := Lib.hid (show line.drop k = line[k] :: line.drop (k + 1) from List.drop_eq_getElem_cons hkl)
                have HFQ := Lib.hid (HFIT.out _ (List.getElem_mem hkl))
                rw [HDR.out] at V
                have hi1 : (k : Int) < (j : Int) := by omega
                generalize line[k] = q at *
                obtain ⟨r, ps, ss', hst⟩ : ∃ r ps ss', stepP ds ss q = (r, ps, ss') := ⟨_, _, _, rfl⟩
                have HMQ := Lib.hid (show 0 ≤ q.2.2.2.1 ∧ q.2.2.2.1 < ds.length by have := HFQ.out; unfold fitsP at this; simp only [Bool.and_eq_true, decide_eq_true_eq] at this; exact this.1)
                have HST := Lib.hid hst
                have HG2 := Lib.hid (show OGood mla ss' from by
                  have h1 := stepP_good (q := q) HG.out
                  rwa [HMA.out, hst] at h1)
                clear hst
                go_wp2_with fail
                refine (V.out.on1x (Sep.framed OwnS.framed Blk.framed) (Px := fun vp => Sep (OwnS ga sd n mla ss' (line.drop (k + 1)) false) (fun S w => OwS ePair 50 S w vp ps)) (E := fun vp e => e = .returned (.tuple #[repV q r vp, .bool true])) (fun _ => Sep.framed OwnS.framed OwS.framed) fun A hA => step_any hA HG.out (by rw [HLA.out]; exact HMQ.out) (by rw [HMA.out]; exact HST.out)).mono ?_
                rintro e w11 ⟨va, rfl, h11⟩
                have H11 := Lib.hid (show Upd (Sep (OwnS ga sd n mla ss' (line.drop (k + 1)) false) (Sep (OwnS gb sd n mlb ss0 [] false) (Blk bd (shO sd n (.slice am ds.length cm))))) (fun _ => False) w w11 from h11.imp fun _ h => h.imp (fun _ h => h.left OwnS.framed) fun _ h => h)
                clear h11 V
                go_wp2_with fail
                refine ⟨⟨k + 1, ss', by omega, by simp, HG2, H11⟩, ?_⟩
                first | omega | (simp only [intOf]; omega)
              · have HV := Lib.hid V.out
                generalize line.drop k = line2 at *
                clear V
                go_wp2_with fail
                go_loopw [14, 15, 16, 17, 18, 19, 20, 21, 22, 23] (fun t14 _ _ _ _ _ _ _ _ _ wr => ∃ m : Nat, m ≤ ds.length ∧ t14 = .int .i64 m ∧ Hid (Upd (Sep (OwnS ga sd n mla ss line2 false) (Sep (OwnS gb sd n mlb ss0 [] false) (Blk bd (shO sd n (.slice am ds.length cm))))) (fun _ => False) w wr)) (fun t14 _ _ _ _ _ _ _ _ _ _ => ds.length - (intOf t14).toNat)
                case atStart => exact ⟨0, Nat.zero_le _, rfl, HV⟩
                case round =>
                  clear HV
                  obtain ⟨m, hm, rfl, V⟩ := hrel
                  obtain ⟨_, hz⟩ := V.out.getR
                  have hbk := hz.right Blk.framed
                  have b2 : wr.cell? ⟨bd, 2, none⟩ = some (.slice am ds.length cm) := blk_cell hbk.1 2
                  clear hz hbk
                  by_cases hmd : m < ds.length
                  · have hms : m < ss.length := by rw [← HG.out.len, HLA.out]; exact hmd
                    have hms0 : m < ss0.length := by rw [← HGB.out.len, HLB.out]; exact hmd
                    have HZ0 := Lib.hid (show ss0[m].1 = [] from HSS.out m hms0)
                    have hb1 := (HG.out.good m (by rw [HLA.out]; exact hmd) hms).len
                    have hi1 : (m : Int) < (ds.length : Int) := by omega
                    go_wp2_with fail
                    obtain ⟨_, hA⟩ := V.out.getL
                    refine (V.out.callNew (Sep.framed OwnS.framed (Sep.framed OwnS.framed Blk.framed)) (Yx := fun v S w => OwS ePair 50 S w v ss[m].1) (E := fun v e => e = .returned (.tuple #[v, .int .i64 0])) (fun _ => OwS.framed) (opairs_ok hA HG.out m hms)).mono ?_
                    rintro e wb1 ⟨vp, rfl, h1⟩
                    obtain ⟨_, ⟨⟨_, ap, cp, rfl, _⟩, _⟩⟩ := h1.getR
                    have HP1 := Lib.hid h1
                    clear h1 hA V b2
                    go_wp2_with fail
                    obtain ⟨_, hz⟩ := HP1.out.getL
                    have hA := hz.left OwnS.framed
                    refine (HP1.out.callNew (Sep.framed (Sep.framed OwnS.framed (Sep.framed OwnS.framed Blk.framed)) OwS.framed) (Yx := fun v S w => OwS ePair 50 S w v ss[m].1) (E := fun v e => e = .returned (.tuple #[v, .int .i64 0])) (fun _ => OwS.framed) (opairs_ok hA HG.out m hms)).mono ?_
                    rintro e wb2 ⟨vq, rfl, h2⟩
                    obtain ⟨_, ⟨⟨_, aq, cq, rfl, _⟩, _⟩⟩ := h2.getR
                    have HP2 := Lib.hid (show Upd (Sep (Sep (Sep (OwnS ga sd n mla ss line2 false) (Sep (OwnS gb sd n mlb ss0 [] false) (Blk bd (shO sd n (.slice am ds.length cm))))) (fun S w => OwS ePair 50 S w (.slice aq ss[m].1.length cq) ss[m].1)) (fun S w => OwS ePair 50 S w (.slice ap ss[m].1.length cp) ss[m].1)) (fun _ => False) w wb2 from h2.imp fun _ h => (h.assoc.imp (fun _ h => h) fun _ h => h.swap).assoc')
                    clear h2 hz hA HP1
                    obtain ⟨N, hNN⟩ : ∃ N, N = ss[m].1.length := ⟨_, rfl⟩
                    have HN := Lib.hid hNN
                    rw [← hNN] at HP2 hb1 ⊢
                    clear hNN
                    go_wp2_with fail
                    go_loopw [19] (fun t19 wr => ∃ (i : Nat) (zs : List PairD), i ≤ N ∧ zs.length = N ∧ t19 = .int .i64 i ∧ Hid (Upd (Sep (Sep (Sep (OwnS ga sd n mla ss line2 false) (Sep (OwnS gb sd n mlb ss0 [] false) (Blk bd (shO sd n (.slice am ds.length cm))))) (fun S w => OwS ePair 50 S w (.slice aq N cq) ss[m].1)) (fun S w => OwS ePair 50 S w (.slice ap N cp) zs)) (fun _ => False) w wr)) (fun t19 _ => N - (intOf t19).toNat)
                    case atStart => exact ⟨0, _, Nat.zero_le _, HN.out.symm, rfl, HP2⟩
                    case round =>
                      clear HP2
                      obtain ⟨i, zs, hi, hzl, rfl, V⟩ := hrel
                      by_cases hil : i < N
                      · obtain ⟨D, hD, hb⟩ := V.out.1.focusR (Sep.framed (Sep.framed OwnS.framed (Sep.framed OwnS.framed Blk.framed)) OwS.framed)
                        obtain ⟨pb, po, rfl, HTH⟩ := pairs_there hD i (by omega)
                        obtain ⟨hos, hO3⟩ := hD.store i (by omega) ((9999, 0) : PairD)
                        have HV2 := Lib.hid (V.out.step (Sep.framed (Sep.framed (Sep.framed OwnS.framed (Sep.framed OwnS.framed Blk.framed)) OwS.framed) OwS.framed) (hb (fun S w => OwS ePair 50 S w _ (zs.set i (9999, 0))) _ OwS.framed ⟨OwS.framed.mono _ _ _ hos fun k _ h => .inl h, hO3⟩))
                        have HZ := Lib.hid (show (zs.set i ((9999, 0) : PairD)).length = N by simpa using hzl)
                        have hi0 : (0 : Int) ≤ (i : Int) := by omega
                        have hi1 : (i : Int) < (N : Int) := by omega
                        clear hD hb hos hO3 V
                        obtain ⟨wz, hwz⟩ : ∃ wz, wz = wr.setCells pb (po + i * 2) (#[.int .u64 9999, .int .u64 0] : Array Value).toList := ⟨_, rfl⟩
                        have HV3 := Lib.hid (show Upd (Sep (Sep (Sep (OwnS ga sd n mla ss line2 false) (Sep (OwnS gb sd n mlb ss0 [] false) (Blk bd (shO sd n (.slice am ds.length cm))))) (fun S w => OwS ePair 50 S w (.slice aq N cq) ss[m].1)) (fun S w => OwS ePair 50 S w (.slice (some ⟨pb, po, none⟩) N cp) (zs.set i (9999, 0)))) (fun _ => False) w wz from by rw [hwz]; exact HV2.out)
                        have HWZ := Lib.hid hwz
                        clear hwz HV2
                        go_wp2_with (refine wpList_store_mid rfl 50 (.tmp 154) (.tmp 153) rfl pb (po + i * 2) #[.int .u64 9999, .int .u64 0] rfl rfl HTH.out (by kernel_rfl) (by simp [Value.oneCell']) ?_; rw [← HWZ.out])
                        try simp only [Exit.inBlock, Exit.then]
                        try go_wp2_with fail
                        refine ⟨⟨i + 1, _, by omega, HZ.out, by simp, HV3⟩, ?_⟩
                        first | omega | (simp only [intOf]; omega)
                      · have HW := Lib.hid (V.out.drop (Sep.framed (Sep.framed OwnS.framed (Sep.framed OwnS.framed Blk.framed)) OwS.framed))
                        clear V
                        go_wp2_with fail
                        obtain ⟨_, hz⟩ := HW.out.getL
                        have hA := hz.left OwnS.framed
                        refine (HW.out.callNew (Sep.framed (Sep.framed OwnS.framed (Sep.framed OwnS.framed Blk.framed)) OwS.framed) (Yx := fun v S w => OwS ePair 50 S w v ss[m].1) (E := fun v e => e = .returned (.tuple #[v, .int .i64 0])) (fun _ => OwS.framed) (opairs_ok hA HG.out m hms)).mono ?_
                        rintro e wc1 ⟨vr, rfl, h1⟩
                        have HR1 := Lib.hid h1
                        clear h1 hz hA HW
                        go_wp2_with fail
                        obtain ⟨_, hz⟩ := HR1.out.getA
                        have hB := (hz.right (Sep.framed OwnS.framed Blk.framed)).left OwnS.framed
                        refine (HR1.out.callNew (Sep.framed (Sep.framed (Sep.framed OwnS.framed (Sep.framed OwnS.framed Blk.framed)) OwS.framed) OwS.framed) (Yx := fun v S w => OwS ePair 50 S w v ([] : List PairD)) (E := fun v e => e = .returned (.tuple #[v, .int .i64 0])) (fun _ => OwS.framed) (by have := opairs_ok hB HGB.out m hms0; rwa [HZ0.out] at this)).mono ?_
                        rintro e wc2 ⟨vn, rfl, h2⟩
                        obtain ⟨_, ⟨⟨_, an, cn, rfl, _⟩, _⟩⟩ := h2.getR
                        have HR2 := Lib.hid (h2.drop (Sep.framed (Sep.framed (Sep.framed OwnS.framed (Sep.framed OwnS.framed Blk.framed)) OwS.framed) OwS.framed))
                        clear h2 hz hB HR1
                        go_wp2_with fail
                        obtain ⟨_, ha1⟩ := HR2.out.getR
                        obtain ⟨_, hb1⟩ := HR2.out.getB
                        refine (HR2.out.callRead (Sep.framed (Sep.framed (Sep.framed OwnS.framed (Sep.framed OwnS.framed Blk.framed)) OwS.framed) OwS.framed) (E := fun e => e = .returned (.bool true)) (pairs_eq ss[m].1 _ _ _ hb1.rd ha1.rd)).mono ?_
                        rintro e wc3 ⟨rfl, h3⟩
                        have HR3 := Lib.hid (show Upd (Sep (OwnS ga sd n mla ss line2 false) (Sep (OwnS gb sd n mlb ss0 [] false) (Blk bd (shO sd n (.slice am ds.length cm))))) (fun _ => False) w wc3 from h3.imp fun _ h => (h.left (Sep.framed (Sep.framed OwnS.framed (Sep.framed OwnS.framed Blk.framed)) OwS.framed)).left (Sep.framed OwnS.framed (Sep.framed OwnS.framed Blk.framed)))
                        clear h3 ha1 hb1 HR2
                        go_wp2_with fail
                        refine ⟨⟨m + 1, by omega, by simp, HR3⟩, ?_⟩
                        first | omega | (simp only [intOf]; omega)
                  · go_wp2_with fail
                    go_ret
                    exact ⟨rfl, V.out.2⟩
end Go.Proofs.Ytdlkblklfoagbaa
