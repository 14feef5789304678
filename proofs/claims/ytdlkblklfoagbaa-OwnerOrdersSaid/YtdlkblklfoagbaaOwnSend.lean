/- owner: Send. -/
import Derived.Test.YtdlkblklfoagbaaOwnFits
namespace Go.Proofs.Ytdlkblklfoagbaa
open Go.RowKit
set_option linter.unusedVariables false
set_option linter.unusedSimpArgs false

theorem req_cells {w : World} {b off : Nat} {xs : List ReqD} (hc : ∀ j u, (eReq.all xs)[j]? = some u → w.cell? ⟨b, off + j, none⟩ = some u) (k : Nat) (h : k < xs.length) :
    w.cell? ⟨b, off + k * 7, none⟩ = some (.int .i64 xs[k].1) ∧ w.cell? ⟨b, off + k * 7 + 1, none⟩ = some (.int .i64 xs[k].2.1) ∧ w.cell? ⟨b, off + k * 7 + 2, none⟩ = some (.bool xs[k].2.2.1) ∧ w.cell? ⟨b, off + k * 7 + 3, none⟩ = some (.int .i64 xs[k].2.2.2.1) ∧ w.cell? ⟨b, off + k * 7 + 4, none⟩ = some (.int .i64 xs[k].2.2.2.2.1) ∧ w.cell? ⟨b, off + k * 7 + 5, none⟩ = some (.int .u64 xs[k].2.2.2.2.2.1) ∧ w.cell? ⟨b, off + k * 7 + 6, none⟩ = some (.int .u64 xs[k].2.2.2.2.2.2) := by
  have e : ∀ j (hj : j < 7), w.cell? ⟨b, off + k * 7 + j, none⟩ = some ((eReq.cells xs[k])[j]'(by rw [eReq.len]; exact hj)) := fun j hj => by
    rw [show off + k * 7 + j = off + (k * 7 + j) by omega]
    exact hc _ _ ((eReq.all_at xs k j h hj).trans (List.getElem?_eq_getElem (by rw [eReq.len]; exact hj)))
  exact ⟨e 0 (by decide), e 1 (by decide), e 2 (by decide), e 3 (by decide), e 4 (by decide), e 5 (by decide), e 6 (by decide)⟩
theorem all_take_succ {p : ReqD → Bool} {xs : List ReqD} {k : Nat} (h : k < xs.length) : (xs.take (k + 1)).all p = ((xs.take k).all p && p xs[k]) := by
  rw [← List.take_append_getElem h, List.all_append]
  simp
set_option maxRecDepth 100000 in
set_option maxHeartbeats 8000000 in
theorem send_ {T : Nat → Prop} {w : World} {g : Nat} {sd n : Int} {ml : List MSh} {ss : List Sh} {line : List ReqD} {en : Bool} {v : Value} {qs : List ReqD} (hT : OwnS g sd n ml ss line en T w) (hn : n ≤ 4) (hr : Rd eReq w v qs)
    (hb : (5 * (line.length + qs.length) + 2816) * 56 ≤ 1125899906842624) :
    Calls Try.prog 9 #[.pointer (some ⟨g, 0, none⟩), v] w fun e w' => e = .returned (.int .i64 (sendP sd n ml.length en line qs).1) ∧ Upd (OwnS g sd n ml ss (sendP sd n ml.length en line qs).2 en) T w w' := by
  obtain ⟨hmx, ao, c, rfl, hcap, _, hx⟩ := id hr
  obtain ⟨vm, vl, hV⟩ := hT
  obtain ⟨⟨am, cm, rfl⟩, ⟨al, cl, rfl⟩⟩ := hV.shapes
  have hg := hV.obj.1
  have g0 : w.cell? ⟨g, 0, none⟩ = some (.int .i64 sd) := blk_cell hg 0
  have g1 : w.cell? ⟨g, 1, none⟩ = some (.int .i64 n) := blk_cell hg 1
  have g2 : w.cell? ⟨g, 2, none⟩ = some (.slice am ml.length cm) := blk_cell hg 2
  have g3 : w.cell? ⟨g, 3, none⟩ = some (.slice al line.length cl) := blk_cell hg 3
  have g4 : w.cell? ⟨g, 4, none⟩ = some (.bool en) := blk_cell hg 4
  have HV := Lib.hid hV
  have HR := Lib.hid hr
  have HX := Lib.hid hx
  have HB := Lib.hid hb
  have HG0 := Lib.hid g0
  have HG1 := Lib.hid g1
  have HG2 := Lib.hid g2
  unfold maxLen at hmx
  clear hV hr hx hg hb g0 g1 g2
  cases en with
  | true =>
    go_enter Try.func9, Try.ntmps9
    go_wp2_with fail
    go_ret
    exact ⟨rfl, Upd.refl OwnS.framed HV.out.plain⟩
  | false =>
    have hbl : qs.length ≤ 4611686018427387904 := by have := HB.out; omega
    go_enter Try.func9, Try.ntmps9
    go_wp2_with fail
    go_loopw [13, 6] (fun t13 _ wr => ∃ k : Nat, k ≤ qs.length ∧ t13 = .int .i64 k ∧ Hid ((qs.take k).all (fitsP sd n ml.length) = true) ∧ Hid (Only (fun _ => False) w wr)) (fun t13 _ _ => qs.length - (intOf t13).toNat)
    case atStart => exact ⟨0, Nat.zero_le _, rfl, Lib.hid rfl, Lib.hid (Only.refl _ _)⟩
    case round =>
      obtain ⟨k, hk, rfl, HF, V⟩ := hrel
      replace g3 := only_cell V.out g3
      by_cases hlt : k < qs.length
      · obtain ⟨sb, off, rfl, hc⟩ := HX.out (by omega)
        obtain ⟨c0, c1, c2, c3, c4, c5, c6⟩ := req_cells hc k hlt
        replace c0 := only_cell V.out c0
        replace c1 := only_cell V.out c1
        replace c2 := only_cell V.out c2
        replace c3 := only_cell V.out c3
        replace c4 := only_cell V.out c4
        replace c5 := only_cell V.out c5
        replace c6 := only_cell V.out c6
        have hi0 : (0 : Int) ≤ (k : Int) := by omega
        have hi1 : (k : Int) < (qs.length : Int) := by omega
        have HAS := Lib.hid (all_take_succ (p := fitsP sd n ml.length) hlt)
        have HIN := Lib.hid (List.getElem_mem hlt)
        clear hc
        generalize qs[k] = q at *
        obtain ⟨fr, tg, wk, mp, op, dk, dv⟩ := q
        dsimp only at c0 c1 c2 c3 c4 c5 c6
        have HO2 := Lib.hid (V.out.tr (Only.alloc (fun _ => False) wr (reqO fr tg wk mp op dk dv)))
        have HC := Lib.hid (fits_c g sd n am ml.length cm fr tg wk mp op dk dv (wr.alloc (reqO fr tg wk mp op dk dv)) hn (only_cell HO2.out HG0.out) (only_cell HO2.out HG1.out) (only_cell HO2.out HG2.out))
        go_wp2_with fail
        refine HC.out.mono ?_
        rintro e w1 ⟨rfl, ho⟩
        have HO3 := Lib.hid (HO2.out.tr ho)
        clear ho HC
        cases hf : fitsP sd n ml.length (fr, tg, wk, mp, op, dk, dv) with
        | false =>
          have HNO := Lib.hid (show qs.all (fitsP sd n ml.length) = false from Bool.eq_false_iff.2 fun h => by have := List.all_eq_true.1 h _ HIN.out; rw [hf] at this; cases this)
          clear hf c0 c1 c2 c3 c4 c5 c6 V
          go_wp2_with fail
          go_ret
          unfold sendP
          rw [HNO.out]
          exact ⟨rfl, ((Upd.refl OwnV.framed HV.out).fresh OwnV.framed HO3.out).imp fun _ h => h.plain⟩
        | true =>
          have HF2 := Lib.hid (show (qs.take (k + 1)).all (fitsP sd n ml.length) = true by rw [HAS.out, HF.out, hf]; rfl)
          clear hf c0 c1 c2 c3 c4 c5 c6 V
          go_wp2_with fail
          refine ⟨⟨k + 1, by omega, by simp, HF2, HO3⟩, ?_⟩
          first | omega | (simp only [intOf]; omega)
      · obtain rfl : k = qs.length := by omega
        have HALL := Lib.hid (show qs.all (fitsP sd n ml.length) = true by have := HF.out; rwa [List.take_length] at this)
        obtain ⟨A, hA, hback⟩ := HV.out.own
        have HAo := Lib.hid (show OwS eReq 37 (fun k => (Value.slice al line.length cl).ownBlock = some k) wr (.slice al line.length cl) line from ⟨hA.2.2.2.1.only V.out fun _ _ h => h, fun _ h => h⟩)
        have HRr := Lib.hid (HR.out.only V.out)
        have HGR := Lib.hid (fun (v2 : Value) (w2 : World) (h1 : OwS eReq 37 (fun k => (Value.slice al line.length cl).ownBlock = some k ∨ wr.heap.size ≤ k) w2 v2 (line ++ qs)) (h2 : Only (fun k => (Value.slice al line.length cl).ownBlock = some k) wr w2) => hA.grow2 (by decide) (by decide) (by decide) V.out h1 h2 3 (c' := ownC sd n (.slice am ml.length cm) v2 false) rfl)
        have HBK := Lib.hid (fun (v2 : Value) w' => hback (.slice am ml.length cm) v2 (line ++ qs) false w')
        have hb := HB.out
        clear hA hback
        go_wp2_with (at_builtin; refine wl_appendS (E := eReq) rfl _ (.tmp 27) _ rfl 37 56 eReq_slice _ _ line rfl HAo.out _ qs rfl HRr.out hb (by unfold maxLen; omega) ?_)
        intro v2 w2 hown2 hO2
        obtain ⟨hg2, hU2⟩ := HGR.out v2 w2 hown2 hO2
        have d3 : w2.cell? ⟨g, 3, none⟩ = some (.slice al line.length cl) := blk_cell hg2 3
        have f3 := frozen_of_row w2 g 3 _ _ hg2
        have HV2 := Lib.hid (HBK.out v2 _ hU2)
        obtain ⟨a2, n2, c2, rfl⟩ := hown2.shape'
        clear hg2 hU2 hown2 hO2 HGR HAo HRr HBK hb
        go_wp2_with fail
        go_ret
        unfold sendP
        rw [HALL.out]
        exact ⟨rfl, HV2.out.imp fun _ h => h.plain⟩
end Go.Proofs.Ytdlkblklfoagbaa
