/- owner: the document's owner, New (printed by rownnew.py). -/
import Derived.Test.YtdlkblklfoagbaaOwnNew
namespace Go.Proofs.Ytdlkblklfoagbaa
open Go.RowKit
set_option linter.unusedVariables false
set_option linter.unusedSimpArgs false

structure ROGood (ml : List MRSh) (ss : List RSt) : Prop where
  len : ml.length = ss.length
  n4 : ml.length ≤ 4
  bd : ∀ m ∈ ml, m.1.bd = decide (m.2.1 = 1)
  good : ∀ (i : Nat) (h1 : i < ml.length) (h2 : i < ss.length), SGood ml[i].1.bd ml[i].2.2 ss[i].1
abbrev rz0 : RSt := (([], []), 0)
def RNewOk (g : Nat) (sd n : Int) (ds : List DefD) (S : Nat → Prop) (w : World) : Prop := ∃ ml, ROGood ml (List.replicate ds.length rz0) ∧ ml.map (·.2) = ds ∧ ROwnS g sd n ml (List.replicate ds.length rz0) [] 0 false S w
theorem RNewOk.framed {g : Nat} {sd n : Int} {ds : List DefD} : Framed (RNewOk g sd n ds) := Framed.ex fun _ => Framed.and (Framed.pure _) (Framed.and (Framed.pure _) ROwnS.framed)
def RNewPost (sd n : Int) (ds : List DefD) (w : World) (e : Ending) (w' : World) : Prop :=
  (okOwn sd n ds = false ∧ e = .returned (.tuple #[.pointer none, .int .i64 2]) ∧ Only (fun _ => False) w w') ∨
  (okOwn sd n ds = true ∧ ∃ g, e = .returned (.tuple #[.pointer (some ⟨g, 0, none⟩), .int .i64 0]) ∧ RNewOk g sd n ds (fun k => w.heap.size ≤ k) w' ∧ Only (fun _ => False) w w')
theorem rnew_early {sd n : Int} {ds : List DefD} {w w' : World} {e : Ending} (h : ¬ (((1 ≤ n ∧ n ≤ 4) ∧ (0 ≤ sd ∧ sd < n)) ∧ ds.length ≤ 4)) (he : e = .returned (.tuple #[.pointer none, .int .i64 2])) (ho : Only (fun _ => False) w w') : RNewPost sd n ds w e w' :=
  .inl ⟨Bool.eq_false_iff.2 fun hh => h ⟨(okOwn_iff.1 hh).1, (okOwn_iff.1 hh).2.1⟩, he, ho⟩
set_option maxRecDepth 100000 in
set_option maxHeartbeats 8000000 in
theorem rnew_any (sd n : Int) (ds : List DefD) (v : Value) (w : World) (hr : Rd eDef w v ds) :
    Calls Try.prog 16 #[.int .i64 sd, .int .i64 n, v] w (RNewPost sd n ds w) := by
  obtain ⟨hmx, ao, c, rfl, hcap, _, hx⟩ := id hr
  unfold maxLen at hmx
  have HR := Lib.hid hr
  have HX := Lib.hid hx
  clear hr hx
  by_cases a1 : n < 1
  · have HE := Lib.hid (fun w' e he ho => rnew_early (sd := sd) (n := n) (ds := ds) (w := w) (w' := w') (e := e) (by omega) he ho)
    go_enter Try.func16, Try.ntmps16
    go_wp2_with fail
    go_ret2
    exact HE.out _ _ rfl (Only.refl _ _)
  by_cases a2 : 4 < n
  · have HE := Lib.hid (fun w' e he ho => rnew_early (sd := sd) (n := n) (ds := ds) (w := w) (w' := w') (e := e) (by omega) he ho)
    go_enter Try.func16, Try.ntmps16
    go_wp2_with fail
    go_ret2
    exact HE.out _ _ rfl (Only.refl _ _)
  by_cases a3 : sd < 0
  · have HE := Lib.hid (fun w' e he ho => rnew_early (sd := sd) (n := n) (ds := ds) (w := w) (w' := w') (e := e) (by omega) he ho)
    go_enter Try.func16, Try.ntmps16
    go_wp2_with fail
    go_ret2
    exact HE.out _ _ rfl (Only.refl _ _)
  by_cases a4 : n ≤ sd
  · have HE := Lib.hid (fun w' e he ho => rnew_early (sd := sd) (n := n) (ds := ds) (w := w) (w' := w') (e := e) (by omega) he ho)
    go_enter Try.func16, Try.ntmps16
    go_wp2_with fail
    go_ret2
    exact HE.out _ _ rfl (Only.refl _ _)
  by_cases a5 : (4 : Int) < (ds.length : Int)
  · have HE := Lib.hid (fun w' e he ho => rnew_early (sd := sd) (n := n) (ds := ds) (w := w) (w' := w') (e := e) (by omega) he ho)
    go_enter Try.func16, Try.ntmps16
    go_wp2_with fail
    go_ret2
    exact HE.out _ _ rfl (Only.refl _ _)
  have a4b : ¬ sd ≥ n := by omega
  have HOK := Lib.hid (show ((1 ≤ n ∧ n ≤ 4) ∧ (0 ≤ sd ∧ sd < n)) ∧ ds.length ≤ 4 by omega)
  go_enter Try.func16, Try.ntmps16
  go_wp2_with fail
  have HU0 := Lib.hid (show Upd (ROwnV w.heap.size sd n (.slice none 0 0) (.slice none 0 0) [] [] [] 0 false) (fun _ => False) w (w.alloc (.cells (rownC sd n (.slice none 0 0) (.slice none 0 0) 0 false) 66 (0, 0))) from
    ⟨⟨fun k => k = w.heap.size, fun _ => False, fun _ _ h => h, fun k h => .inr (by omega), fun _ h => h.elim, ⟨heap_alloc_new _ _, rfl, OwS.nil _ _, OwS.nil _ _⟩, trivial⟩, Only.alloc _ _ _⟩)
  generalize World.alloc w _ = wa at *
  generalize w.heap.size = g at *
  go_loopw [9, 10, 11] (fun t9 _ _ wr => ∃ (k : Nat) (ml : List MRSh), k ≤ ds.length ∧ t9 = .int .i64 k ∧ Hid (((ds.take k).all fun d => okDef d.1 d.2) = true) ∧ Hid (ROGood ml (List.replicate k rz0) ∧ ml.map (·.2) = ds.take k) ∧ Hid (∃ vm, Upd (ROwnV g sd n vm (.slice none 0 0) ml (List.replicate k rz0) [] 0 false) (fun _ => False) w wr)) (fun t9 _ _ _ => ds.length - (intOf t9).toNat)
  case atStart => exact ⟨0, [], Nat.zero_le _, rfl, Lib.hid rfl, Lib.hid ⟨⟨rfl, by decide, fun _ h => by simp at h, fun i h => by simp at h⟩, rfl⟩, Lib.hid ⟨_, HU0.out⟩⟩
  case round =>
    clear HU0
    obtain ⟨k, ml, hk, rfl, HAL, HG, V0⟩ := hrel
    obtain ⟨vm, hV⟩ := V0.out
    have V := Lib.hid hV
    clear V0 hV
    by_cases hlt : k < ds.length
    · obtain ⟨sb, off, rfl, hc⟩ := HX.out (by omega)
      obtain ⟨c0, c1⟩ := def_cells2 hc k hlt
      replace c0 := only_cell V.out.2 c0
      replace c1 := only_cell V.out.2 c1
      have hi0 : (0 : Int) ≤ (k : Int) := by omega
      have hi1 : (k : Int) < (ds.length : Int) := by omega
      have HTK := Lib.hid (show ds.take (k + 1) = ds.take k ++ [ds[k]] from (List.take_append_getElem hlt).symm)
      have HIN := Lib.hid (List.getElem_mem hlt)
      clear hc
      generalize ds[k] = d at *
      obtain ⟨kind, cap⟩ := d
      dsimp only at c0 c1
      have VA := Lib.hid V.out
      cases hok : okDef kind cap with
      | false =>
        have HE := Lib.hid (fun (w' : World) e he ho => (show RNewPost sd n ds w e w' from .inl ⟨Bool.eq_false_iff.2 fun hh => (by have := List.all_eq_true.1 (okOwn_iff.1 hh).2.2 _ HIN.out; simp only [hok] at this; cases this), he, ho⟩))
        have HM := Lib.hid (fun w => refMake_bad kind cap w hok)
        clear hok
        go_wp2_with fail
        refine (HM.out _).mono ?_
        rintro e w1 ⟨rfl, ho⟩
        have HO1 := Lib.hid (VA.out.2.tr ho)
        clear ho c0 c1
        go_wp2_with fail
        go_ret2
        exact HE.out _ _ rfl HO1.out
      | true =>
        have HSG := Lib.hid (show SGood (decide (kind = 1)) cap ([], []) by obtain ⟨_, h1, h2⟩ := okDef_iff.1 hok; exact sgood_nil h1 h2)
        have HAL2 := Lib.hid (show ((ds.take (k + 1)).all fun d => okDef d.1 d.2) = true by rw [HTK.out, List.all_append, HAL.out]; simpa using hok)
        have HM := Lib.hid (fun w => refMake_ok kind cap w hok)
        clear hok
        go_wp2_with fail
        refine (VA.out.callNew ROwnV.framed (Yx := fun a S w => a.bd = decide (kind = 1) ∧ RShardS a cap ([], []) 0 S w) (E := fun a e => e = .returned (.tuple #[.pointer (some ⟨a.rs, 0, none⟩), .int .i64 0])) (fun _ => Framed.and (Framed.pure _) RShardS.framed) (HM.out _)).mono ?_
        rintro e w1 ⟨a, rfl, hU⟩
        have HBD := Lib.hid (show a.bd = decide (kind = 1) by obtain ⟨_, h, _⟩ := hU.getR; exact h)
        have HU := Lib.hid (show Upd (Sep (Obj2 eRSh eReq 66 63 37 (rownC sd n vm (.slice none 0 0) 0 false) g vm (.slice none 0 0) (ml.map (·.1)) []) (Sep (SepL (rownL ml (List.replicate k rz0))) (RShardS a cap ([], []) 0))) (fun _ => False) w w1 from hU.imp fun _ h => (h.imp (fun _ h => h) fun _ h => h.2).assoc)
        have HML := Lib.hid (show ml.length = k by have := HG.out.1.len; simpa using this)
        clear hU VA c0 c1
        obtain ⟨A, hA, ha⟩ := HU.out.1.focus (Sep.framed rownL_framed RShardS.framed)
        have HBK : Hid (∀ v1 w', Upd (Obj2 eRSh eReq 66 63 37 (rownC sd n v1 (.slice none 0 0) 0 false) g v1 (.slice none 0 0) (ml.map (·.1) ++ [a]) []) A w1 w' → Upd (ROwnV g sd n v1 (.slice none 0 0) (ml ++ [(a, (kind, cap))]) (List.replicate (k + 1) rz0) [] 0 false) (fun _ => False) w w') := Lib.hid fun v1 w' hu =>
          (HU.out.step (Sep.framed Obj2.framed (Sep.framed rownL_framed RShardS.framed)) (ha _ w' Obj2.framed hu)).imp fun _ h => h.imp (fun _ h => by simpa using h) fun _ h => by
            have := SepL.snoc h
            rw [show RShardS a cap ([], []) 0 = (fun (m : MRSh) (s : RSt) => RShardS m.1 m.2.2 s.1 s.2) (a, (kind, cap)) rz0 from rfl] at this
            rw [rownL, zw_snoc (by simpa using HML.out), ← List.replicate_succ'] at this
            exact this
        have hg := hA.1
        have c2 : w1.cell? ⟨g, 2, none⟩ = some vm := blk_cell hg 2
        have hll : ml.length ≤ 4 := by have := HML.out; have := HOK.out; omega
        have HOW := Lib.hid (show OwS eRSh 63 (fun k => vm.ownBlock = some k) (w1.alloc (.cells #[.pointer (some ⟨a.rs, 0, none⟩)] 63 (0, 0))) vm (ml.map (·.1)) from OwS.framed.alloc ⟨hA.2.2.1.1, fun _ h => h⟩ _)
        have HRD := Lib.hid (Rd.lit (E := eRSh) w1 #[.pointer (some ⟨a.rs, 0, none⟩)] 63 (0, 0) 1 1 [a] rfl rfl (Nat.le_refl _) (by decide))
        have HGR := Lib.hid (fun (v2 : Value) (w2 : World) h1 h2 => hA.grow1 (v1' := v2) (w2 := w2) (xs' := ml.map (·.1) ++ [a]) (by decide) (by decide) (by decide) (Only.alloc (fun _ => False) w1 (.cells #[.pointer (some ⟨a.rs, 0, none⟩)] 63 (0, 0))) h1 h2 2 (c' := rownC sd n v2 (.slice none 0 0) 0 false) rfl)
        have hml : (ml.map (·.1)).length ≤ 4 := by simpa using hll
        clear ha hA hg
        go_wp2_with (at_builtin; refine wl_appendS (E := eRSh) rfl _ (.tmp 58) _ rfl 63 8 eRSh_slice _ _ (ml.map (·.1)) rfl HOW.out _ [a] rfl HRD.out (by simp only [List.length_cons, List.length_nil]; omega) (by unfold maxLen; simp only [List.length_cons, List.length_nil]; omega) ?_)
        intro v2 w2 hown2 hO2
        obtain ⟨hg2, hU2⟩ := HGR.out v2 w2 (OwS.framed.mono _ _ _ hown2 fun k _ h => by simpa using h) hO2
        have d2 : w2.cell? ⟨g, 2, none⟩ = some vm := blk_cell hg2 2
        have f2 := frozen_of_row w2 g 2 _ _ hg2
        have HV2 := Lib.hid (HBK.out v2 _ hU2)
        have HG2 := Lib.hid (show ROGood (ml ++ [(a, (kind, cap))]) (List.replicate (k + 1) rz0) ∧ (ml ++ [(a, (kind, cap))]).map (·.2) = ds.take (k + 1) from by
          refine ⟨⟨by simp [HML.out], by simp [HML.out]; have := HOK.out; omega, fun m hm => ?_, fun i h1 h2 => ?_⟩, by rw [HTK.out, List.map_append, HG.out.2]; rfl⟩
          · rcases List.mem_append.1 hm with hm | hm
            · exact HG.out.1.bd m hm
            · rw [List.mem_singleton.1 hm]; exact HBD.out
          · simp only [List.getElem_replicate]
            by_cases hi : i < ml.length
            · rw [List.getElem_append_left hi]
              have := HG.out.1.good i hi (by simpa using by rw [← HML.out]; exact hi)
              simpa using this
            · rw [List.getElem_append_right (by omega)]
              simp only [List.getElem_singleton]
              rw [HBD.out]; exact HSG.out)
        obtain ⟨a2, n2, c3, rfl⟩ := hown2.shape'
        clear hg2 hU2 hown2 hO2 HGR HOW HRD HBK HU
        go_wp2_with fail
        refine ⟨⟨k + 1, _, by omega, by simp, HAL2, HG2, Lib.hid ⟨_, HV2.out⟩⟩, ?_⟩
        first | omega | (simp only [intOf]; omega)
    · obtain rfl : k = ds.length := by omega
      go_wp2_with fail
      go_ret2
      refine .inr ⟨okOwn_iff.2 ⟨HOK.out.1, HOK.out.2, by have := HAL.out; rwa [List.take_length] at this⟩, g, rfl, ⟨ml, HG.out.1, by have := HG.out.2; rwa [List.take_length] at this, ?_⟩, V.out.2⟩
      exact ROwnS.framed.mono _ _ _ (V.out.1.plain) fun _ _ h => h.elim False.elim id
end Go.Proofs.Ytdlkblklfoagbaa
