/- owner: New. -/
import Derived.Test.YtdlkblklfoagbaaOwn
namespace Go.Proofs.Ytdlkblklfoagbaa
open Go.RowKit
set_option linter.unusedVariables false
set_option linter.unusedSimpArgs false

/-- what makes an owner -/
def okOwn (sd n : Int) (ds : List DefD) : Bool := ((decide (1 ≤ n) && decide (n ≤ 4)) && (decide (0 ≤ sd) && decide (sd < n))) && (decide (ds.length ≤ 4) && ds.all fun d => okDef d.1 d.2)
theorem okOwn_iff {sd n : Int} {ds : List DefD} : okOwn sd n ds = true ↔ ((1 ≤ n ∧ n ≤ 4) ∧ (0 ≤ sd ∧ sd < n)) ∧ ds.length ≤ 4 ∧ (ds.all fun d => okDef d.1 d.2) = true := by unfold okOwn; simp only [Bool.and_eq_true, decide_eq_true_eq]
abbrev z0 : Sh := ([], [])
def NewOk (g : Nat) (sd n : Int) (ds : List DefD) (S : Nat → Prop) (w : World) : Prop := ∃ ml, OGood ml (List.replicate ds.length z0) ∧ ml.map (·.2) = ds ∧ OwnS g sd n ml (List.replicate ds.length z0) [] false S w
theorem NewOk.framed {g : Nat} {sd n : Int} {ds : List DefD} : Framed (NewOk g sd n ds) := Framed.ex fun _ => Framed.and (Framed.pure _) (Framed.and (Framed.pure _) OwnS.framed)
def NewPost (sd n : Int) (ds : List DefD) (w : World) (e : Ending) (w' : World) : Prop :=
  (okOwn sd n ds = false ∧ e = .returned (.tuple #[.pointer none, .int .i64 2]) ∧ Only (fun _ => False) w w') ∨
  (okOwn sd n ds = true ∧ ∃ g, e = .returned (.tuple #[.pointer (some ⟨g, 0, none⟩), .int .i64 0]) ∧ NewOk g sd n ds (fun k => w.heap.size ≤ k) w' ∧ Only (fun _ => False) w w')
theorem def_cells2 {w : World} {b off : Nat} {xs : List DefD} (hc : ∀ j u, (eDef.all xs)[j]? = some u → w.cell? ⟨b, off + j, none⟩ = some u) (k : Nat) (h : k < xs.length) :
    w.cell? ⟨b, off + k * 2, none⟩ = some (.int .i64 xs[k].1) ∧ w.cell? ⟨b, off + k * 2 + 1, none⟩ = some (.int .i64 xs[k].2) := by
  have e0 := eDef.all_at xs k 0 h (by decide)
  have e1 := eDef.all_at xs k 1 h (by decide)
  exact ⟨by have := hc _ _ e0; exact this, by rw [show off + k * 2 + 1 = off + (k * 2 + 1) by omega]; exact hc _ _ (by rw [e1]; rfl)⟩
abbrev dfO (kind cap : Int) : Obj := .cells #[.int .i64 kind, .int .i64 cap] 77 (0, 0)
theorem new_early {sd n : Int} {ds : List DefD} {w w' : World} {e : Ending} (h : ¬ (((1 ≤ n ∧ n ≤ 4) ∧ (0 ≤ sd ∧ sd < n)) ∧ ds.length ≤ 4)) (he : e = .returned (.tuple #[.pointer none, .int .i64 2])) (ho : Only (fun _ => False) w w') : NewPost sd n ds w e w' :=
  .inl ⟨Bool.eq_false_iff.2 fun hh => h ⟨(okOwn_iff.1 hh).1, (okOwn_iff.1 hh).2.1⟩, he, ho⟩
set_option maxRecDepth 100000 in
set_option maxHeartbeats 8000000 in
theorem new_any (sd n : Int) (ds : List DefD) (v : Value) (w : World) (hr : Rd eDef w v ds) :
    Calls Try.prog 8 #[.int .i64 sd, .int .i64 n, v] w (NewPost sd n ds w) := by
  obtain ⟨hmx, ao, c, rfl, hcap, _, hx⟩ := id hr
  unfold maxLen at hmx
  have HR := Lib.hid hr
  have HX := Lib.hid hx
  clear hr hx
  by_cases a1 : n < 1
  · have HE := Lib.hid (fun w' e he ho => new_early (sd := sd) (n := n) (ds := ds) (w := w) (w' := w') (e := e) (by omega) he ho)
    go_enter Try.func8, Try.ntmps8
    go_wp2_with fail
    go_ret2
    exact HE.out _ _ rfl (Only.refl _ _)
  by_cases a2 : 4 < n
  · have HE := Lib.hid (fun w' e he ho => new_early (sd := sd) (n := n) (ds := ds) (w := w) (w' := w') (e := e) (by omega) he ho)
    go_enter Try.func8, Try.ntmps8
    go_wp2_with fail
    go_ret2
    exact HE.out _ _ rfl (Only.refl _ _)
  by_cases a3 : sd < 0
  · have HE := Lib.hid (fun w' e he ho => new_early (sd := sd) (n := n) (ds := ds) (w := w) (w' := w') (e := e) (by omega) he ho)
    go_enter Try.func8, Try.ntmps8
    go_wp2_with fail
    go_ret2
    exact HE.out _ _ rfl (Only.refl _ _)
  by_cases a4 : n ≤ sd
  · have HE := Lib.hid (fun w' e he ho => new_early (sd := sd) (n := n) (ds := ds) (w := w) (w' := w') (e := e) (by omega) he ho)
    go_enter Try.func8, Try.ntmps8
    go_wp2_with fail
    go_ret2
    exact HE.out _ _ rfl (Only.refl _ _)
  by_cases a5 : (4 : Int) < (ds.length : Int)
  · have HE := Lib.hid (fun w' e he ho => new_early (sd := sd) (n := n) (ds := ds) (w := w) (w' := w') (e := e) (by omega) he ho)
    go_enter Try.func8, Try.ntmps8
    go_wp2_with fail
    go_ret2
    exact HE.out _ _ rfl (Only.refl _ _)
  have a4b : ¬ sd ≥ n := by omega
  have HOK := Lib.hid (show ((1 ≤ n ∧ n ≤ 4) ∧ (0 ≤ sd ∧ sd < n)) ∧ ds.length ≤ 4 by omega)
  go_enter Try.func8, Try.ntmps8
  go_wp2_with fail
  have HU0 := Lib.hid (show Upd (OwnV w.heap.size sd n (.slice none 0 0) (.slice none 0 0) [] [] [] false) (fun _ => False) w (w.alloc (.cells (ownC sd n (.slice none 0 0) (.slice none 0 0) false) 83 (0, 0))) from
    ⟨⟨fun k => k = w.heap.size, fun _ => False, fun _ _ h => h, fun k h => .inr (by omega), fun _ h => h.elim, ⟨heap_alloc_new _ _, rfl, OwS.nil _ _, OwS.nil _ _⟩, trivial⟩, Only.alloc _ _ _⟩)
  generalize World.alloc w _ = wa at *
  generalize w.heap.size = g at *
  go_loopw [39, 10, 11, 12] (fun t39 _ _ _ wr => ∃ (k : Nat) (ml : List MSh), k ≤ ds.length ∧ t39 = .int .i64 k ∧ Hid (((ds.take k).all fun d => okDef d.1 d.2) = true) ∧ Hid (OGood ml (List.replicate k z0) ∧ ml.map (·.2) = ds.take k) ∧ Hid (∃ vm, Upd (OwnV g sd n vm (.slice none 0 0) ml (List.replicate k z0) [] false) (fun _ => False) w wr)) (fun t39 _ _ _ _ => ds.length - (intOf t39).toNat)
  case atStart => exact ⟨0, [], Nat.zero_le _, rfl, Lib.hid rfl, Lib.hid ⟨⟨rfl, by decide, fun _ h => by simp at h, fun i h => by simp at h⟩, rfl⟩, Lib.hid ⟨_, HU0.out⟩⟩
  case round =>
    clear HU0
    obtain ⟨k, ml, hk, rfl, HAL, HG, V0⟩ := hrel
    obtain ⟨vm, hV⟩ := V0.out
    have V := Lib.hid hV
    clear V0 hV
    by_cases hlt : k < ds.length
    · obtain ⟨sb, off, rfl, hc⟩ := HX.out (by omega)
      obtain ⟨c0, c1⟩ := def_cells2 hc k hlt
      replace c0 := only_cell V.out.2 c0
      replace c1 := only_cell V.out.2 c1
      have hi0 : (0 : Int) ≤ (k : Int) := by omega
      have hi1 : (k : Int) < (ds.length : Int) := by omega
      have HTK := Lib.hid (show ds.take (k + 1) = ds.take k ++ [ds[k]] from (List.take_append_getElem hlt).symm)
      have HIN := Lib.hid (List.getElem_mem hlt)
      clear hc
      generalize ds[k] = d at *
      obtain ⟨kind, cap⟩ := d
      dsimp only at c0 c1
      have VA := Lib.hid (V.out.fresh OwnV.framed (Only.alloc (fun _ => False) wr (dfO kind cap)))
      cases hok : okDef kind cap with
      | false =>
        have HE := Lib.hid (fun (w' : World) e he ho => (show NewPost sd n ds w e w' from .inl ⟨Bool.eq_false_iff.2 fun hh => (by have := List.all_eq_true.1 (okOwn_iff.1 hh).2.2 _ HIN.out; simp only [hok] at this; cases this), he, ho⟩))
        have HM := Lib.hid (fun w => make_bad kind cap w hok)
        clear hok
        go_wp2_with fail
        refine (HM.out _).mono ?_
        rintro e w1 ⟨rfl, ho⟩
        have HO1 := Lib.hid (VA.out.2.tr ho)
        clear ho c0 c1
        go_wp2_with fail
        go_ret2
        exact HE.out _ _ rfl HO1.out
      | true =>
        have HSG := Lib.hid (show SGood (decide (kind = 1)) cap ([], []) by obtain ⟨_, h1, h2⟩ := okDef_iff.1 hok; exact sgood_nil h1 h2)
        have HAL2 := Lib.hid (show ((ds.take (k + 1)).all fun d => okDef d.1 d.2) = true by rw [HTK.out, List.all_append, HAL.out]; simpa using hok)
        have HM := Lib.hid (fun w => make_ok kind cap w hok)
        clear hok
        go_wp2_with fail
        refine (VA.out.callNew OwnV.framed (Yx := fun a S w => a.bd = decide (kind = 1) ∧ ShardS a cap ([], []) S w) (E := fun a e => e = .returned (.tuple #[a.val, .int .i64 0])) (fun _ => Framed.and (Framed.pure _) ShardS.framed) (HM.out _)).mono ?_
        rintro e w1 ⟨a, rfl, hU⟩
        obtain ⟨tv, xv, hav⟩ : ∃ t x, a.val = .iface t x := by cases a <;> exact ⟨_, _, rfl⟩
        rw [hav]
        have HBD := Lib.hid (show a.bd = decide (kind = 1) by obtain ⟨_, h, _⟩ := hU.getR; exact h)
        have HU := Lib.hid (show Upd (Sep (Obj2 eSh eReq 83 72 37 (ownC sd n vm (.slice none 0 0) false) g vm (.slice none 0 0) (ml.map (·.1)) []) (Sep (SepL (ownL ml (List.replicate k z0))) (ShardS a cap ([], [])))) (fun _ => False) w w1 from hU.imp fun _ h => (h.imp (fun _ h => h) fun _ h => h.2).assoc)
        have HML := Lib.hid (show ml.length = k by have := HG.out.1.len; simpa using this)
        clear hU VA c0 c1
        obtain ⟨A, hA, ha⟩ := HU.out.1.focus (Sep.framed ownL_framed ShardS.framed)
        have HBK : Hid (∀ v1 w', Upd (Obj2 eSh eReq 83 72 37 (ownC sd n v1 (.slice none 0 0) false) g v1 (.slice none 0 0) (ml.map (·.1) ++ [a]) []) A w1 w' → Upd (OwnV g sd n v1 (.slice none 0 0) (ml ++ [(a, (kind, cap))]) (List.replicate (k + 1) z0) [] false) (fun _ => False) w w') := Lib.hid fun v1 w' hu =>
          (HU.out.step (Sep.framed Obj2.framed (Sep.framed ownL_framed ShardS.framed)) (ha _ w' Obj2.framed hu)).imp fun _ h => h.imp (fun _ h => by simpa using h) fun _ h => by
            have := SepL.snoc h
            rw [show ShardS a cap ([], []) = (fun (m : MSh) (s : Sh) => ShardS m.1 m.2.2 s) (a, (kind, cap)) z0 from rfl] at this
            rw [ownL, zw_snoc (by simpa using HML.out), ← List.replicate_succ'] at this
            exact this
        have hg := hA.1
        have c2 : w1.cell? ⟨g, 2, none⟩ = some vm := blk_cell hg 2
        have hll : ml.length ≤ 4 := by have := HML.out; have := HOK.out; omega
        have HOW := Lib.hid (show OwS eSh 72 (fun k => vm.ownBlock = some k) (w1.alloc (.cells #[.iface tv xv] 72 (0, 0))) vm (ml.map (·.1)) from OwS.framed.alloc ⟨hA.2.2.1.1, fun _ h => h⟩ _)
        have HRD := Lib.hid (Rd.lit (E := eSh) w1 #[.iface tv xv] 72 (0, 0) 1 1 [a] (by simp [Enc.all, eSh, hav]) rfl (Nat.le_refl _) (by decide))
        have HGR := Lib.hid (fun (v2 : Value) (w2 : World) h1 h2 => hA.grow1 (v1' := v2) (w2 := w2) (xs' := ml.map (·.1) ++ [a]) (by decide) (by decide) (by decide) (Only.alloc (fun _ => False) w1 (.cells #[.iface tv xv] 72 (0, 0))) h1 h2 2 (c' := ownC sd n v2 (.slice none 0 0) false) rfl)
        have hml : (ml.map (·.1)).length ≤ 4 := by simpa using hll
        clear ha hA hg hav
        go_wp2_with (at_builtin; refine wl_appendS (E := eSh) rfl _ (.tmp 57) _ rfl 72 16 eSh_slice _ _ (ml.map (·.1)) rfl HOW.out _ [a] rfl HRD.out (by simp only [List.length_cons, List.length_nil]; omega) (by unfold maxLen; simp only [List.length_cons, List.length_nil]; omega) ?_)
        intro v2 w2 hown2 hO2
        obtain ⟨hg2, hU2⟩ := HGR.out v2 w2 (OwS.framed.mono _ _ _ hown2 fun k _ h => by simpa using h) hO2
        have d2 : w2.cell? ⟨g, 2, none⟩ = some vm := blk_cell hg2 2
        have f2 := frozen_of_row w2 g 2 _ _ hg2
        have HV2 := Lib.hid (HBK.out v2 _ hU2)
        have HG2 := Lib.hid (show OGood (ml ++ [(a, (kind, cap))]) (List.replicate (k + 1) z0) ∧ (ml ++ [(a, (kind, cap))]).map (·.2) = ds.take (k + 1) from by
          refine ⟨⟨by simp [HML.out], by simp [HML.out]; have := HOK.out; omega, fun m hm => ?_, fun i h1 h2 => ?_⟩, by rw [HTK.out, List.map_append, HG.out.2]; rfl⟩
          · rcases List.mem_append.1 hm with hm | hm
            · exact HG.out.1.bd m hm
            · rw [List.mem_singleton.1 hm]; exact HBD.out
          · simp only [List.getElem_replicate]
            by_cases hi : i < ml.length
            · rw [List.getElem_append_left hi]
              have := HG.out.1.good i hi (by simpa using by rw [← HML.out]; exact hi)
              simpa using this
            · rw [List.getElem_append_right (by omega)]
              simp only [List.getElem_singleton]
              rw [HBD.out]; exact HSG.out)
        obtain ⟨a2, n2, c3, rfl⟩ := hown2.shape'
        clear hg2 hU2 hown2 hO2 HGR HOW HRD HBK HU
        go_wp2_with fail
        refine ⟨⟨k + 1, _, by omega, by simp, HAL2, HG2, Lib.hid ⟨_, HV2.out⟩⟩, ?_⟩
        first | omega | (simp only [intOf]; omega)
    · obtain rfl : k = ds.length := by omega
      go_wp2_with fail
      go_ret2
      refine .inr ⟨okOwn_iff.2 ⟨HOK.out.1, HOK.out.2, by have := HAL.out; rwa [List.take_length] at this⟩, g, rfl, ⟨ml, HG.out.1, by have := HG.out.2; rwa [List.take_length] at this, ?_⟩, V.out.2⟩
      exact OwnS.framed.mono _ _ _ (V.out.1.plain) fun _ _ h => h.elim False.elim id
end Go.Proofs.Ytdlkblklfoagbaa
