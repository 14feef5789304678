/- The law CmapBatches: its walk. -/
import Derived.Test.YthppleegiieneaaCMapNewBad
import Derived.Test.YthppleegiieneaaCMapAwake
import Derived.Test.YthppleegiieneaaResults
import Derived.Deep.RegionHeld3
namespace Go.Proofs.Ythppleegiieneaa
open Go.RowKit
set_option linter.unusedVariables false
set_option linter.unusedSimpArgs false

theorem step_appendW {α : Type} {E : Enc α} {P : Program} {w : World} {ops : Array Oper} {o : Oper} {a : Act} {K : Act → World → Prop} {Q : Exit → Act → World → Prop} {F : Prop} (hgd : o.guard = none) (s x : Operand) (t : TypeId)
    (ho : o.op = .call { callee := .builtin .append, args := #[s, x], argTypes := #[t, t] })
    (e bytes : Nat) (hI : SliceInfo P t e E.size bytes) (S : Nat → Prop) (v : Value) (xs : List α) (hs : a.eval s = v) (hown : OwS E e S w v xs)
    (u : Value) (ys : List α) (hx : a.eval x = u) (hr : Rd E w u ys)
    (hbytes : (5 * (xs.length + ys.length) + 2816) * bytes ≤ 1125899906842624) (h63 : xs.length + ys.length ≤ maxLen)
    (h : ∀ v' w', OwS E e (fun k => S k ∨ w.heap.size ≤ k) w' v' (xs ++ ys) → Only S w w' → K (a.put o.dst v') w') :
    if Region.wanted o (yielded ops a.tmps) = true then Oper.wp P o a w K Q else F :=
  step_append hgd s x t ho 0 e bytes hI v xs hs hown.1 u ys hx hr hbytes h63 (Nat.zero_le _) fun v' w' h1 h2 h3 _ => h v' w' ⟨h1, fun k hk => by
      rcases h3 with h3 | h3
      · exact .inl (hown.2 k (by rw [← h3.1]; exact hk))
      · exact .inr (h3 k hk)⟩ (Only.of_grown h2 fun k hk => hown.2 k hk)
theorem allP_nil (n : Nat) : allP (List.replicate n (([], []) : Sh)) = [] := by
  induction n with
  | zero => rfl
  | succ n ih => simp [allP]
theorem awake_only (w : World) : Calls Try.prog 7 #[] w fun e w' => e = .returned (.bool true) ∧ Only (fun _ => False) w w' :=
  (awake_any w).mono fun e w' ⟨he, h⟩ => ⟨he, Only.of_below h fun k h1 h2 => by omega⟩
theorem def_start (kind cap : Int) (w : World) : Upd (Blk w.heap.size (defO kind cap)) (fun _ => False) w (w.alloc (defO kind cap)) := ⟨⟨heap_alloc_new _ _, .inr (Nat.le_refl _)⟩, Only.alloc _ _ _⟩
theorem def_cells {bd : Nat} {kind cap : Int} {S : Nat → Prop} {w W : World} (h : Upd (Blk bd (defO kind cap)) S w W) : W.cell? ⟨bd, 0, none⟩ = some (.int .i64 kind) ∧ W.cell? ⟨bd, 1, none⟩ = some (.int .i64 cap) := ⟨blk_cell h.1.1 0, blk_cell h.1.1 1⟩
set_option maxRecDepth 100000 in
set_option maxHeartbeats 4000000 in
theorem cmapBatches_bad (kind cap n : Int) (v : Value) (w : World) (h : ¬ ((1 ≤ n ∧ n ≤ 4) ∧ okDef kind cap = true)) :
    Calls Try.prog 6 #[.agg #[.int .i64 kind, .int .i64 cap], .int .i64 n, v] w fun e w' => e = .returned (.bool true) ∧ Below w.heap.size w w' := by
  have HH := Lib.hid h
  clear h
  go_enter Try.func6, Try.ntmps6
  go_wp2_with fail
  have HB := Lib.hid (def_start kind cap w)
  generalize World.alloc w _ = wa at *
  generalize w.heap.size = bd at *
  refine (HB.out.callRead Blk.framed (E := fun e => e = .returned (.bool true)) (awake_only wa)).mono ?_
  rintro e w1 ⟨rfl, hB1⟩
  have HB1 := Lib.hid hB1
  obtain ⟨c0, c1⟩ := def_cells hB1
  clear hB1 HB
  go_wp2_with fail
  refine (HB1.out.callRead Blk.framed (E := fun e => e = .returned (.tuple #[.pointer none, .int .i64 2])) (cmapNew_bad kind cap n w1 HH.out)).mono ?_
  rintro e w2 ⟨rfl, hB2⟩
  have HB2 := Lib.hid hB2
  obtain ⟨c0, c1⟩ := def_cells hB2
  clear hB2 HB1
  go_wp2_with fail
  refine (HB2.out.callRead Blk.framed (E := fun e => e = .returned (.tuple #[.pointer none, .int .i64 2])) (cmapNew_bad kind cap n w2 HH.out)).mono ?_
  rintro e w3 ⟨rfl, hB3⟩
  have HB3 := Lib.hid hB3
  clear hB3 HB2
  go_wp2_with fail
  go_ret
  exact ⟨rfl, St.below HB3.out⟩
set_option maxRecDepth 100000 in
set_option maxHeartbeats 40000000 in
theorem cmapBatches_yes (kind cap n : Int) (hn1 : 1 ≤ n) (hn4 : n ≤ 4) (hok : okDef kind cap = true) (ds : List ItemD) (v : Value) (w : World) (hv : Rd eItem w v ds) :
    Calls Try.prog 6 #[.agg #[.int .i64 kind, .int .i64 cap], .int .i64 n, v] w fun e w' => e = .returned (.bool true) ∧ Below w.heap.size w w' := by
  obtain ⟨hmx, ao, c, rfl, hcap, _, _⟩ := id hv
  unfold maxLen at hmx
  have HV := Lib.hid hv
  have HOK := Lib.hid hok
  have HN1 := Lib.hid hn1
  have HN4 := Lib.hid hn4
  clear hv hok hn1 hn4
  go_enter Try.func6, Try.ntmps6
  go_wp2_with fail
  have HB := Lib.hid (def_start kind cap w)
  generalize World.alloc w _ = wa at *
  generalize w.heap.size = bd at *
  refine (HB.out.callRead Blk.framed (E := fun e => e = .returned (.bool true)) (awake_only wa)).mono ?_
  rintro e w1 ⟨rfl, hB1⟩
  have HB1 := Lib.hid hB1
  obtain ⟨c0, c1⟩ := def_cells hB1
  clear hB1 HB
  go_wp2_with fail
  refine (cmapNewU Blk.framed HB1.out HN1.out HN4.out HOK.out).mono ?_
  rintro e w2 ⟨ma, rfl, al, G, hU⟩
  have HGA := Lib.hid G
  have HU2 := Lib.hid hU
  obtain ⟨_, hbk⟩ := hU.getR
  replace c0 : w2.cell? ⟨bd, 0, none⟩ = some (.int .i64 kind) := blk_cell hbk.1 0
  replace c1 : w2.cell? ⟨bd, 1, none⟩ = some (.int .i64 cap) := blk_cell hbk.1 1
  clear G hU hbk HB1
  go_wp2_with fail
  refine (cmapNewU (Sep.framed MapS.framed Blk.framed) HU2.out HN1.out HN4.out HOK.out).mono ?_
  rintro e w3 ⟨mb, rfl, bl, G, hU⟩
  have HGB := Lib.hid G
  have HU3 := Lib.hid (show Upd (Sep (Sep (MapS mb kind cap bl (List.replicate n.toNat ([], []))) (MapS ma kind cap al (List.replicate n.toNat ([], [])))) Emp) (fun _ => False) w w3 from hU.imp fun _ h => h.assoc'.imp (fun _ h => h) fun _ _ => trivial)
  clear G hU HU2 c0 c1
  by_cases h3 : 3000 < ds.length
  · go_wp2_with fail
    go_ret
    exact ⟨rfl, St.below HU3.out⟩
  · have h3' : (ds.length : Int) ≤ 3000 := by omega
    have HOW := Lib.hid (OwS.of_ow (Ow.lit (E := eItem) w3 w3.heap.size #[] 42 0 [] (by simp [Enc.all]) rfl (by simp) (Nat.le_refl _)))
    have HRD := Lib.hid ((HV.out.only HU3.out.2).only (Only.alloc _ w3 (.cells #[] 42 (0, 0))))
    go_wp2_with (at_builtin; refine wl_appendS (E := eItem) rfl _ _ _ rfl 42 32 eItem_slice _ _ [] rfl HOW.out _ ds rfl HRD.out (by simp only [List.length_nil]; omega) (by unfold maxLen; simp only [List.length_nil]; omega) ?_)
    intro vi w4 hown4 hO4
    have HI := Lib.hid (HU3.out.add (Sep.framed (Sep.framed MapS.framed MapS.framed) Emp.framed) (Q := fun S w => OwS eItem 42 S w vi ds) OwS.framed (OwS.framed.mono _ _ _ hown4 fun k _ h => h.elim id fun h => Nat.le_of_succ_le h) ((Only.alloc (fun _ => False) w3 (.cells #[] 42 (0, 0))).trans hO4 fun j hj h => by omega))
    obtain ⟨⟨_, ai, ci, rfl, _⟩, _⟩ := hown4
    have HI2 := Lib.hid (show Upd (Sep (fun A w => MapS ma kind cap al (List.replicate n.toNat ([], [])) A w ∧ ∀ k, (Value.slice ai ds.length ci).ownBlock = some k → ¬ A k) (Sep (MapS mb kind cap bl (List.replicate n.toNat ([], []))) (fun S w => OwS eItem 42 S w (.slice ai ds.length ci) ds))) (fun _ => False) w w4 from by
      obtain ⟨h, ho⟩ := HI.out
      refine ⟨?_, ho⟩
      have h1 : Sep (Sep (MapS mb kind cap bl (List.replicate n.toNat ([], []))) (MapS ma kind cap al (List.replicate n.toNat ([], [])))) (fun S w => OwS eItem 42 S w (.slice ai ds.length ci) ds) _ w4 := h.imp (fun _ h => h.left (Sep.framed MapS.framed MapS.framed)) fun _ h => h
      obtain ⟨A, B, hd, hA, hB, hp, hq⟩ := h1.assoc.turn
      refine ⟨A, B, hd, hA, hB, ⟨hp, fun k hk ha => hd k ha ?_⟩, hq⟩
      obtain ⟨_, C, _, _, hC, _, hw⟩ := hq
      exact hC k (hw.2 k hk))
    clear hO4 HOW HRD HI
    have hb3 : ds.length ≤ 3000 := by omega
    go_wp2_with fail
    refine (HI2.out.on1x (Sep.framed MapS.framed OwS.framed) (Px := fun v' => Sep (MapS ma kind cap al (mBatch kind cap (List.replicate n.toNat ([], [])) ds).2) (fun S w => OwS eRes 38 S w v' (mBatch kind cap (List.replicate n.toNat ([], [])) ds).1)) (E := fun v' e => e = .returned v') (fun _ => Sep.framed MapS.framed OwS.framed) fun A hA => cmapBatch_ hA.1 HGA.out (by obtain ⟨_, h⟩ := HI2.out.getR; exact (h.right OwS.framed).rd) hA.2 hb3).mono ?_
    rintro e w5 ⟨vx, rfl, h5⟩
    have H5 := Lib.hid h5
    clear h5 HI2
    go_wp2_with fail
    obtain ⟨_, hMB⟩ := H5.out.getR
    have HC := Lib.hid (cmapLen_ (hMB.left MapS.framed) HGB.out)
    clear hMB
    refine (H5.out.callRead (Sep.framed (Sep.framed MapS.framed OwS.framed) (Sep.framed MapS.framed OwS.framed)) (E := fun e => e = .returned (.int .i64 0)) (by have := HC.out; rwa [show allP (List.replicate n.toNat ([], [])) = [] from allP_nil _] at this)).mono ?_
    rintro e w6 ⟨rfl, h6⟩
    have H6 := Lib.hid h6
    clear h6 H5 HC
    go_wp2_with fail
    have h0 : mBatch kind cap (List.replicate n.toNat ([], [])) (ds.take 0) = ([], (List.replicate n.toNat ([], []))) := rfl
    have H7 := Lib.hid (show Upd (Sep (MapS mb kind cap bl (List.replicate n.toNat ([], []))) (Sep (fun S w => OwS eRes 38 S w (.slice none 0 0) []) (Sep (Sep (MapS ma kind cap al (mBatch kind cap (List.replicate n.toNat ([], [])) ds).2) (fun S w => OwS eRes 38 S w vx (mBatch kind cap (List.replicate n.toNat ([], [])) ds).1)) (fun S w => OwS eItem 42 S w (.slice ai ds.length ci) ds)))) (fun _ => False) w w6 from H6.out.imp fun _ h => (Sep.turn h).imp (fun _ h => h) fun _ h => Sep.nilL h)
    go_loopw [14, 13] (fun t14 t13 wr => ∃ (k : Nat) (rs : List ResD) (st : List Sh), k ≤ ds.length ∧ t14 = .int .i64 k ∧ Hid (mBatch kind cap (List.replicate n.toNat ([], [])) (ds.take k) = (rs, st)) ∧ Hid (Upd (Sep (MapS mb kind cap bl st) (Sep (fun S w => OwS eRes 38 S w t13 rs) (Sep (Sep (MapS ma kind cap al (mBatch kind cap (List.replicate n.toNat ([], [])) ds).2) (fun S w => OwS eRes 38 S w vx (mBatch kind cap (List.replicate n.toNat ([], [])) ds).1)) (fun S w => OwS eItem 42 S w (.slice ai ds.length ci) ds)))) (fun _ => False) w wr)) (fun t14 _ _ => ds.length - (intOf t14).toNat)
    case atStart => exact ⟨0, [], _, Nat.zero_le _, rfl, Lib.hid h0, H7⟩
    case round =>
      clear h0 H7 H6
      obtain ⟨k, rs, st, hk, rfl, HE, V⟩ := hrel
      have hrl : rs.length = k := by
        have := mBatch_len (kind := kind) (cap := cap) (ss := (List.replicate n.toNat ([], []))) (ds.take k)
        rw [HE.out, List.length_take] at this
        have h : rs.length = min k ds.length := this
        omega
      by_cases hlt : k < ds.length
      · obtain ⟨_, ao', cap', hao, _, _, hx⟩ := HV.out
        obtain ⟨rfl, -, rfl⟩ : ao = ao' ∧ ds.length = ds.length ∧ c = cap' := by simpa using hao
        obtain ⟨sb, off, rfl, hc⟩ := hx (by omega)
        obtain ⟨c0, c1, c2, c3⟩ := it_cells4 hc k hlt
        have hi0 : (0 : Int) ≤ (k : Int) := by omega
        have hi1 : (k : Int) < (ds.length : Int) := by omega
        have HDS := Lib.hid (show ds.take (k + 1) = ds.take k ++ [ds[k]] from (List.take_append_getElem hlt).symm)
        have HIT := Lib.hid (show ∀ W, Rd eItem W (.slice ai ds.length ci) ds → ∃ ib io, ai = some ⟨ib, io, none⟩ ∧ W.cell? ⟨ib, io + k * 4, none⟩ = some (.int .i64 ds[k].1) ∧ W.cell? ⟨ib, io + k * 4 + 1, none⟩ = some (.int .i64 ds[k].2.1) ∧ W.cell? ⟨ib, io + k * 4 + 2, none⟩ = some (.int .u64 ds[k].2.2.1) ∧ W.cell? ⟨ib, io + k * 4 + 3, none⟩ = some (.int .u64 ds[k].2.2.2) from fun W h => by
          obtain ⟨_, a', c', h1, _, _, h2⟩ := h
          obtain ⟨rfl, -, rfl⟩ : ai = a' ∧ ds.length = ds.length ∧ ci = c' := by simpa using h1
          obtain ⟨ib, io, rfl, hc⟩ := h2 (by omega)
          exact ⟨ib, io, rfl, it_cells4 hc k hlt⟩)
        clear hc hx hao
        generalize hitd : ds[k] = it at *
        obtain ⟨mp, op, dk, dv⟩ := it
        dsimp only at c0 c1 c2 c3
        have HKC := Lib.hid (show ∀ W, Below w.heap.size w W → W.cell? ⟨sb, off + k * 4, none⟩ = some (.int .i64 mp) ∧ W.cell? ⟨sb, off + k * 4 + 1, none⟩ = some (.int .i64 op) ∧ W.cell? ⟨sb, off + k * 4 + 2, none⟩ = some (.int .u64 dk) ∧ W.cell? ⟨sb, off + k * 4 + 3, none⟩ = some (.int .u64 dv) from fun W h => ⟨only_cell (Only.of_below h fun k h1 h2 => by omega) c0, only_cell (Only.of_below h fun k h1 h2 => by omega) c1, only_cell (Only.of_below h fun k h1 h2 => by omega) c2, only_cell (Only.of_below h fun k h1 h2 => by omega) c3⟩)
        clear c0 c1 c2 c3 hitd
        obtain ⟨c0, c1, c2, c3⟩ := HKC.out _ (St.below V.out)
        obtain ⟨⟨x0, x1, x2, x3, x4, x5⟩, st2, hd⟩ : ∃ r st2, mDo kind cap st op dk dv = (r, st2) := ⟨_, _, rfl⟩
        have HD := Lib.hid hd
        have HGs := Lib.hid (show MGood kind cap bl st by have := mBatch_good HGB.out (ds.take k); rwa [HE.out] at this)
        have hz : ∀ W, (binOp .neq 42 (.agg #[.int .i64 mp, .int .i64 op, .int .u64 dk, .int .u64 dv]) (.agg #[.int .i64 mp, .int .i64 op, .int .u64 dk, .int .u64 dv])).run Try.prog W = .ok (.bool false) W := fun W => by have := eItem_neq (mp, op, dk, dv) (mp, op, dk, dv) W; simpa using this
        clear hd
        go_wp2_with fail
        refine wp_region_noPanic ?_
        refine wp_region_held_drew (S := fun W => W.cell? ⟨sb, off + k * 4, none⟩ = some (.int .i64 mp) ∧ W.cell? ⟨sb, off + k * 4 + 1, none⟩ = some (.int .i64 op) ∧ W.cell? ⟨sb, off + k * 4 + 2, none⟩ = some (.int .u64 dk) ∧ W.cell? ⟨sb, off + k * 4 + 3, none⟩ = some (.int .u64 dv)) (by kernel_rfl) ?_ (fun hHeld => ?_)
        · exact ⟨c0, c1, c2, c3⟩
        try simp only [Act.put, List.getElem_toArray, List.getElem_cons_succ, List.getElem_cons_zero, List.setIfInBounds_toArray, List.set_cons_zero, List.set_cons_succ]
        refine wpAnyH_take (i := 0) (v := ?va0) rfl (by kernel_rfl) (by kernel_rfl) (by kernel_rfl) (fun _ _ _ h => h) (Or.inl ⟨by rfl, ?hya0⟩) (by assumption) ?resta0
        case hya0 =>
          intro w hSw
          try dsimp only at hSw
          go_simp
          all_goals with_reducible rfl
        simp only [Act.put, List.getElem_toArray, List.getElem_cons_succ, List.getElem_cons_zero, List.setIfInBounds_toArray, List.set_cons_zero, List.set_cons_succ]
        refine wpAnyH_take (i := 1) (v := ?va1) rfl (by kernel_rfl) (by kernel_rfl) (by kernel_rfl) (fun _ _ _ h => h) (Or.inl ⟨by rfl, ?hya1⟩) (by assumption) ?resta1
        case hya1 =>
          intro w hSw
          try dsimp only at hSw
          go_simp
          all_goals with_reducible rfl
        simp only [Act.put, List.getElem_toArray, List.getElem_cons_succ, List.getElem_cons_zero, List.setIfInBounds_toArray, List.set_cons_zero, List.set_cons_succ]
        refine wpAnyH_take (i := 2) (v := ?va2) rfl (by kernel_rfl) (by kernel_rfl) (by kernel_rfl) (fun _ _ _ h => h) (Or.inl ⟨by rfl, ?hya2⟩) (by assumption) ?resta2
        case hya2 =>
          intro w hSw
          try dsimp only at hSw
          go_simp
          all_goals with_reducible rfl
        simp only [Act.put, List.getElem_toArray, List.getElem_cons_succ, List.getElem_cons_zero, List.setIfInBounds_toArray, List.set_cons_zero, List.set_cons_succ]
        refine wpAnyH_take (i := 3) (v := ?va3) rfl (by kernel_rfl) (by kernel_rfl) (by kernel_rfl) (fun _ _ _ h => h) (Or.inl ⟨by rfl, ?hya3⟩) (by assumption) ?resta3
        case hya3 =>
          intro w hSw
          try dsimp only at hSw
          go_simp
          all_goals with_reducible rfl
        simp only [Act.put, List.getElem_toArray, List.getElem_cons_succ, List.getElem_cons_zero, List.setIfInBounds_toArray, List.set_cons_zero, List.set_cons_succ]
        refine wpAnyH_take (i := 4) (v := ?va4) rfl (by kernel_rfl) (by kernel_rfl) (by kernel_rfl) (fun _ _ _ h => h) (Or.inl ⟨by rfl, ?hya4⟩) (by assumption) ?resta4
        case hya4 =>
          intro w hSw
          try dsimp only at hSw
          go_simp
          all_goals with_reducible rfl
        simp only [Act.put, List.getElem_toArray, List.getElem_cons_succ, List.getElem_cons_zero, List.setIfInBounds_toArray, List.set_cons_zero, List.set_cons_succ]
        refine wpAnyH_take (i := 5) (v := ?va5) rfl (by kernel_rfl) (by kernel_rfl) (by kernel_rfl) (fun _ _ _ h => h) (Or.inl ⟨by rfl, ?hya5⟩) (by assumption) ?resta5
        case hya5 =>
          intro w hSw
          try dsimp only at hSw
          go_simp
          all_goals with_reducible rfl
        simp only [Act.put, List.getElem_toArray, List.getElem_cons_succ, List.getElem_cons_zero, List.setIfInBounds_toArray, List.set_cons_zero, List.set_cons_succ]
        refine wpAnyH_take (i := 6) (v := ?va6) rfl (by kernel_rfl) (by kernel_rfl) (by kernel_rfl) (fun _ _ _ h => h) (Or.inl ⟨by rfl, ?hya6⟩) (by assumption) ?resta6
        case hya6 =>
          intro w hSw
          try dsimp only at hSw
          go_simp
          all_goals with_reducible rfl
        simp only [Act.put, List.getElem_toArray, List.getElem_cons_succ, List.getElem_cons_zero, List.setIfInBounds_toArray, List.set_cons_zero, List.set_cons_succ]
        refine wpAnyH_take (i := 7) (v := ?va7) rfl (by kernel_rfl) (by kernel_rfl) (by kernel_rfl) (fun _ _ _ h => h) (Or.inl ⟨by rfl, ?hya7⟩) (by assumption) ?resta7
        case hya7 =>
          intro w hSw
          try dsimp only at hSw
          go_simp
          all_goals with_reducible rfl
        simp only [Act.put, List.getElem_toArray, List.getElem_cons_succ, List.getElem_cons_zero, List.setIfInBounds_toArray, List.set_cons_zero, List.set_cons_succ]
        refine wpAnyH_take (i := 8) (v := ?va8) rfl (by kernel_rfl) (by kernel_rfl) (by kernel_rfl) (fun _ _ _ h => h) (Or.inl ⟨by rfl, ?hya8⟩) (by assumption) ?resta8
        case hya8 =>
          intro w hSw
          try dsimp only at hSw
          go_simp
          all_goals with_reducible rfl
        simp only [Act.put, List.getElem_toArray, List.getElem_cons_succ, List.getElem_cons_zero, List.setIfInBounds_toArray, List.set_cons_zero, List.set_cons_succ]
        refine wpAnyH_take (i := 9) (v := ?va9) rfl (by kernel_rfl) (by kernel_rfl) (by kernel_rfl) (fun _ _ _ h => h) (Or.inl ⟨by rfl, ?hya9⟩) (by assumption) ?resta9
        case hya9 =>
          intro w hSw
          try dsimp only at hSw
          go_simp
          all_goals with_reducible rfl
        simp only [Act.put, List.getElem_toArray, List.getElem_cons_succ, List.getElem_cons_zero, List.setIfInBounds_toArray, List.set_cons_zero, List.set_cons_succ]
        refine wpAnyH_take (i := 10) (v := ?va10) rfl (by kernel_rfl) (by kernel_rfl) (by kernel_rfl) (fun _ _ _ h => h) (Or.inl ⟨by rfl, ?hya10⟩) (by assumption) ?resta10
        case hya10 =>
          intro w hSw
          try dsimp only at hSw
          go_simp
          all_goals with_reducible rfl
        simp only [Act.put, List.getElem_toArray, List.getElem_cons_succ, List.getElem_cons_zero, List.setIfInBounds_toArray, List.set_cons_zero, List.set_cons_succ]
        refine wpAnyH_take (i := 11) (v := ?va11) rfl (by kernel_rfl) (by kernel_rfl) (by kernel_rfl) (fun _ _ _ h => h) (Or.inl ⟨by rfl, ?hya11⟩) (by assumption) ?resta11
        case hya11 =>
          intro w hSw
          try dsimp only at hSw
          go_simp
          all_goals with_reducible rfl
        simp only [Act.put, List.getElem_toArray, List.getElem_cons_succ, List.getElem_cons_zero, List.setIfInBounds_toArray, List.set_cons_zero, List.set_cons_succ]
        refine wpAnyH_take (i := 12) (v := ?va12) rfl (by kernel_rfl) (by kernel_rfl) (by kernel_rfl) (fun _ _ _ h => h) (Or.inl ⟨by rfl, ?hya12⟩) (by assumption) ?resta12
        case hya12 =>
          intro w hSw
          try dsimp only at hSw
          go_simp
          all_goals with_reducible rfl
        simp only [Act.put, List.getElem_toArray, List.getElem_cons_succ, List.getElem_cons_zero, List.setIfInBounds_toArray, List.set_cons_zero, List.set_cons_succ]
        refine wpAnyH_take (i := 13) (v := ?va13) rfl (by kernel_rfl) (by kernel_rfl) (by kernel_rfl) (fun _ _ _ h => h) (Or.inl ⟨by rfl, ?hya13⟩) (by assumption) ?resta13
        case hya13 =>
          intro w hSw
          try dsimp only at hSw
          go_simp
          all_goals with_reducible rfl
        simp only [Act.put, List.getElem_toArray, List.getElem_cons_succ, List.getElem_cons_zero, List.setIfInBounds_toArray, List.set_cons_zero, List.set_cons_succ]
        refine wpAnyH_take (i := 14) (v := ?va14) rfl (by kernel_rfl) (by kernel_rfl) (by kernel_rfl) (fun _ _ _ h => h) (Or.inl ⟨by rfl, ?hya14⟩) (by assumption) ?resta14
        case hya14 =>
          intro w hSw
          try dsimp only at hSw
          go_simp
          all_goals with_reducible rfl
        simp only [Act.put, List.getElem_toArray, List.getElem_cons_succ, List.getElem_cons_zero, List.setIfInBounds_toArray, List.set_cons_zero, List.set_cons_succ]
        refine wpAnyH_take (i := 15) (v := ?va15) rfl (by kernel_rfl) (by kernel_rfl) (by kernel_rfl) (fun _ _ _ h => h) (Or.inl ⟨by rfl, ?hya15⟩) (by assumption) ?resta15
        case hya15 =>
          intro w hSw
          try dsimp only at hSw
          go_simp
          all_goals with_reducible rfl
        simp only [Act.put, List.getElem_toArray, List.getElem_cons_succ, List.getElem_cons_zero, List.setIfInBounds_toArray, List.set_cons_zero, List.set_cons_succ]
        refine wpAnyH_take (i := 16) (v := ?va16) rfl (by kernel_rfl) (by kernel_rfl) (by kernel_rfl) (fun _ _ _ h => h) (Or.inl ⟨by rfl, ?hya16⟩) (by assumption) ?resta16
        case hya16 =>
          intro w hSw
          try dsimp only at hSw
          go_simp
          all_goals with_reducible rfl
        simp only [Act.put, List.getElem_toArray, List.getElem_cons_succ, List.getElem_cons_zero, List.setIfInBounds_toArray, List.set_cons_zero, List.set_cons_succ]
        refine wpAnyH_ready (rs := [17]) (by kernel_rfl) (by simp) ?_
        refine AllReadyH.cons rfl (fun K hK => ?_) AllReadyH.nil
        go_simp
        refine ((V.out.drewU (Sep.framed MapS.framed (Sep.framed OwS.framed (Sep.framed (Sep.framed MapS.framed OwS.framed) OwS.framed)))).on1 (Sep.framed OwS.framed (Sep.framed (Sep.framed MapS.framed OwS.framed) OwS.framed)) (P' := MapS mb kind cap bl st2) (E := fun e => e = .returned (.agg #[.int .i64 x0, .bool x1, .int .u64 x2, .bool x3, .int .u64 x4, .int .u64 x5])) MapS.framed fun A hA => cmapDoM hA HGs.out HD.out).mono ?_
        rintro e wi ⟨rfl, hVi⟩
        have HVi := Lib.hid hVi
        clear hVi
        try go_wp2_with fail
        refine hK.out _ _ ?_ (fun hHeld => ?_)
        · exact (HKC.out _ (St.below HVi.out))
        clear hK K
        try simp only [Act.put, List.getElem_toArray, List.getElem_cons_succ, List.getElem_cons_zero, List.setIfInBounds_toArray, List.set_cons_zero, List.set_cons_succ]
        refine wpAnyH_ready (rs := [18]) (by kernel_rfl) (by simp) ?_
        refine AllReadyH.cons rfl (fun K hK => ?_) AllReadyH.nil
        go_simp
        obtain ⟨B0, hB0, hb0⟩ := HVi.out.1.focusR MapS.framed
        obtain ⟨B, hB, hb⟩ := hB0.focus (Sep.framed (Sep.framed MapS.framed OwS.framed) OwS.framed)
        have HOW := Lib.hid (show OwS eRes 38 B (wi.alloc (resO x0 x1 x2 x3 x4 x5)) u13 rs from OwS.framed.alloc hB _)
        have HRD := Lib.hid (Rd.lit (E := eRes) wi #[.int .i64 x0, .bool x1, .int .u64 x2, .bool x3, .int .u64 x4, .int .u64 x5] 38 (0, 0) 1 1 [(x0, x1, x2, x3, x4, x5)] rfl rfl (Nat.le_refl _) (by decide))
        have HBK := Lib.hid (fun (v2 : Value) (w2 : World) (h2 : OwS eRes 38 (fun k => B k ∨ (wi.alloc (resO x0 x1 x2 x3 x4 x5)).heap.size ≤ k) w2 v2 (rs ++ [(x0, x1, x2, x3, x4, x5)])) (ho2 : Only B (wi.alloc (resO x0 x1 x2 x3 x4 x5)) w2) => HVi.out.step (Sep.framed MapS.framed (Sep.framed OwS.framed (Sep.framed (Sep.framed MapS.framed OwS.framed) OwS.framed))) (hb0 _ w2 (Sep.framed OwS.framed (Sep.framed (Sep.framed MapS.framed OwS.framed) OwS.framed)) (hb _ w2 (OwS.framed (v := v2)) ⟨OwS.framed.mono _ _ _ h2 fun _ _ h => h.imp id fun h => Nat.le_trans (size_le_alloc _ _) h, (Only.alloc _ _ _).tr ho2⟩)))
        have HKA := Lib.hid (HKC.out _ ((St.below HVi.out).alloc (St.size HVi.out) (resO x0 x1 x2 x3 x4 x5)))
        obtain ⟨a3, n3, c5, rfl⟩ := hB.shape'
        clear hB hb hB0 hb0
        refine hK.out _ _ HKA.out (fun hHeld => ?_)
        clear hK K
        try simp only [Act.put, List.getElem_toArray, List.getElem_cons_succ, List.getElem_cons_zero, List.setIfInBounds_toArray, List.set_cons_zero, List.set_cons_succ]
        refine wpAnyH_ready (rs := [19]) (by kernel_rfl) (by simp) ?_
        refine AllReadyH.cons rfl (fun K hK => ?_) AllReadyH.nil
        refine step_appendW (E := eRes) (by rfl) (.tmp 69) (.tmp 87) _ (by rfl) 38 48 eRes_slice _ _ rs (by rfl) HOW.out _ [(x0, x1, x2, x3, x4, x5)] (by rfl) HRD.out (by simp only [List.length_cons, List.length_nil]; omega) (by unfold maxLen; simp only [List.length_cons, List.length_nil]; omega) ?_
        intro v2 w2 hown2 hO2
        have HB2 := Lib.hid (HBK.out v2 w2 hown2 hO2)
        obtain ⟨a4, n4, c4, rfl⟩ := hown2.shape'
        clear hown2 hO2 HBK HOW HRD HVi
        refine hK.out _ _ (HKC.out _ (St.below HB2.out)) (fun hHeld => ?_)
        clear hK K
        try simp only [Act.put, List.getElem_toArray, List.getElem_cons_succ, List.getElem_cons_zero, List.setIfInBounds_toArray, List.set_cons_zero, List.set_cons_succ]
        refine wpAnyH_take (i := 20) (v := ?va20) rfl (by kernel_rfl) (by kernel_rfl) (by kernel_rfl) (fun _ _ _ h => h) (Or.inl ⟨by rfl, ?hya20⟩) (by assumption) ?resta20
        case hya20 =>
          intro w hSw
          try dsimp only at hSw
          go_simp
          all_goals with_reducible rfl
        simp only [Act.put, List.getElem_toArray, List.getElem_cons_succ, List.getElem_cons_zero, List.setIfInBounds_toArray, List.set_cons_zero, List.set_cons_succ]
        refine wpAnyH_done (by kernel_rfl) ?_ _
        refine NoPanic.normal ?_
        go_wp2_with fail
        obtain ⟨_, _, D, _, _, _, _, hX⟩ := HB2.out.getR
        obtain ⟨ib, io, rfl, e0, e1, e2, e3⟩ := HIT.out w2 (hX.right OwS.framed).rd
        obtain ⟨c0, c1, c2, c3⟩ := HKC.out _ (St.below HB2.out)
        clear hX
        refine wp_region_noPanic ?_
        refine wp_region_held_drew (S := fun W => (W.cell? ⟨sb, off + k * 4, none⟩ = some (.int .i64 mp) ∧ W.cell? ⟨sb, off + k * 4 + 1, none⟩ = some (.int .i64 op) ∧ W.cell? ⟨sb, off + k * 4 + 2, none⟩ = some (.int .u64 dk) ∧ W.cell? ⟨sb, off + k * 4 + 3, none⟩ = some (.int .u64 dv)) ∧ W.cell? ⟨ib, io + k * 4, none⟩ = some (.int .i64 mp) ∧ W.cell? ⟨ib, io + k * 4 + 1, none⟩ = some (.int .i64 op) ∧ W.cell? ⟨ib, io + k * 4 + 2, none⟩ = some (.int .u64 dk) ∧ W.cell? ⟨ib, io + k * 4 + 3, none⟩ = some (.int .u64 dv)) (by kernel_rfl) ?_ (fun hHeld => ?_)
        · exact ⟨⟨c0, c1, c2, c3⟩, e0, e1, e2, e3⟩
        try simp only [Act.put, List.getElem_toArray, List.getElem_cons_succ, List.getElem_cons_zero, List.setIfInBounds_toArray, List.set_cons_zero, List.set_cons_succ]
        refine wpAnyH_take (i := 0) (v := ?vb0) rfl (by kernel_rfl) (by kernel_rfl) (by kernel_rfl) (fun _ _ _ h => h) (Or.inl ⟨by rfl, ?hyb0⟩) (by assumption) ?restb0
        case hyb0 =>
          intro w hSw
          try dsimp only at hSw
          go_simp
          all_goals with_reducible rfl
        simp only [Act.put, List.getElem_toArray, List.getElem_cons_succ, List.getElem_cons_zero, List.setIfInBounds_toArray, List.set_cons_zero, List.set_cons_succ]
        refine wpAnyH_take (i := 1) (v := ?vb1) rfl (by kernel_rfl) (by kernel_rfl) (by kernel_rfl) (fun _ _ _ h => h) (Or.inl ⟨by rfl, ?hyb1⟩) (by assumption) ?restb1
        case hyb1 =>
          intro w hSw
          try dsimp only at hSw
          go_simp
          all_goals with_reducible rfl
        simp only [Act.put, List.getElem_toArray, List.getElem_cons_succ, List.getElem_cons_zero, List.setIfInBounds_toArray, List.set_cons_zero, List.set_cons_succ]
        refine wpAnyH_take (i := 2) (v := ?vb2) rfl (by kernel_rfl) (by kernel_rfl) (by kernel_rfl) (fun _ _ _ h => h) (Or.inl ⟨by rfl, ?hyb2⟩) (by assumption) ?restb2
        case hyb2 =>
          intro w hSw
          try dsimp only at hSw
          go_simp
          all_goals with_reducible rfl
        simp only [Act.put, List.getElem_toArray, List.getElem_cons_succ, List.getElem_cons_zero, List.setIfInBounds_toArray, List.set_cons_zero, List.set_cons_succ]
        refine wpAnyH_take (i := 3) (v := ?vb3) rfl (by kernel_rfl) (by kernel_rfl) (by kernel_rfl) (fun _ _ _ h => h) (Or.inl ⟨by rfl, ?hyb3⟩) (by assumption) ?restb3
        case hyb3 =>
          intro w hSw
          try dsimp only at hSw
          go_simp
          all_goals with_reducible rfl
        simp only [Act.put, List.getElem_toArray, List.getElem_cons_succ, List.getElem_cons_zero, List.setIfInBounds_toArray, List.set_cons_zero, List.set_cons_succ]
        refine wpAnyH_take (i := 4) (v := ?vb4) rfl (by kernel_rfl) (by kernel_rfl) (by kernel_rfl) (fun _ _ _ h => h) (Or.inl ⟨by rfl, ?hyb4⟩) (by assumption) ?restb4
        case hyb4 =>
          intro w hSw
          try dsimp only at hSw
          go_simp
          all_goals with_reducible rfl
        simp only [Act.put, List.getElem_toArray, List.getElem_cons_succ, List.getElem_cons_zero, List.setIfInBounds_toArray, List.set_cons_zero, List.set_cons_succ]
        refine wpAnyH_take (i := 5) (v := ?vb5) rfl (by kernel_rfl) (by kernel_rfl) (by kernel_rfl) (fun _ _ _ h => h) (Or.inl ⟨by rfl, ?hyb5⟩) (by assumption) ?restb5
        case hyb5 =>
          intro w hSw
          try dsimp only at hSw
          go_simp
          all_goals with_reducible rfl
        simp only [Act.put, List.getElem_toArray, List.getElem_cons_succ, List.getElem_cons_zero, List.setIfInBounds_toArray, List.set_cons_zero, List.set_cons_succ]
        refine wpAnyH_take (i := 6) (v := ?vb6) rfl (by kernel_rfl) (by kernel_rfl) (by kernel_rfl) (fun _ _ _ h => h) (Or.inl ⟨by rfl, ?hyb6⟩) (by assumption) ?restb6
        case hyb6 =>
          intro w hSw
          try dsimp only at hSw
          go_simp
          all_goals with_reducible rfl
        simp only [Act.put, List.getElem_toArray, List.getElem_cons_succ, List.getElem_cons_zero, List.setIfInBounds_toArray, List.set_cons_zero, List.set_cons_succ]
        refine wpAnyH_take (i := 7) (v := ?vb7) rfl (by kernel_rfl) (by kernel_rfl) (by kernel_rfl) (fun _ _ _ h => h) (Or.inl ⟨by rfl, ?hyb7⟩) (by assumption) ?restb7
        case hyb7 =>
          intro w hSw
          try dsimp only at hSw
          go_simp
          all_goals with_reducible rfl
        simp only [Act.put, List.getElem_toArray, List.getElem_cons_succ, List.getElem_cons_zero, List.setIfInBounds_toArray, List.set_cons_zero, List.set_cons_succ]
        refine wpAnyH_take (i := 8) (v := ?vb8) rfl (by kernel_rfl) (by kernel_rfl) (by kernel_rfl) (fun _ _ _ h => h) (Or.inl ⟨by rfl, ?hyb8⟩) (by assumption) ?restb8
        case hyb8 =>
          intro w hSw
          try dsimp only at hSw
          go_simp
          all_goals with_reducible rfl
        simp only [Act.put, List.getElem_toArray, List.getElem_cons_succ, List.getElem_cons_zero, List.setIfInBounds_toArray, List.set_cons_zero, List.set_cons_succ]
        clear hHeld
        refine wpAnyH_done (by kernel_rfl) ?_ _
        refine NoPanic.normal ?_
        go_wp2_with fail
        refine ⟨⟨k + 1, rs ++ [(x0, x1, x2, x3, x4, x5)], st2, by omega, by simp, Lib.hid ?_, Lib.hid (HB2.out.drewU (Sep.framed MapS.framed (Sep.framed OwS.framed (Sep.framed (Sep.framed MapS.framed OwS.framed) OwS.framed))))⟩, ?_⟩
        · rw [HDS.out, mBatch_snoc, HE.out]
          simp only [HD.out]
        · first | omega | (simp only [intOf]; omega)
      · obtain rfl : k = ds.length := by omega
        have HEE := Lib.hid (show mBatch kind cap (List.replicate n.toNat ([], [])) ds = (rs, st) by have := HE.out; rwa [List.take_length] at this)
        have HGa := Lib.hid (show MGood kind cap al (mBatch kind cap (List.replicate n.toNat ([], [])) ds).2 from mBatch_good HGA.out ds)
        have HGb := Lib.hid (show MGood kind cap bl st by have := mBatch_good HGB.out ds; rwa [HEE.out] at this)
        go_wp2_with fail
        obtain ⟨_, hR⟩ := V.out.getR
        have hMA := (((hR.right (Sep.framed (Sep.framed MapS.framed OwS.framed) OwS.framed)).left (Sep.framed MapS.framed OwS.framed)).left MapS.framed)
        have HW := Lib.hid (cmapWalk_ hMA HGa.out)
        clear hR hMA HE
        refine (V.out.callNew (Sep.framed MapS.framed (Sep.framed OwS.framed (Sep.framed (Sep.framed MapS.framed OwS.framed) OwS.framed))) (Yx := fun v S w => OwS ePair 65 S w v (allP (mBatch kind cap (List.replicate n.toNat ([], [])) ds).2)) (E := fun v e => e = .returned v) (fun _ => OwS.framed) HW.out).mono ?_
        rintro e w7 ⟨vw, rfl, h7⟩
        obtain ⟨_, ⟨⟨_, aw, cw, rfl, _⟩, _⟩⟩ := h7.getR
        have H7 := Lib.hid h7
        clear h7 V HW
        have HNA := Lib.hid (show (allP (mBatch kind cap (List.replicate n.toNat ([], [])) ds).2).length ≤ 64 by have := allP_len HGa.out.good; have h1 := HGa.out.len; have h2 := HGa.out.n4; omega)
        go_wp2_with fail
        obtain ⟨N, hN⟩ : ∃ N, N = (allP (mBatch kind cap (List.replicate n.toNat ([], [])) ds).2).length := ⟨_, rfl⟩
        have HN := Lib.hid hN
        rw [← hN] at H7 HNA ⊢
        clear hN
        go_loopw [16] (fun t16 wr => ∃ (k : Nat) (zs : List PairD), k ≤ N ∧ zs.length = N ∧ t16 = .int .i64 k ∧ Hid (Upd (Sep (Sep (MapS mb kind cap bl st) (Sep (fun S w => OwS eRes 38 S w u13 rs) (Sep (Sep (MapS ma kind cap al (mBatch kind cap (List.replicate n.toNat ([], [])) ds).2) (fun S w => OwS eRes 38 S w vx (mBatch kind cap (List.replicate n.toNat ([], [])) ds).1)) (fun S w => OwS eItem 42 S w (.slice ai ds.length ci) ds)))) (fun S w => OwS ePair 65 S w (.slice aw N cw) zs)) (fun _ => False) w wr)) (fun t16 _ => N - (intOf t16).toNat)
        case atStart => exact ⟨0, _, Nat.zero_le _, HN.out.symm, rfl, H7⟩
        case round =>
          clear H7
          obtain ⟨j, zs, hj, hzl, rfl, V⟩ := hrel
          have hn64 := HNA.out
          by_cases hjl : j < N
          · obtain ⟨B, hB, hb⟩ := V.out.1.focusR (Sep.framed MapS.framed (Sep.framed OwS.framed (Sep.framed (Sep.framed MapS.framed OwS.framed) OwS.framed)))
            obtain ⟨pb, po, rfl, _, hcell⟩ := hB.1.at_ j (by omega)
            obtain ⟨q0, e0⟩ := hcell 0 (by decide)
            obtain ⟨q1, e1⟩ := hcell 1 (by decide)
            rw [← Nat.add_assoc] at q1 e1
            rw [Nat.add_zero] at q0 e0
            have c0 : wr.cell? ⟨pb, po + j * 2, none⟩ = some (.int .u64 zs[j].1) := q0
            have c1 : wr.cell? ⟨pb, po + j * 2 + 1, none⟩ = some (.int .u64 zs[j].2) := q1
            have f0 : wr.frozen? ⟨pb, po + j * 2, none⟩ = false := e0
            have f1 : wr.frozen? ⟨pb, po + j * 2 + 1, none⟩ = false := e1
            have d1 : (wr.setCell ⟨pb, po + j * 2, none⟩ (.int .u64 7777)).cell? ⟨pb, po + j * 2 + 1, none⟩ = some (.int .u64 zs[j].2) := (World.cell?_setCell_other _ _ _ _ (by simp)).trans c1
            generalize zs[j].1 = z0 at *
            generalize zs[j].2 = z1 at *
            have hst : wr.setCells pb (po + j * ePair.size) (ePair.cells (7777, 0)) = (wr.setCell ⟨pb, po + j * 2, none⟩ (.int .u64 7777)).setCell ⟨pb, po + j * 2 + 1, none⟩ (.int .u64 0) := by simp [World.setCells]
            obtain ⟨hos, hO3⟩ := hB.store j (by omega) ((7777, 0) : PairD)
            have HV2 := Lib.hid (V.out.step (Sep.framed (Sep.framed MapS.framed (Sep.framed OwS.framed (Sep.framed (Sep.framed MapS.framed OwS.framed) OwS.framed))) OwS.framed) (hb (fun S w => OwS ePair 65 S w _ (zs.set j (7777, 0))) _ OwS.framed ⟨OwS.framed.mono _ _ _ hos fun k _ h => .inl h, hO3⟩))
            rw [hst] at HV2
            have HZ := Lib.hid (show (zs.set j (7777, 0)).length = N by simpa using hzl)
            have hi0 : (0 : Int) ≤ (j : Int) := by omega
            have hi1 : (j : Int) < (N : Int) := by omega
            clear hB hb hcell q0 q1 e0 e1 hst hO3 hos V
            go_wp2_with fail
            refine ⟨⟨j + 1, _, by omega, HZ.out, by simp, HV2⟩, ?_⟩
            first | omega | (simp only [intOf]; omega)
          · obtain rfl : j = N := by omega
            obtain ⟨B, hB, hb⟩ := V.out.1.focusR (Sep.framed MapS.framed (Sep.framed OwS.framed (Sep.framed (Sep.framed MapS.framed OwS.framed) OwS.framed)))
            have HOW := Lib.hid (show OwS ePair 65 B (wr.alloc (.cells #[.int .u64 0, .int .u64 0] 65 (0, 0))) (.slice aw j cw) zs from OwS.framed.alloc hB _)
            have HRD := Lib.hid (Rd.lit (E := ePair) wr #[.int .u64 0, .int .u64 0] 65 (0, 0) 1 1 [(0, 0)] rfl rfl (Nat.le_refl _) (by decide))
            have HBK := Lib.hid (fun (v2 : Value) (w2 : World) (h2 : OwS ePair 65 (fun k => B k ∨ wr.heap.size ≤ k) w2 v2 (zs ++ [(0, 0)])) (ho2 : Only B (wr.alloc (.cells #[.int .u64 0, .int .u64 0] 65 (0, 0))) w2) => V.out.step (Sep.framed (Sep.framed MapS.framed (Sep.framed OwS.framed (Sep.framed (Sep.framed MapS.framed OwS.framed) OwS.framed))) OwS.framed) (hb (fun S w => OwS ePair 65 S w v2 (zs ++ [(0, 0)])) w2 OwS.framed ⟨h2, (Only.alloc _ _ _).tr ho2⟩))
            clear hB hb
            go_wp2_with (at_builtin; refine wl_appendS (E := ePair) rfl _ (.tmp 112) _ rfl 65 16 ePair_slice _ _ zs rfl HOW.out _ [(0, 0)] rfl HRD.out (by simp only [List.length_cons, List.length_nil]; omega) (by unfold maxLen; simp only [List.length_cons, List.length_nil]; omega) ?_)
            intro v2 w8 hown8 hO8
            have U8 := Lib.hid (HBK.out v2 w8 (OwS.framed.mono _ _ _ hown8 fun k _ h => h.imp id fun h => Nat.le_of_succ_le h) hO8)
            have HL8 := Lib.hid (show (zs ++ [((0, 0) : PairD)]).length = j + 1 by simp; omega)
            obtain ⟨⟨_, a8, c8, rfl, _⟩, _⟩ := hown8
            rw [HL8.out]
            clear hO8 HBK HOW HRD V
            have he1 : (mBatch kind cap (List.replicate n.toNat ([], [])) ds).1 = rs := by rw [HEE.out]
            have he2 : (mBatch kind cap (List.replicate n.toNat ([], [])) ds).2 = st := by rw [HEE.out]
            have U9 := U8.out
            rw [he1, he2] at U9
            rw [he2] at HGa HN
            have HU9 := Lib.hid U9
            clear U9 U8 he1 he2
            go_wp2_with fail
            obtain ⟨_, hZ⟩ := HU9.out.getL
            have hY := (hZ.right (Sep.framed OwS.framed (Sep.framed (Sep.framed MapS.framed OwS.framed) OwS.framed))).left OwS.framed
            have hX2 := (((hZ.right (Sep.framed OwS.framed (Sep.framed (Sep.framed MapS.framed OwS.framed) OwS.framed))).right (Sep.framed (Sep.framed MapS.framed OwS.framed) OwS.framed)).left (Sep.framed MapS.framed OwS.framed)).right OwS.framed
            refine (HU9.out.callRead (Sep.framed (Sep.framed MapS.framed (Sep.framed OwS.framed (Sep.framed (Sep.framed MapS.framed OwS.framed) OwS.framed))) OwS.framed) (E := fun e => e = .returned (.bool true)) (results_eq rs _ _ _ hX2.rd hY.rd)).mono ?_
            rintro e w9 ⟨rfl, h9⟩
            have H9 := Lib.hid h9
            clear h9 hZ hY hX2 HU9
            go_wp2_with fail
            obtain ⟨_, hZ⟩ := H9.out.getL
            have hMA := (((hZ.right (Sep.framed OwS.framed (Sep.framed (Sep.framed MapS.framed OwS.framed) OwS.framed))).right (Sep.framed (Sep.framed MapS.framed OwS.framed) OwS.framed)).left (Sep.framed MapS.framed OwS.framed)).left MapS.framed
            refine (H9.out.callNew (Sep.framed (Sep.framed MapS.framed (Sep.framed OwS.framed (Sep.framed (Sep.framed MapS.framed OwS.framed) OwS.framed))) OwS.framed) (Yx := fun v S w => OwS ePair 65 S w v (allP st)) (E := fun v e => e = .returned v) (fun _ => OwS.framed) (cmapWalk_ hMA HGa.out)).mono ?_
            rintro e w10 ⟨va, rfl, h10⟩
            have H10 := Lib.hid h10
            clear h10 hZ hMA H9
            go_wp2_with fail
            obtain ⟨_, hZ⟩ := H10.out.getL
            have hMB := (hZ.left (Sep.framed MapS.framed (Sep.framed OwS.framed (Sep.framed (Sep.framed MapS.framed OwS.framed) OwS.framed)))).left MapS.framed
            refine (H10.out.callNew (Sep.framed (Sep.framed (Sep.framed MapS.framed (Sep.framed OwS.framed (Sep.framed (Sep.framed MapS.framed OwS.framed) OwS.framed))) OwS.framed) OwS.framed) (Yx := fun v S w => OwS ePair 65 S w v (allP st)) (E := fun v e => e = .returned v) (fun _ => OwS.framed) (cmapWalk_ hMB HGb.out)).mono ?_
            rintro e w11 ⟨vb, rfl, h11⟩
            have H11 := Lib.hid h11
            clear h11 hZ hMB H10
            go_wp2_with fail
            obtain ⟨_, hb1⟩ := H11.out.getR
            obtain ⟨_, hZ⟩ := H11.out.getL
            have ha1 := hZ.right OwS.framed
            refine (H11.out.callRead (Sep.framed (Sep.framed (Sep.framed (Sep.framed MapS.framed (Sep.framed OwS.framed (Sep.framed (Sep.framed MapS.framed OwS.framed) OwS.framed))) OwS.framed) OwS.framed) OwS.framed) (E := fun e => e = .returned (.bool true)) (pairs_eq (allP st) _ _ _ ha1.rd hb1.rd)).mono ?_
            rintro e w12 ⟨rfl, h12⟩
            have H12 := Lib.hid (show Upd (MapS ma kind cap al st) (fun _ => False) w w12 from h12.imp fun _ h => ((((((h.left (Sep.framed (Sep.framed (Sep.framed MapS.framed (Sep.framed OwS.framed (Sep.framed (Sep.framed MapS.framed OwS.framed) OwS.framed))) OwS.framed) OwS.framed)).left (Sep.framed (Sep.framed MapS.framed (Sep.framed OwS.framed (Sep.framed (Sep.framed MapS.framed OwS.framed) OwS.framed))) OwS.framed)).left (Sep.framed MapS.framed (Sep.framed OwS.framed (Sep.framed (Sep.framed MapS.framed OwS.framed) OwS.framed)))).right (Sep.framed OwS.framed (Sep.framed (Sep.framed MapS.framed OwS.framed) OwS.framed))).right (Sep.framed (Sep.framed MapS.framed OwS.framed) OwS.framed)).left (Sep.framed MapS.framed OwS.framed)).left MapS.framed)
            clear h12 hZ hb1 ha1 H11
            go_wp2_with fail
            refine (cmapBatch_ H12.out.1 HGa.out (ds := []) (OwS.nil (E := eItem) (ty := 42) (fun _ => False) _).rd (fun k hk => by simp [Value.ownBlock] at hk) (by decide)).mono ?_
            rintro e w13 ⟨v13, rfl, h13⟩
            obtain ⟨_, ⟨⟨_, a13, c13, rfl, _⟩, _⟩⟩ := h13.getR
            have H13 := Lib.hid (show Upd (MapS ma kind cap al st) (fun _ => False) w w13 from (H12.out.step (Sep.framed MapS.framed OwS.framed) h13).imp fun _ h => h.left MapS.framed)
            clear h13 H12
            simp only [mBatch, List.length_nil]
            go_wp2_with fail
            refine (H13.out.callRead MapS.framed (E := fun e => e = .returned (.int .i64 (j : Int))) (by rw [HN.out]; exact cmapLen_ H13.out.1 HGa.out)).mono ?_
            rintro e w14 ⟨rfl, h14⟩
            have H14 := Lib.hid h14
            have hee : (((j + 1 : Nat) : Int) == (j : Int) + 1) = true := by simp
            clear h14 H13
            go_wp2_with fail
            go_ret
            exact ⟨rfl, St.below H14.out⟩
end Go.Proofs.Ythppleegiieneaa
