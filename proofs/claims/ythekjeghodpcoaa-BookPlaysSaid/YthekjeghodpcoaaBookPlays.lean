/- The law BookPlays: its walk. -/
import Derived.Test.YthekjeghodpcoaaBookRefP
import Derived.Test.YthekjeghodpcoaaBookDec
import Derived.Test.YthekjeghodpcoaaBookFills
import Derived.Deep.RegionHeld3
namespace Go.Proofs.Ythekjeghodpcoaa
open Go.RowKit
set_option linter.unusedVariables false
set_option linter.unusedSimpArgs false

theorem wpAnyH_weak {P : Program} {ops : Array Oper} {Q : Exit → Act → World → Prop} {md : Region.Mode} {S S' : World → Prop} (h : ∀ w, S' w → S w) : ∀ (fuel : Nat) (listed : Array Bool) (a : Act) (w : World), wpAnyH P md ops Q S' fuel listed a w → wpAnyH P md ops Q S fuel listed a w
  | 0, _, _, _, h0 => h0
  | fuel + 1, _, _, _, h0 => ⟨h0.1, fun i hi => wpOp_mono (fun a' w' h' => ⟨h _ h'.1, wpAnyH_weak h fuel _ a' w' h'.2⟩) (h0.2 i hi)⟩
theorem neq_all (r : ResD) (w : World) : (binOp .neq 30 (.agg #[.int .i64 r.1, .bool r.2.1, .int .u64 r.2.2.1, .bool r.2.2.2.1, .int .u64 r.2.2.2.2.1, .int .u64 r.2.2.2.2.2]) (.agg #[.int .i64 r.1, .bool r.2.1, .int .u64 r.2.2.1, .bool r.2.2.2.1, .int .u64 r.2.2.2.2.1, .int .u64 r.2.2.2.2.2])).run Try.prog w = .ok (.bool false) w := by
  have := eRes_neq r r w
  simpa using this
set_option maxRecDepth 100000 in
set_option maxHeartbeats 4000000 in
theorem bookPlays_bad (cap : Int) (v : Value) (w : World) (h : cap < 1 ∨ 16 < cap) :
    Calls Try.prog 4 #[.int .i64 cap, v] w fun e w' => e = .returned (.bool true) ∧ Below w.heap.size w w' := by
  go_enter Try.func4, Try.ntmps4
  go_wp2_with fail
  refine (awake_any _).mono ?_
  rintro e w1 ⟨rfl, hb1⟩
  go_wp2_with fail
  refine (new_bad cap _ h).mono ?_
  rintro e w2 ⟨rfl, hO2⟩
  go_wp2_with fail
  refine (refNew_bad cap _ h).mono ?_
  rintro e w3 ⟨rfl, hO3⟩
  go_wp2_with fail
  go_ret
  exact ⟨rfl, bthen (bthen hb1 (hO2.below (Nat.le_refl _) (fun _ h => h.elim))) (hO3.below (Nat.le_refl _) (fun _ h => h.elim))⟩
set_option maxRecDepth 100000 in
set_option maxHeartbeats 8000000 in
theorem bookPlays_yes (cap : Int) (h1 : 1 ≤ cap) (h2 : cap ≤ 16) (ds : List DoD) (v : Value) (w : World) (hv : Rd eDo w v ds) :
    Calls Try.prog 4 #[.int .i64 cap, v] w fun e w' => e = .returned (.bool true) ∧ Below w.heap.size w w' := by
  obtain ⟨hmx, ao, c, rfl, hcap, _, _⟩ := id hv
  unfold maxLen at hmx
  have HV := Lib.hid hv
  clear hv
  go_enter Try.func4, Try.ntmps4
  go_wp2_with fail
  refine (awake_any _).mono ?_
  rintro e w1 ⟨rfl, hb1⟩
  go_wp2_with fail
  refine (newL NoX.framed NoX.framed (LSt.start hb1) cap h1 h2).mono ?_
  rintro e w2 ⟨b, rfl, hL2⟩
  have HL2 := Lib.hid hL2
  clear hb1 hL2
  go_wp2_with fail
  refine (refNewL BookS.framed NoX.framed HL2.out cap h1 h2).mono ?_
  rintro e w3 ⟨x, rfl, hL3⟩
  have HL3 := Lib.hid hL3
  have HA0 := Lib.hid (show Alike cap [] [] from ⟨good_nil h1 h2, rfl, fun _ => Iff.rfl, List.Pairwise.nil⟩)
  clear hL3 HL2 h1 h2
  go_wp2_with fail
  refine (capL RefS.framed NoX.framed HL3.out).mono ?_
  rintro e w4 ⟨rfl, hL4⟩
  have HL4 := Lib.hid hL4
  clear hL4 HL3
  go_wp2_with fail
  go_loopw [9, 10] (fun t9 t10 wr => ∃ (k : Nat) (xs L : List PairD), k ≤ ds.length ∧ t9 = .int .i64 k ∧ Hid (Alike cap xs L) ∧ Hid (LSt (BookS b cap xs) (RefS x cap L) NoX w wr)) (fun t9 _ _ => ds.length - (intOf t9).toNat)
  case atStart => exact ⟨0, [], [], Nat.zero_le _, rfl, HA0, HL4⟩
  case round =>
    clear HL4 HA0
    obtain ⟨k, xs, L, hk, rfl, HA, V⟩ := hrel
    by_cases hlt : k < ds.length
    · obtain ⟨_, ao', cap', hao, _, _, hx⟩ := HV.out
      obtain ⟨rfl, _, rfl⟩ : ao = ao' ∧ ds.length = ds.length ∧ c = cap' := by simpa using hao
      obtain ⟨sb, off, rfl, hc⟩ := hx (by omega)
      obtain ⟨c0, c1, c2⟩ := do_cells hc k hlt
      have hlb := Rd.lt HV.out (by omega)
      have hi0 : (0 : Int) ≤ (k : Int) := by omega
      have hi1 : (k : Int) < (ds.length : Int) := by omega
      clear hc hx hao
      generalize ds[k].1 = op at *
      generalize ds[k].2.1 = dk at *
      generalize ds[k].2.2 = dv at *
      obtain ⟨d0, d1, d2⟩ := keepD V.out.below hlb c0 c1 c2
      clear c0 c1 c2 hlb
      go_wp2_with fail
      have HVa := Lib.hid ((V.out.newX (Y := Blk wr.heap.size (.cells #[.int .i64 op, .int .u64 dk, .int .u64 dv] 34)) BookS.framed RefS.framed NoX.framed Blk.framed ⟨heap_alloc_new wr _, Nat.le_refl _⟩ (Only.alloc _ _ _)).wide (X' := Blk wr.heap.size (.cells #[.int .i64 op, .int .u64 dk, .int .u64 dv] 34)) fun S h => h.2)
      have HFX := Lib.hid (Blk.framed (g := wr.heap.size) (o := (.cells #[.int .i64 op, .int .u64 dk, .int .u64 dv] 34)))
      obtain ⟨r, xs2, hd⟩ : ∃ r xs2, doP cap xs op dk dv = (r, xs2) := ⟨_, _, rfl⟩
      obtain ⟨L2, hA2, hrc⟩ := refDo_any x cap xs L op dk dv HA.out
      rw [hd] at hA2 hrc
      dsimp only at hA2 hrc
      have HD := Lib.hid hd
      have HA2 := Lib.hid hA2
      have HRC := Lib.hid hrc
      have HG := Lib.hid HA.out.good
      have hz := neq_all r
      clear hd hA2 hrc d0 d1 d2 V
      generalize wr.heap.size = ob at *
      generalize World.alloc wr _ = wa at *
      obtain ⟨_, hbi⟩ := HVa.out.rest
      have d0 : wa.cell? ⟨ob, 0, none⟩ = some (.int .i64 op) := blk_cell hbi.1 0
      have d1 : wa.cell? ⟨ob, 1, none⟩ = some (.int .u64 dk) := blk_cell hbi.1 1
      have d2 : wa.cell? ⟨ob, 2, none⟩ = some (.int .u64 dv) := blk_cell hbi.1 2
      clear hbi
      have hll : (xs2.length : Int) = (L2.length : Int) := by have := HA2.out.len; omega
      refine wp_region_noPanic ?_
      refine wp_region_held_drew (S := fun w' => w'.cell? ⟨ob, 0, none⟩ = some (.int .i64 op) ∧ w'.cell? ⟨ob, 1, none⟩ = some (.int .u64 dk) ∧ w'.cell? ⟨ob, 2, none⟩ = some (.int .u64 dv)) (by kernel_rfl) ?_ (fun hHeld => ?_)
      · exact ⟨d0, d1, d2⟩
      try simp only [Act.put, List.getElem_toArray, List.getElem_cons_succ, List.getElem_cons_zero, List.setIfInBounds_toArray, List.set_cons_zero, List.set_cons_succ]
      refine wpAnyH_take (i := 0) (v := ?v0) rfl (by kernel_rfl) (by kernel_rfl) (by kernel_rfl) (fun _ _ _ h => h) (Or.inl ⟨by rfl, ?hy0⟩) (by assumption) ?rest0
      case hy0 =>
        intro w hSw
        try dsimp only at hSw
        go_simp
        all_goals with_reducible rfl
      simp only [Act.put, List.getElem_toArray, List.getElem_cons_succ, List.getElem_cons_zero, List.setIfInBounds_toArray, List.set_cons_zero, List.set_cons_succ]
      refine wpAnyH_take (i := 1) (v := ?v1) rfl (by kernel_rfl) (by kernel_rfl) (by kernel_rfl) (fun _ _ _ h => h) (Or.inl ⟨by rfl, ?hy1⟩) (by assumption) ?rest1
      case hy1 =>
        intro w hSw
        try dsimp only at hSw
        go_simp
        all_goals with_reducible rfl
      simp only [Act.put, List.getElem_toArray, List.getElem_cons_succ, List.getElem_cons_zero, List.setIfInBounds_toArray, List.set_cons_zero, List.set_cons_succ]
      refine wpAnyH_take (i := 2) (v := ?v2) rfl (by kernel_rfl) (by kernel_rfl) (by kernel_rfl) (fun _ _ _ h => h) (Or.inl ⟨by rfl, ?hy2⟩) (by assumption) ?rest2
      case hy2 =>
        intro w hSw
        try dsimp only at hSw
        go_simp
        all_goals with_reducible rfl
      simp only [Act.put, List.getElem_toArray, List.getElem_cons_succ, List.getElem_cons_zero, List.setIfInBounds_toArray, List.set_cons_zero, List.set_cons_succ]
      refine wpAnyH_take (i := 3) (v := ?v3) rfl (by kernel_rfl) (by kernel_rfl) (by kernel_rfl) (fun _ _ _ h => h) (Or.inl ⟨by rfl, ?hy3⟩) (by assumption) ?rest3
      case hy3 =>
        intro w hSw
        try dsimp only at hSw
        go_simp
        all_goals with_reducible rfl
      simp only [Act.put, List.getElem_toArray, List.getElem_cons_succ, List.getElem_cons_zero, List.setIfInBounds_toArray, List.set_cons_zero, List.set_cons_succ]
      refine wpAnyH_take (i := 4) (v := ?v4) rfl (by kernel_rfl) (by kernel_rfl) (by kernel_rfl) (fun _ _ _ h => h) (Or.inl ⟨by rfl, ?hy4⟩) (by assumption) ?rest4
      case hy4 =>
        intro w hSw
        try dsimp only at hSw
        go_simp
        all_goals with_reducible rfl
      simp only [Act.put, List.getElem_toArray, List.getElem_cons_succ, List.getElem_cons_zero, List.setIfInBounds_toArray, List.set_cons_zero, List.set_cons_succ]
      refine wpAnyH_take (i := 5) (v := ?v5) rfl (by kernel_rfl) (by kernel_rfl) (by kernel_rfl) (fun _ _ _ h => h) (Or.inl ⟨by rfl, ?hy5⟩) (by assumption) ?rest5
      case hy5 =>
        intro w hSw
        try dsimp only at hSw
        go_simp
        all_goals with_reducible rfl
      simp only [Act.put, List.getElem_toArray, List.getElem_cons_succ, List.getElem_cons_zero, List.setIfInBounds_toArray, List.set_cons_zero, List.set_cons_succ]
      refine wpAnyH_take (i := 6) (v := ?v6) rfl (by kernel_rfl) (by kernel_rfl) (by kernel_rfl) (fun _ _ _ h => h) (Or.inl ⟨by rfl, ?hy6⟩) (by assumption) ?rest6
      case hy6 =>
        intro w hSw
        try dsimp only at hSw
        go_simp
        all_goals with_reducible rfl
      simp only [Act.put, List.getElem_toArray, List.getElem_cons_succ, List.getElem_cons_zero, List.setIfInBounds_toArray, List.set_cons_zero, List.set_cons_succ]
      refine wpAnyH_take (i := 8) (v := ?v8) rfl (by kernel_rfl) (by kernel_rfl) (by kernel_rfl) (fun _ _ _ h => h) (Or.inl ⟨by rfl, ?hy8⟩) (by assumption) ?rest8
      case hy8 =>
        intro w hSw
        try dsimp only at hSw
        go_simp
        all_goals with_reducible rfl
      simp only [Act.put, List.getElem_toArray, List.getElem_cons_succ, List.getElem_cons_zero, List.setIfInBounds_toArray, List.set_cons_zero, List.set_cons_succ]
      refine wpAnyH_take (i := 9) (v := ?v9) rfl (by kernel_rfl) (by kernel_rfl) (by kernel_rfl) (fun _ _ _ h => h) (Or.inl ⟨by rfl, ?hy9⟩) (by assumption) ?rest9
      case hy9 =>
        intro w hSw
        try dsimp only at hSw
        go_simp
        all_goals with_reducible rfl
      simp only [Act.put, List.getElem_toArray, List.getElem_cons_succ, List.getElem_cons_zero, List.setIfInBounds_toArray, List.set_cons_zero, List.set_cons_succ]
      refine wpAnyH_take (i := 10) (v := ?v10) rfl (by kernel_rfl) (by kernel_rfl) (by kernel_rfl) (fun _ _ _ h => h) (Or.inl ⟨by rfl, ?hy10⟩) (by assumption) ?rest10
      case hy10 =>
        intro w hSw
        try dsimp only at hSw
        go_simp
        all_goals with_reducible rfl
      simp only [Act.put, List.getElem_toArray, List.getElem_cons_succ, List.getElem_cons_zero, List.setIfInBounds_toArray, List.set_cons_zero, List.set_cons_succ]
      refine wpAnyH_take (i := 11) (v := ?v11) rfl (by kernel_rfl) (by kernel_rfl) (by kernel_rfl) (fun _ _ _ h => h) (Or.inl ⟨by rfl, ?hy11⟩) (by assumption) ?rest11
      case hy11 =>
        intro w hSw
        try dsimp only at hSw
        go_simp
        all_goals with_reducible rfl
      simp only [Act.put, List.getElem_toArray, List.getElem_cons_succ, List.getElem_cons_zero, List.setIfInBounds_toArray, List.set_cons_zero, List.set_cons_succ]
      refine wpAnyH_take (i := 12) (v := ?v12) rfl (by kernel_rfl) (by kernel_rfl) (by kernel_rfl) (fun _ _ _ h => h) (Or.inl ⟨by rfl, ?hy12⟩) (by assumption) ?rest12
      case hy12 =>
        intro w hSw
        try dsimp only at hSw
        go_simp
        all_goals with_reducible rfl
      simp only [Act.put, List.getElem_toArray, List.getElem_cons_succ, List.getElem_cons_zero, List.setIfInBounds_toArray, List.set_cons_zero, List.set_cons_succ]
      refine wpAnyH_take (i := 13) (v := ?v13) rfl (by kernel_rfl) (by kernel_rfl) (by kernel_rfl) (fun _ _ _ h => h) (Or.inl ⟨by rfl, ?hy13⟩) (by assumption) ?rest13
      case hy13 =>
        intro w hSw
        try dsimp only at hSw
        go_simp
        all_goals with_reducible rfl
      simp only [Act.put, List.getElem_toArray, List.getElem_cons_succ, List.getElem_cons_zero, List.setIfInBounds_toArray, List.set_cons_zero, List.set_cons_succ]
      refine wpAnyH_take (i := 14) (v := ?v14) rfl (by kernel_rfl) (by kernel_rfl) (by kernel_rfl) (fun _ _ _ h => h) (Or.inl ⟨by rfl, ?hy14⟩) (by assumption) ?rest14
      case hy14 =>
        intro w hSw
        try dsimp only at hSw
        go_simp
        all_goals with_reducible rfl
      simp only [Act.put, List.getElem_toArray, List.getElem_cons_succ, List.getElem_cons_zero, List.setIfInBounds_toArray, List.set_cons_zero, List.set_cons_succ]
      refine wpAnyH_ready (rs := [7]) (by kernel_rfl) (by simp) ?_
      refine AllReadyH.cons rfl (fun K hK => ?_) AllReadyH.nil
      go_simp
      refine (doV RefS.framed HFX.out (HVa.out.drew BookS.framed RefS.framed HFX.out) HG.out HD.out).mono ?_
      rintro e wi ⟨rfl, hVi⟩
      have HVi := Lib.hid hVi
      clear hVi
      obtain ⟨_, hbi⟩ := HVi.out.rest
      have d0 : wi.cell? ⟨ob, 0, none⟩ = some (.int .i64 op) := blk_cell hbi.1 0
      have d1 : wi.cell? ⟨ob, 1, none⟩ = some (.int .u64 dk) := blk_cell hbi.1 1
      have d2 : wi.cell? ⟨ob, 2, none⟩ = some (.int .u64 dv) := blk_cell hbi.1 2
      clear hbi
      try go_wp2_with fail
      refine hK.out _ _ ?_ (fun hHeld => ?_)
      · exact ⟨d0, d1, d2⟩
      clear hK K
      try simp only [Act.put, List.getElem_toArray, List.getElem_cons_succ, List.getElem_cons_zero, List.setIfInBounds_toArray, List.set_cons_zero, List.set_cons_succ]
      refine wpAnyH_ready (rs := [15]) (by kernel_rfl) (by simp) ?_
      refine AllReadyH.cons rfl (fun K hK => ?_) AllReadyH.nil
      go_simp
      refine (refDoL BookS.framed HFX.out HVi.out HRC.out).mono ?_
      rintro e wj ⟨rfl, hVj⟩
      have HVj := Lib.hid hVj
      clear hVj
      obtain ⟨_, hbi⟩ := HVj.out.rest
      have d0 : wj.cell? ⟨ob, 0, none⟩ = some (.int .i64 op) := blk_cell hbi.1 0
      have d1 : wj.cell? ⟨ob, 1, none⟩ = some (.int .u64 dk) := blk_cell hbi.1 1
      have d2 : wj.cell? ⟨ob, 2, none⟩ = some (.int .u64 dv) := blk_cell hbi.1 2
      clear hbi
      obtain ⟨_, hxj⟩ := HVj.out.second
      obtain ⟨vx, hxg, hxo, _, _⟩ := hxj
      obtain ⟨_, xo, xc, rfl, _⟩ := id hxo.rd
      have x1 : wj.cell? ⟨x, 1, none⟩ = some (.slice xo L2.length xc) := cells_of_heap hxg 1 _ rfl
      have HXG := Lib.hid hxg
      clear hxg hxo
      try go_wp2_with fail
      refine hK.out _ _ ?_ (fun hHeld => ?_)
      · exact ⟨d0, d1, d2⟩
      clear hK K
      try simp only [Act.put, List.getElem_toArray, List.getElem_cons_succ, List.getElem_cons_zero, List.setIfInBounds_toArray, List.set_cons_zero, List.set_cons_succ]
      have hSt := And.intro hHeld x1
      refine wpAnyH_weak (S' := fun w' => (w'.cell? ⟨ob, 0, none⟩ = some (.int .i64 op) ∧ w'.cell? ⟨ob, 1, none⟩ = some (.int .u64 dk) ∧ w'.cell? ⟨ob, 2, none⟩ = some (.int .u64 dv)) ∧ w'.cell? ⟨x, 1, none⟩ = some (.slice xo L2.length xc)) (fun _ h => h.1) _ _ _ _ ?_
      clear hHeld
      refine wpAnyH_take (i := 16) (v := ?v16) rfl (by kernel_rfl) (by kernel_rfl) (by kernel_rfl) (fun _ _ _ h => h) (Or.inl ⟨by rfl, ?hy16⟩) (by assumption) ?rest16
      case hy16 =>
        intro w hSw
        try dsimp only at hSw
        go_simp
        all_goals with_reducible rfl
      simp only [Act.put, List.getElem_toArray, List.getElem_cons_succ, List.getElem_cons_zero, List.setIfInBounds_toArray, List.set_cons_zero, List.set_cons_succ]
      refine wpAnyH_take (i := 17) (v := ?v17) rfl (by kernel_rfl) (by kernel_rfl) (by kernel_rfl) (fun _ _ _ h => h) (Or.inl ⟨by rfl, ?hy17⟩) (by assumption) ?rest17
      case hy17 =>
        intro w hSw
        try dsimp only at hSw
        go_simp
        all_goals with_reducible rfl
      simp only [Act.put, List.getElem_toArray, List.getElem_cons_succ, List.getElem_cons_zero, List.setIfInBounds_toArray, List.set_cons_zero, List.set_cons_succ]
      refine wpAnyH_take (i := 18) (v := ?v18) rfl (by kernel_rfl) (by kernel_rfl) (by kernel_rfl) (fun _ _ _ h => h) (Or.inl ⟨by rfl, ?hy18⟩) (by assumption) ?rest18
      case hy18 =>
        intro w hSw
        try dsimp only at hSw
        go_simp
        all_goals with_reducible rfl
      simp only [Act.put, List.getElem_toArray, List.getElem_cons_succ, List.getElem_cons_zero, List.setIfInBounds_toArray, List.set_cons_zero, List.set_cons_succ]
      refine wpAnyH_take (i := 20) (v := ?v20) rfl (by kernel_rfl) (by kernel_rfl) (by kernel_rfl) (fun _ _ _ h => h) (Or.inl ⟨by rfl, ?hy20⟩) (by assumption) ?rest20
      case hy20 =>
        intro w hSw
        try dsimp only at hSw
        go_simp
        all_goals with_reducible rfl
      simp only [Act.put, List.getElem_toArray, List.getElem_cons_succ, List.getElem_cons_zero, List.setIfInBounds_toArray, List.set_cons_zero, List.set_cons_succ]
      refine wpAnyH_take (i := 21) (v := ?v21) rfl (by kernel_rfl) (by kernel_rfl) (by kernel_rfl) (fun _ _ _ h => h) (Or.inl ⟨by rfl, ?hy21⟩) (by assumption) ?rest21
      case hy21 =>
        intro w hSw
        try dsimp only at hSw
        go_simp
        all_goals with_reducible rfl
      simp only [Act.put, List.getElem_toArray, List.getElem_cons_succ, List.getElem_cons_zero, List.setIfInBounds_toArray, List.set_cons_zero, List.set_cons_succ]
      refine wpAnyH_take (i := 22) (v := ?v22) rfl (by kernel_rfl) (by kernel_rfl) (by kernel_rfl) (fun _ _ _ h => h) (Or.inl ⟨by rfl, ?hy22⟩) (by assumption) ?rest22
      case hy22 =>
        intro w hSw
        try dsimp only at hSw
        go_simp
        all_goals with_reducible rfl
      simp only [Act.put, List.getElem_toArray, List.getElem_cons_succ, List.getElem_cons_zero, List.setIfInBounds_toArray, List.set_cons_zero, List.set_cons_succ]
      refine wpAnyH_take (i := 23) (v := ?v23) rfl (by kernel_rfl) (by kernel_rfl) (by kernel_rfl) (fun _ _ _ h => h) (Or.inl ⟨by rfl, ?hy23⟩) (by assumption) ?rest23
      case hy23 =>
        intro w hSw
        try dsimp only at hSw
        go_simp
        all_goals with_reducible rfl
      simp only [Act.put, List.getElem_toArray, List.getElem_cons_succ, List.getElem_cons_zero, List.setIfInBounds_toArray, List.set_cons_zero, List.set_cons_succ]
      refine wpAnyH_take (i := 24) (v := ?v24) rfl (by kernel_rfl) (by kernel_rfl) (by kernel_rfl) (fun _ _ _ h => h) (Or.inl ⟨by rfl, ?hy24⟩) (by assumption) ?rest24
      case hy24 =>
        intro w hSw
        try dsimp only at hSw
        go_simp
        all_goals with_reducible rfl
      simp only [Act.put, List.getElem_toArray, List.getElem_cons_succ, List.getElem_cons_zero, List.setIfInBounds_toArray, List.set_cons_zero, List.set_cons_succ]
      refine wpAnyH_ready (rs := [19]) (by kernel_rfl) (by simp) ?_
      refine AllReadyH.cons rfl (fun K hK => ?_) AllReadyH.nil
      go_simp
      obtain ⟨_, hbS⟩ := HVj.out.first
      refine (len_any b cap xs2 _ _ hbS).mono ?_
      rintro e wk ⟨rfl, hOk⟩
      have HVk := Lib.hid (HVj.out.fresh BookS.framed RefS.framed HFX.out hOk)
      obtain ⟨_, hbi⟩ := HVk.out.rest
      have e0 : wk.cell? ⟨ob, 0, none⟩ = some (.int .i64 op) := blk_cell hbi.1 0
      have e1 : wk.cell? ⟨ob, 1, none⟩ = some (.int .u64 dk) := blk_cell hbi.1 1
      have e2 : wk.cell? ⟨ob, 2, none⟩ = some (.int .u64 dv) := blk_cell hbi.1 2
      have hXk : wk.cell? ⟨x, 1, none⟩ = some (.slice xo L2.length xc) := cells_of_heap (hOk.heap HXG.out (fun h => h)) 1 _ rfl
      clear hbi hOk hbS
      try go_wp2_with fail
      refine hK.out _ _ ?_ (fun hHeld => ?_)
      · exact ⟨⟨e0, e1, e2⟩, hXk⟩
      clear hK K
      try simp only [Act.put, List.getElem_toArray, List.getElem_cons_succ, List.getElem_cons_zero, List.setIfInBounds_toArray, List.set_cons_zero, List.set_cons_succ]
      refine wpAnyH_take (i := 25) (v := ?v25) rfl (by kernel_rfl) (by kernel_rfl) (by kernel_rfl) (fun _ _ _ h => h) (Or.inl ⟨by rfl, ?hy25⟩) (by assumption) ?rest25
      case hy25 =>
        intro w hSw
        try dsimp only at hSw
        go_simp
        all_goals with_reducible rfl
      simp only [Act.put, List.getElem_toArray, List.getElem_cons_succ, List.getElem_cons_zero, List.setIfInBounds_toArray, List.set_cons_zero, List.set_cons_succ]
      refine wpAnyH_take (i := 26) (v := ?v26) rfl (by kernel_rfl) (by kernel_rfl) (by kernel_rfl) (fun _ _ _ h => h) (Or.inl ⟨by rfl, ?hy26⟩) (by assumption) ?rest26
      case hy26 =>
        intro w hSw
        try dsimp only at hSw
        go_simp
        all_goals with_reducible rfl
      simp only [Act.put, List.getElem_toArray, List.getElem_cons_succ, List.getElem_cons_zero, List.setIfInBounds_toArray, List.set_cons_zero, List.set_cons_succ]
      clear hHeld
      refine wpAnyH_done (by kernel_rfl) ?_ _
      refine NoPanic.normal ?_
      have HVl := Lib.hid (HVk.out.wide (X' := NoX) fun _ _ => trivial)
      clear hSt d0 d1 d2 e0 e1 e2 x1 hXk HXG HVk HVj HVi HVa HRC HFX
      have hmk : IntKind.i64.wrap ((k : Int).tmod 8) = (k : Int).tmod 8 := by have h := Int.tmod_eq_emod_of_nonneg (a := (k : Int)) (b := 8) (by omega); rw [IntKind.wrap_i64]; omega
      by_cases h8 : (k : Int).tmod 8 = 7
      · have h8b : ((k : Int).tmod 8 == 7) = true := by simpa using h8
        have HG2 := Lib.hid HA2.out.good
        have h8d : decide ((k : Int).tmod 8 = 7) = true := by simpa using h8
        clear HA HG HD
        go_wp2_with fail
        refine (bpairsL RefS.framed NoX.framed HVl.out HG2.out).mono ?_
        rintro e wp ⟨vp, rfl, hLp⟩
        have HLp := Lib.hid hLp
        clear hLp
        go_wp2_with fail
        refine (refPairsL BookS.framed (NoX.framed.and OwS.framed) HLp.out HA2.out).mono ?_
        rintro e wq ⟨vq, rfl, hLq⟩
        have HLq := Lib.hid hLq
        clear hLq
        go_wp2_with fail
        obtain ⟨_, ⟨_, hb⟩, hc⟩ := HLq.out.rest
        refine (pairsCmpL BookS.framed RefS.framed ((NoX.framed.and OwS.framed).and OwS.framed) HLq.out hb.rd hc.rd).mono ?_
        rintro e wr ⟨rfl, hLr⟩
        have HLr := Lib.hid (hLr.wide (X' := NoX) fun _ _ => trivial)
        rw [decide_eq_true rfl]
        clear hLr HLp HLq hb hc
        go_wp2_with fail
        go_roundw
        case rel => exact ⟨k + 1, xs2, L2, by omega, by go_num, HA2, HLr⟩
        case measure => simp [intOf]; omega
      · have h8b : ((k : Int).tmod 8 == 7) = false := by simpa using h8
        have h8d : decide ((k : Int).tmod 8 = 7) = false := by simpa using h8
        go_wp2_with fail
        go_roundw
        case rel => exact ⟨k + 1, xs2, L2, by omega, by go_num, HA2, HVl⟩
        case measure => simp [intOf]; omega
    · have HG := Lib.hid HA.out.good
      go_wp2_with fail
      refine (bpairsL RefS.framed NoX.framed V.out HG.out).mono ?_
      rintro e wp ⟨vp, rfl, hLp⟩
      have HLp := Lib.hid hLp
      clear hLp
      go_wp2_with fail
      refine (refPairsL BookS.framed (NoX.framed.and OwS.framed) HLp.out HA.out).mono ?_
      rintro e wq ⟨vq, rfl, hLq⟩
      have HLq := Lib.hid hLq
      clear hLq
      go_wp2_with fail
      obtain ⟨_, ⟨_, hb⟩, hc⟩ := HLq.out.rest
      refine (pairsCmpL BookS.framed RefS.framed ((NoX.framed.and OwS.framed).and OwS.framed) HLq.out hb.rd hc.rd).mono ?_
      rintro e wr ⟨rfl, hLr⟩
      have HLr := Lib.hid (hLr.wide (X' := NoX) fun _ _ => trivial)
      rw [decide_eq_true rfl]
      clear hLr HLp HLq hb hc
      go_wp2_with fail
      go_ret
      exact ⟨rfl, HLr.out.below⟩
theorem bookPlays_any (cap : Int) (ds : List DoD) (v : Value) (w : World) (hcap : -9223372036854775808 ≤ cap ∧ cap ≤ 9223372036854775807) (hv : Rd eDo w v ds) (hl : ds.length * 24 ≤ 140737488351232) (hok : ∀ o ∈ ds, DoD.ok o) :
    Calls Try.prog 4 #[.int .i64 cap, v] w fun e w' => e = .returned (.bool true) ∧ Below w.heap.size w w' := by
  by_cases h : cap < 1 ∨ 16 < cap
  · exact bookPlays_bad cap v w h
  · exact bookPlays_yes cap (by omega) (by omega) ds v w hv
end Go.Proofs.Ythekjeghodpcoaa
