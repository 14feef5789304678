/- The law OwnerPlays: its walk (printed by ownplays.py). -/
import Derived.Test.YtdlkblklfoagbaaOwnFresh
import Derived.Test.YtdlkblklfoagbaaOwnOp
import Derived.Deep.RegionHeld3
import Derived.Deep.DeepCutAuto
import Derived.Deep.CutBlock
namespace Go.Proofs.Ytdlkblklfoagbaa
open Go.RowKit
set_option linter.unusedVariables false
set_option linter.unusedSimpArgs false

abbrev opO (kd m : Int) (qa : Option Addr) (ql qc : Nat) : Obj := .cells #[.int .i64 kd, .int .i64 m, .slice qa ql qc] 59 (0, 0)
section
variable {P Q R Y Z : (Nat → Prop) → World → Prop} {T : Nat → Prop} {w W : World} {bd ob : Nat} {o1 : Obj} {kd m : Int} {qa : Option Addr} {ql qc : Nat}
theorem ob_cell (h : Upd (Sep P (Sep Q (fun S w => Blk bd o1 S w ∧ Blk ob (opO kd m qa ql qc) S w))) T w W) : W.cell? ⟨ob, 2, none⟩ = some (.slice qa ql qc) := by
  obtain ⟨_, h⟩ := h.getR
  obtain ⟨_, _, _, _, _, _, _, h⟩ := h
  exact blk_cell h.1 2
theorem ob_cellY (h : Upd (Sep (Sep P (Sep Q (fun S w => Blk bd o1 S w ∧ Blk ob (opO kd m qa ql qc) S w))) Y) T w W) : W.cell? ⟨ob, 2, none⟩ = some (.slice qa ql qc) := by
  obtain ⟨_, h⟩ := h.getB
  obtain ⟨_, _, _, _, _, _, _, h⟩ := h
  exact blk_cell h.1 2
end
section
variable {A K Y : (Nat → Prop) → World → Prop} {T : Nat → Prop} {w W : World} {g : Nat} {sd n : Int} {ml : List MRSh} {ss : List RSt} {all : List ReqD} {dn : Int} {ov : Bool}
theorem name_r (h : Upd (Sep (Sep A (Sep (ROwnS g sd n ml ss all dn ov) K)) Y) T w W) : ∃ vm va, Upd (Sep (Sep A (Sep (ROwnV g sd n vm va ml ss all dn ov) K)) Y) T w W := by
  obtain ⟨⟨X, Z, hd, hX, hZ, ⟨X1, X2, hd1, h1, h2, ha, ⟨B1, B2, hd2, h3, h4, ⟨vm, va, hr⟩, hk⟩⟩, hy⟩, ho⟩ := h
  exact ⟨vm, va, ⟨X, Z, hd, hX, hZ, ⟨X1, X2, hd1, h1, h2, ha, ⟨B1, B2, hd2, h3, h4, hr, hk⟩⟩, hy⟩, ho⟩
theorem name_r0 (h : Upd (Sep A (Sep (ROwnS g sd n ml ss all dn ov) K)) T w W) : ∃ vm va, Upd (Sep A (Sep (ROwnV g sd n vm va ml ss all dn ov) K)) T w W := by
  obtain ⟨⟨X1, X2, hd1, h1, h2, ha, ⟨B1, B2, hd2, h3, h4, ⟨vm, va, hr⟩, hk⟩⟩, ho⟩ := h
  exact ⟨vm, va, ⟨X1, X2, hd1, h1, h2, ha, ⟨B1, B2, hd2, h3, h4, hr, hk⟩⟩, ho⟩
end
set_option maxRecDepth 100000 in
set_option maxHeartbeats 4000000 in
theorem ownerPlays_bad (sd n : Int) (vm : Value) (ds : List DefD) (v : Value) (w : World) (hr : Rd eDef w vm ds) (hl : ds.length * 16 ≤ 140737488351232) (h : okOwn sd n ds = false) :
    Calls Try.prog 5 #[.agg #[.int .i64 sd, .int .i64 n, vm], v] w fun e w' => e = .returned (.bool true) ∧ Only (fun _ => False) w w' := by
  obtain ⟨_, am, cm, rfl, _⟩ := id hr
  have HH := Lib.hid h
  have HR := Lib.hid hr
  have HB := Lib.hid (show Upd (Blk w.heap.size (shO sd n (.slice am ds.length cm))) (fun _ => False) w (w.alloc (shO sd n (.slice am ds.length cm))) from ⟨⟨heap_alloc_new _ _, .inr (Nat.le_refl _)⟩, Only.alloc _ _ _⟩)
  clear h hr
  go_enter Try.func5, Try.ntmps5
  go_wp2_with fail
  generalize World.alloc w _ = wa at *
  generalize w.heap.size = bd at *
  refine (HB.out.callRead Blk.framed (E := fun e => e = .returned (.bool true)) (awake_any wa)).mono ?_
  rintro e w1 ⟨rfl, hB1⟩
  have HB1 := Lib.hid hB1
  clear hB1 HB
  go_wp2_with fail
  refine wp_region_noPanic ?_
  have HB2 := Lib.hid (HB1.out.drewU Blk.framed)
  refine wp_region_held_drew (S := fun W => W.cell? ⟨bd, 0, none⟩ = some (.int .i64 sd) ∧ W.cell? ⟨bd, 1, none⟩ = some (.int .i64 n) ∧ W.cell? ⟨bd, 2, none⟩ = some (.slice am ds.length cm)) (by kernel_rfl) ?_ (fun hHeld => ?_)
  · exact ⟨blk_cell HB2.out.1.1 0, blk_cell HB2.out.1.1 1, blk_cell HB2.out.1.1 2⟩
  try simp only [Act.put, List.getElem_toArray, List.getElem_cons_succ, List.getElem_cons_zero, List.setIfInBounds_toArray, List.set_cons_zero, List.set_cons_succ]
  refine wpAnyH_take (i := 0) (v := ?vpa0) rfl (by kernel_rfl) (by kernel_rfl) (by kernel_rfl) (fun _ _ _ h => h) (Or.inl ⟨by rfl, ?hypa0⟩) (by assumption) ?restpa0
  case hypa0 =>
    intro w hSw
    try dsimp only at hSw
    go_simp
    all_goals with_reducible rfl
  simp only [Act.put, List.getElem_toArray, List.getElem_cons_succ, List.getElem_cons_zero, List.setIfInBounds_toArray, List.set_cons_zero, List.set_cons_succ]
  refine wpAnyH_take (i := 1) (v := ?vpa1) rfl (by kernel_rfl) (by kernel_rfl) (by kernel_rfl) (fun _ _ _ h => h) (Or.inl ⟨by rfl, ?hypa1⟩) (by assumption) ?restpa1
  case hypa1 =>
    intro w hSw
    try dsimp only at hSw
    go_simp
    all_goals with_reducible rfl
  simp only [Act.put, List.getElem_toArray, List.getElem_cons_succ, List.getElem_cons_zero, List.setIfInBounds_toArray, List.set_cons_zero, List.set_cons_succ]
  refine wpAnyH_take (i := 2) (v := ?vpa2) rfl (by kernel_rfl) (by kernel_rfl) (by kernel_rfl) (fun _ _ _ h => h) (Or.inl ⟨by rfl, ?hypa2⟩) (by assumption) ?restpa2
  case hypa2 =>
    intro w hSw
    try dsimp only at hSw
    go_simp
    all_goals with_reducible rfl
  simp only [Act.put, List.getElem_toArray, List.getElem_cons_succ, List.getElem_cons_zero, List.setIfInBounds_toArray, List.set_cons_zero, List.set_cons_succ]
  refine wpAnyH_take (i := 3) (v := ?vpa3) rfl (by kernel_rfl) (by kernel_rfl) (by kernel_rfl) (fun _ _ _ h => h) (Or.inl ⟨by rfl, ?hypa3⟩) (by assumption) ?restpa3
  case hypa3 =>
    intro w hSw
    try dsimp only at hSw
    go_simp
    all_goals with_reducible rfl
  simp only [Act.put, List.getElem_toArray, List.getElem_cons_succ, List.getElem_cons_zero, List.setIfInBounds_toArray, List.set_cons_zero, List.set_cons_succ]
  refine wpAnyH_take (i := 5) (v := ?vpa5) rfl (by kernel_rfl) (by kernel_rfl) (by kernel_rfl) (fun _ _ _ h => h) (Or.inl ⟨by rfl, ?hypa5⟩) (by assumption) ?restpa5
  case hypa5 =>
    intro w hSw
    try dsimp only at hSw
    go_simp
    all_goals with_reducible rfl
  simp only [Act.put, List.getElem_toArray, List.getElem_cons_succ, List.getElem_cons_zero, List.setIfInBounds_toArray, List.set_cons_zero, List.set_cons_succ]
  refine wpAnyH_take (i := 6) (v := ?vpa6) rfl (by kernel_rfl) (by kernel_rfl) (by kernel_rfl) (fun _ _ _ h => h) (Or.inl ⟨by rfl, ?hypa6⟩) (by assumption) ?restpa6
  case hypa6 =>
    intro w hSw
    try dsimp only at hSw
    go_simp
    all_goals with_reducible rfl
  simp only [Act.put, List.getElem_toArray, List.getElem_cons_succ, List.getElem_cons_zero, List.setIfInBounds_toArray, List.set_cons_zero, List.set_cons_succ]
  clear hHeld
  refine wpAnyH_ready (rs := [4]) (by kernel_rfl) (by simp) ?_
  refine AllReadyH.cons rfl (fun K hK => ?_) AllReadyH.nil
  go_simp
  have HRD := Lib.hid ((HR.out.only HB2.out.2).only (Only.alloc (fun _ => False) _ (.cells #[] 77 (0, 0))))
  have HOW := Lib.hid (OwS.of_ow (Ow.lit (E := eDef) w1.drew w1.drew.heap.size #[] 77 0 [] (by simp [Enc.all]) rfl (by simp) (Nat.le_refl _)))
  have HB3 := Lib.hid (HB2.out.fresh Blk.framed (Only.alloc (fun _ => False) _ (.cells #[] 77 (0, 0))))
  refine hK.out _ _ ?_ (fun hHeld => ?_)
  · exact ⟨blk_cell HB3.out.1.1 0, blk_cell HB3.out.1.1 1, blk_cell HB3.out.1.1 2⟩
  clear hK K hHeld
  try simp only [Act.put, List.getElem_toArray, List.getElem_cons_succ, List.getElem_cons_zero, List.setIfInBounds_toArray, List.set_cons_zero, List.set_cons_succ]
  refine wpAnyH_ready (rs := [7]) (by kernel_rfl) (by simp) ?_
  refine AllReadyH.cons rfl (fun K hK => ?_) AllReadyH.nil
  refine step_appendW (E := eDef) (by rfl) (.tmp 27) (.tmp 29) _ (by rfl) 77 16 eDef_slice _ _ [] (by rfl) HOW.out _ ds (by rfl) HRD.out (by simp only [List.length_nil]; omega) (by unfold maxLen; simp only [List.length_nil]; omega) ?_
  intro vi w2 hown2 hO2
  have HRI := Lib.hid (show Rd eDef w2 vi ds from hown2.rd)
  obtain ⟨ai, ci, rfl⟩ : ∃ ai ci, vi = .slice ai ds.length ci := by
    obtain ⟨_, ai, ci, rfl, _⟩ := HRI.out
    exact ⟨ai, ci, rfl⟩
  have HB4 := Lib.hid (HB2.out.fresh Blk.framed (w2 := w2) ((Only.alloc (fun _ => False) w1.drew (.cells #[] 77 (0, 0))).trans hO2 fun j hj h => absurd hj (Nat.not_lt.2 h)))
  clear hown2 hO2 HOW HRD
  refine hK.out _ _ ?_ (fun hHeld => ?_)
  · exact ⟨blk_cell HB4.out.1.1 0, blk_cell HB4.out.1.1 1, blk_cell HB4.out.1.1 2⟩
  clear hK K
  try simp only [Act.put, List.getElem_toArray, List.getElem_cons_succ, List.getElem_cons_zero, List.setIfInBounds_toArray, List.set_cons_zero, List.set_cons_succ]
  refine wpAnyH_ready (rs := [8]) (by kernel_rfl) (by simp) ?_
  refine AllReadyH.cons rfl (fun K hK => ?_) AllReadyH.nil
  go_simp
  refine (HB4.out.callRead Blk.framed (E := fun e => e = .returned (.tuple #[.pointer none, .int .i64 2])) (new_no sd n ds _ HRI.out HH.out)).mono ?_
  rintro e w3 ⟨rfl, hB5⟩
  have HB5 := Lib.hid hB5
  clear hB5
  try go_wp2_with fail
  refine hK.out _ _ ?_ (fun hHeld => ?_)
  · exact ⟨blk_cell HB5.out.1.1 0, blk_cell HB5.out.1.1 1, blk_cell HB5.out.1.1 2⟩
  clear hK K
  try simp only [Act.put, List.getElem_toArray, List.getElem_cons_succ, List.getElem_cons_zero, List.setIfInBounds_toArray, List.set_cons_zero, List.set_cons_succ]
  refine wpAnyH_take (i := 9) (v := ?vpa9) rfl (by kernel_rfl) (by kernel_rfl) (by kernel_rfl) (fun _ _ _ h => h) (Or.inl ⟨by rfl, ?hypa9⟩) (by assumption) ?restpa9
  case hypa9 =>
    intro w hSw
    try dsimp only at hSw
    go_simp
    all_goals with_reducible rfl
  simp only [Act.put, List.getElem_toArray, List.getElem_cons_succ, List.getElem_cons_zero, List.setIfInBounds_toArray, List.set_cons_zero, List.set_cons_succ]
  refine wpAnyH_take (i := 10) (v := ?vpa10) rfl (by kernel_rfl) (by kernel_rfl) (by kernel_rfl) (fun _ _ _ h => h) (Or.inl ⟨by rfl, ?hypa10⟩) (by assumption) ?restpa10
  case hypa10 =>
    intro w hSw
    try dsimp only at hSw
    go_simp
    all_goals with_reducible rfl
  simp only [Act.put, List.getElem_toArray, List.getElem_cons_succ, List.getElem_cons_zero, List.setIfInBounds_toArray, List.set_cons_zero, List.set_cons_succ]
  refine wpAnyH_take (i := 11) (v := ?vpa11) rfl (by kernel_rfl) (by kernel_rfl) (by kernel_rfl) (fun _ _ _ h => h) (Or.inl ⟨by rfl, ?hypa11⟩) (by assumption) ?restpa11
  case hypa11 =>
    intro w hSw
    try dsimp only at hSw
    go_simp
    all_goals with_reducible rfl
  simp only [Act.put, List.getElem_toArray, List.getElem_cons_succ, List.getElem_cons_zero, List.setIfInBounds_toArray, List.set_cons_zero, List.set_cons_succ]
  refine wpAnyH_take (i := 12) (v := ?vpa12) rfl (by kernel_rfl) (by kernel_rfl) (by kernel_rfl) (fun _ _ _ h => h) (Or.inl ⟨by rfl, ?hypa12⟩) (by assumption) ?restpa12
  case hypa12 =>
    intro w hSw
    try dsimp only at hSw
    go_simp
    all_goals with_reducible rfl
  simp only [Act.put, List.getElem_toArray, List.getElem_cons_succ, List.getElem_cons_zero, List.setIfInBounds_toArray, List.set_cons_zero, List.set_cons_succ]
  refine wpAnyH_take (i := 13) (v := ?vpa13) rfl (by kernel_rfl) (by kernel_rfl) (by kernel_rfl) (fun _ _ _ h => h) (Or.inl ⟨by rfl, ?hypa13⟩) (by assumption) ?restpa13
  case hypa13 =>
    intro w hSw
    try dsimp only at hSw
    go_simp
    all_goals with_reducible rfl
  simp only [Act.put, List.getElem_toArray, List.getElem_cons_succ, List.getElem_cons_zero, List.setIfInBounds_toArray, List.set_cons_zero, List.set_cons_succ]
  clear hHeld
  refine wpAnyH_done (by kernel_rfl) ?_ _
  refine NoPanic.normal ?_
  have c0 : w3.cell? ⟨bd, 0, none⟩ = some (.int .i64 sd) := blk_cell HB5.out.1.1 0
  have c1 : w3.cell? ⟨bd, 1, none⟩ = some (.int .i64 n) := blk_cell HB5.out.1.1 1
  have c2 : w3.cell? ⟨bd, 2, none⟩ = some (.slice am ds.length cm) := blk_cell HB5.out.1.1 2
  clear HB1 HB2 HB3 HB4 HRI
  go_wp2_with fail
  refine (HB5.out.callRead Blk.framed (E := fun e => e = .returned (.tuple #[.pointer none, .int .i64 2])) (rnew_no sd n ds _ (HR.out.only HB5.out.2) HH.out)).mono ?_
  rintro e w4 ⟨rfl, hB6⟩
  have HB6 := Lib.hid hB6
  clear hB6 c0 c1 c2 HB5
  go_wp2_with fail
  go_ret
  exact ⟨rfl, HB6.out.2⟩
set_option maxRecDepth 100000 in
set_option maxHeartbeats 40000000 in
theorem ownerPlays_yes (sd n : Int) (vm : Value) (ds : List DefD) (ops : List OpD) (v : Value) (w : World) (hr : Rd eDef w vm ds) (hl : ds.length * 16 ≤ 140737488351232) (hok : okOwn sd n ds = true) (hv : Rd eOp w v ops) (hops : ∀ o ∈ ops, OpL w o) :
    Calls Try.prog 5 #[.agg #[.int .i64 sd, .int .i64 n, vm], v] w fun e w' => e = .returned (.bool true) ∧ Only (fun _ => False) w w' := by
  obtain ⟨_, am, cm, rfl, _⟩ := id hr
  obtain ⟨hmx, ao, c, rfl, hcap, _, hx⟩ := id hv
  unfold maxLen at hmx
  have HX := Lib.hid hx
  have HOPS := Lib.hid hops
  have HOK := Lib.hid hok
  have HN4 := Lib.hid (show n ≤ 4 from (okOwn_iff.1 hok).1.1.2)
  have HD4 := Lib.hid (show ds.length ≤ 4 from (okOwn_iff.1 hok).2.1)
  have HR := Lib.hid hr
  have HB := Lib.hid (show Upd (Blk w.heap.size (shO sd n (.slice am ds.length cm))) (fun _ => False) w (w.alloc (shO sd n (.slice am ds.length cm))) from ⟨⟨heap_alloc_new _ _, .inr (Nat.le_refl _)⟩, Only.alloc _ _ _⟩)
  clear hok hr hv hx hops
  go_enter Try.func5, Try.ntmps5
  go_wp2_with fail
  generalize World.alloc w _ = wa at *
  generalize w.heap.size = bd at *
  refine (HB.out.callRead Blk.framed (E := fun e => e = .returned (.bool true)) (awake_any wa)).mono ?_
  rintro e w1 ⟨rfl, hB1⟩
  have HB1 := Lib.hid hB1
  clear hB1 HB
  go_wp2_with fail
  refine wp_region_noPanic ?_
  have HB2 := Lib.hid (HB1.out.drewU Blk.framed)
  refine wp_region_held_drew (S := fun W => W.cell? ⟨bd, 0, none⟩ = some (.int .i64 sd) ∧ W.cell? ⟨bd, 1, none⟩ = some (.int .i64 n) ∧ W.cell? ⟨bd, 2, none⟩ = some (.slice am ds.length cm)) (by kernel_rfl) ?_ (fun hHeld => ?_)
  · exact ⟨blk_cell HB2.out.1.1 0, blk_cell HB2.out.1.1 1, blk_cell HB2.out.1.1 2⟩
  try simp only [Act.put, List.getElem_toArray, List.getElem_cons_succ, List.getElem_cons_zero, List.setIfInBounds_toArray, List.set_cons_zero, List.set_cons_succ]
  refine wpAnyH_take (i := 0) (v := ?vpb0) rfl (by kernel_rfl) (by kernel_rfl) (by kernel_rfl) (fun _ _ _ h => h) (Or.inl ⟨by rfl, ?hypb0⟩) (by assumption) ?restpb0
  case hypb0 =>
    intro w hSw
    try dsimp only at hSw
    go_simp
    all_goals with_reducible rfl
  simp only [Act.put, List.getElem_toArray, List.getElem_cons_succ, List.getElem_cons_zero, List.setIfInBounds_toArray, List.set_cons_zero, List.set_cons_succ]
  refine wpAnyH_take (i := 1) (v := ?vpb1) rfl (by kernel_rfl) (by kernel_rfl) (by kernel_rfl) (fun _ _ _ h => h) (Or.inl ⟨by rfl, ?hypb1⟩) (by assumption) ?restpb1
  case hypb1 =>
    intro w hSw
    try dsimp only at hSw
    go_simp
    all_goals with_reducible rfl
  simp only [Act.put, List.getElem_toArray, List.getElem_cons_succ, List.getElem_cons_zero, List.setIfInBounds_toArray, List.set_cons_zero, List.set_cons_succ]
  refine wpAnyH_take (i := 2) (v := ?vpb2) rfl (by kernel_rfl) (by kernel_rfl) (by kernel_rfl) (fun _ _ _ h => h) (Or.inl ⟨by rfl, ?hypb2⟩) (by assumption) ?restpb2
  case hypb2 =>
    intro w hSw
    try dsimp only at hSw
    go_simp
    all_goals with_reducible rfl
  simp only [Act.put, List.getElem_toArray, List.getElem_cons_succ, List.getElem_cons_zero, List.setIfInBounds_toArray, List.set_cons_zero, List.set_cons_succ]
  refine wpAnyH_take (i := 3) (v := ?vpb3) rfl (by kernel_rfl) (by kernel_rfl) (by kernel_rfl) (fun _ _ _ h => h) (Or.inl ⟨by rfl, ?hypb3⟩) (by assumption) ?restpb3
  case hypb3 =>
    intro w hSw
    try dsimp only at hSw
    go_simp
    all_goals with_reducible rfl
  simp only [Act.put, List.getElem_toArray, List.getElem_cons_succ, List.getElem_cons_zero, List.setIfInBounds_toArray, List.set_cons_zero, List.set_cons_succ]
  refine wpAnyH_take (i := 5) (v := ?vpb5) rfl (by kernel_rfl) (by kernel_rfl) (by kernel_rfl) (fun _ _ _ h => h) (Or.inl ⟨by rfl, ?hypb5⟩) (by assumption) ?restpb5
  case hypb5 =>
    intro w hSw
    try dsimp only at hSw
    go_simp
    all_goals with_reducible rfl
  simp only [Act.put, List.getElem_toArray, List.getElem_cons_succ, List.getElem_cons_zero, List.setIfInBounds_toArray, List.set_cons_zero, List.set_cons_succ]
  refine wpAnyH_take (i := 6) (v := ?vpb6) rfl (by kernel_rfl) (by kernel_rfl) (by kernel_rfl) (fun _ _ _ h => h) (Or.inl ⟨by rfl, ?hypb6⟩) (by assumption) ?restpb6
  case hypb6 =>
    intro w hSw
    try dsimp only at hSw
    go_simp
    all_goals with_reducible rfl
  simp only [Act.put, List.getElem_toArray, List.getElem_cons_succ, List.getElem_cons_zero, List.setIfInBounds_toArray, List.set_cons_zero, List.set_cons_succ]
  clear hHeld
  refine wpAnyH_ready (rs := [4]) (by kernel_rfl) (by simp) ?_
  refine AllReadyH.cons rfl (fun K hK => ?_) AllReadyH.nil
  go_simp
  have HRD := Lib.hid ((HR.out.only HB2.out.2).only (Only.alloc (fun _ => False) _ (.cells #[] 77 (0, 0))))
  have HOW := Lib.hid (OwS.of_ow (Ow.lit (E := eDef) w1.drew w1.drew.heap.size #[] 77 0 [] (by simp [Enc.all]) rfl (by simp) (Nat.le_refl _)))
  have HB3 := Lib.hid (HB2.out.fresh Blk.framed (Only.alloc (fun _ => False) _ (.cells #[] 77 (0, 0))))
  refine hK.out _ _ ?_ (fun hHeld => ?_)
  · exact ⟨blk_cell HB3.out.1.1 0, blk_cell HB3.out.1.1 1, blk_cell HB3.out.1.1 2⟩
  clear hK K hHeld
  try simp only [Act.put, List.getElem_toArray, List.getElem_cons_succ, List.getElem_cons_zero, List.setIfInBounds_toArray, List.set_cons_zero, List.set_cons_succ]
  refine wpAnyH_ready (rs := [7]) (by kernel_rfl) (by simp) ?_
  refine AllReadyH.cons rfl (fun K hK => ?_) AllReadyH.nil
  refine step_appendW (E := eDef) (by rfl) (.tmp 27) (.tmp 29) _ (by rfl) 77 16 eDef_slice _ _ [] (by rfl) HOW.out _ ds (by rfl) HRD.out (by simp only [List.length_nil]; omega) (by unfold maxLen; simp only [List.length_nil]; omega) ?_
  intro vi w2 hown2 hO2
  have HRI := Lib.hid (show Rd eDef w2 vi ds from hown2.rd)
  obtain ⟨ai, ci, rfl⟩ : ∃ ai ci, vi = .slice ai ds.length ci := by
    obtain ⟨_, ai, ci, rfl, _⟩ := HRI.out
    exact ⟨ai, ci, rfl⟩
  have HB4 := Lib.hid (HB2.out.fresh Blk.framed (w2 := w2) ((Only.alloc (fun _ => False) w1.drew (.cells #[] 77 (0, 0))).trans hO2 fun j hj h => absurd hj (Nat.not_lt.2 h)))
  clear hown2 hO2 HOW HRD
  refine hK.out _ _ ?_ (fun hHeld => ?_)
  · exact ⟨blk_cell HB4.out.1.1 0, blk_cell HB4.out.1.1 1, blk_cell HB4.out.1.1 2⟩
  clear hK K
  try simp only [Act.put, List.getElem_toArray, List.getElem_cons_succ, List.getElem_cons_zero, List.setIfInBounds_toArray, List.set_cons_zero, List.set_cons_succ]
  refine wpAnyH_ready (rs := [8]) (by kernel_rfl) (by simp) ?_
  refine AllReadyH.cons rfl (fun K hK => ?_) AllReadyH.nil
  go_simp
  refine (newU sd n ds _ Blk.framed HB4.out HRI.out HOK.out).mono ?_
  rintro e w3 ⟨ga, rfl, ml, ⟨Ga, hma⟩, hU⟩
  have HU3 := Lib.hid hU
  have HGA := Lib.hid Ga
  have HMA := Lib.hid hma
  clear hU Ga hma
  try go_wp2_with fail
  refine hK.out _ _ ?_ (fun hHeld => ?_)
  · exact (by obtain ⟨_, h⟩ := HU3.out.getR; exact ⟨blk_cell h.1 0, blk_cell h.1 1, blk_cell h.1 2⟩)
  clear hK K
  try simp only [Act.put, List.getElem_toArray, List.getElem_cons_succ, List.getElem_cons_zero, List.setIfInBounds_toArray, List.set_cons_zero, List.set_cons_succ]
  refine wpAnyH_take (i := 9) (v := ?vpb9) rfl (by kernel_rfl) (by kernel_rfl) (by kernel_rfl) (fun _ _ _ h => h) (Or.inl ⟨by rfl, ?hypb9⟩) (by assumption) ?restpb9
  case hypb9 =>
    intro w hSw
    try dsimp only at hSw
    go_simp
    all_goals with_reducible rfl
  simp only [Act.put, List.getElem_toArray, List.getElem_cons_succ, List.getElem_cons_zero, List.setIfInBounds_toArray, List.set_cons_zero, List.set_cons_succ]
  refine wpAnyH_take (i := 10) (v := ?vpb10) rfl (by kernel_rfl) (by kernel_rfl) (by kernel_rfl) (fun _ _ _ h => h) (Or.inl ⟨by rfl, ?hypb10⟩) (by assumption) ?restpb10
  case hypb10 =>
    intro w hSw
    try dsimp only at hSw
    go_simp
    all_goals with_reducible rfl
  simp only [Act.put, List.getElem_toArray, List.getElem_cons_succ, List.getElem_cons_zero, List.setIfInBounds_toArray, List.set_cons_zero, List.set_cons_succ]
  refine wpAnyH_take (i := 11) (v := ?vpb11) rfl (by kernel_rfl) (by kernel_rfl) (by kernel_rfl) (fun _ _ _ h => h) (Or.inl ⟨by rfl, ?hypb11⟩) (by assumption) ?restpb11
  case hypb11 =>
    intro w hSw
    try dsimp only at hSw
    go_simp
    all_goals with_reducible rfl
  simp only [Act.put, List.getElem_toArray, List.getElem_cons_succ, List.getElem_cons_zero, List.setIfInBounds_toArray, List.set_cons_zero, List.set_cons_succ]
  refine wpAnyH_take (i := 12) (v := ?vpb12) rfl (by kernel_rfl) (by kernel_rfl) (by kernel_rfl) (fun _ _ _ h => h) (Or.inl ⟨by rfl, ?hypb12⟩) (by assumption) ?restpb12
  case hypb12 =>
    intro w hSw
    try dsimp only at hSw
    go_simp
    all_goals with_reducible rfl
  simp only [Act.put, List.getElem_toArray, List.getElem_cons_succ, List.getElem_cons_zero, List.setIfInBounds_toArray, List.set_cons_zero, List.set_cons_succ]
  refine wpAnyH_take (i := 13) (v := ?vpb13) rfl (by kernel_rfl) (by kernel_rfl) (by kernel_rfl) (fun _ _ _ h => h) (Or.inl ⟨by rfl, ?hypb13⟩) (by assumption) ?restpb13
  case hypb13 =>
    intro w hSw
    try dsimp only at hSw
    go_simp
    all_goals with_reducible rfl
  simp only [Act.put, List.getElem_toArray, List.getElem_cons_succ, List.getElem_cons_zero, List.setIfInBounds_toArray, List.set_cons_zero, List.set_cons_succ]
  clear hHeld
  refine wpAnyH_done (by kernel_rfl) ?_ _
  refine NoPanic.normal ?_
  obtain ⟨_, hbk⟩ := HU3.out.getR
  have c0 : w3.cell? ⟨bd, 0, none⟩ = some (.int .i64 sd) := blk_cell hbk.1 0
  have c1 : w3.cell? ⟨bd, 1, none⟩ = some (.int .i64 n) := blk_cell hbk.1 1
  have c2 : w3.cell? ⟨bd, 2, none⟩ = some (.slice am ds.length cm) := blk_cell hbk.1 2
  clear HB1 HB2 HB3 HB4 HRI hbk
  go_wp2_with fail
  refine (rnewU sd n ds _ (Sep.framed OwnS.framed Blk.framed) HU3.out (HR.out.only HU3.out.2) HOK.out).mono ?_
  rintro e w4 ⟨gr, rfl, mr, ⟨Gr, hmr⟩, hU⟩
  have HV0 := Lib.hid (show Upd (Sep (OwnS ga sd n ml (List.replicate ds.length z0) (([] : List ReqD).drop 0) false) (Sep (ROwnS gr sd n mr (List.replicate ds.length rz0) [] (0 : Nat) false) (Blk bd (shO sd n (.slice am ds.length cm))))) (fun _ => False) w w4 from hU.imp fun _ h => h.turn)
  have HP0 := Lib.hid (show PS sd n ds ml mr 0 (List.replicate ds.length z0) (List.replicate ds.length rz0) [] 0 from ⟨⟨HGA.out, Gr, HMA.out, hmr, by simp, fun x hx => by obtain ⟨_, rfl⟩ := List.mem_replicate.1 hx; exact Int.le_refl 0⟩, Nat.le_refl _, Nat.zero_le _, fun q hq => by simp at hq⟩)
  clear hU HU3 c0 c1 c2 Gr hmr HGA HMA
  generalize List.replicate ds.length z0 = ss0 at *
  generalize List.replicate ds.length rz0 = rs0 at *
  go_wp2_with fail
  go_loopw [9, 10, 11, 12, 13, 14, 15, 16, 17, 18, 19] (fun t9 _ _ _ _ _ _ _ _ _ _ wr => ∃ (k : Nat) (ss : List Sh) (rs : List RSt) (all : List ReqD) (d : Nat) (en : Bool), k ≤ ops.length ∧ k ≤ 300 ∧ t9 = .int .i64 k ∧ Hid (PS sd n ds ml mr k ss rs all d) ∧ Hid (Upd (Sep (OwnS ga sd n ml ss (all.drop d) en) (Sep (ROwnS gr sd n mr rs all (d : Int) en) (Blk bd (shO sd n (.slice am ds.length cm))))) (fun _ => False) w wr)) (fun t9 _ _ _ _ _ _ _ _ _ _ _ => ops.length - (intOf t9).toNat)
  case atStart => exact ⟨0, ss0, rs0, [], 0, false, Nat.zero_le _, by decide, rfl, HP0, HV0⟩
  case round =>
    clear HP0 HV0
    obtain ⟨k, ss, rs, all, d, en, hk, hk3, rfl, HP, V⟩ := hrel
    by_cases hlt : k < ops.length ∧ k < 300
    · obtain ⟨hlt, hlt3⟩ := hlt
      obtain ⟨sb, off, rfl, hc⟩ := HX.out (by omega)
      obtain ⟨c0, c1, c2⟩ := op_cells hc k hlt
      obtain ⟨qs, hQ, hKEY⟩ := HOPS.out _ (List.getElem_mem hlt)
      have hi0 : (0 : Int) ≤ (k : Int) := by omega
      have hi1 : (k : Int) < (ops.length : Int) := by omega
      clear hc
      generalize ops[k] = o at *
      obtain ⟨kd, m, qa, ql, qc⟩ := o
      dsimp only at c0 c1 c2 hQ
      obtain rfl : ql = qs.length := by
        obtain ⟨_, _, _, he, _⟩ := hQ
        simp at he; exact he.2.1
      have HQ := Lib.hid hQ
      have HKEY := Lib.hid hKEY
      replace c0 := only_cell V.out.2 c0
      replace c1 := only_cell V.out.2 c1
      replace c2 := only_cell V.out.2 c2
      have HVo := Lib.hid (show Upd (Sep (OwnS ga sd n ml ss (all.drop d) en) (Sep (ROwnS gr sd n mr rs all (d : Int) en) (fun S w => Blk bd (shO sd n (.slice am ds.length cm)) S w ∧ Blk wr.heap.size (opO kd m qa qs.length qc) S w))) (fun _ => False) w (wr.alloc (opO kd m qa qs.length qc)) from by
        have h := (V.out.imp fun _ h => h.assoc').loc' (Sep.framed OwnS.framed ROwnS.framed) Blk.framed (opO kd m qa qs.length qc)
        exact h.imp fun _ h => h.assoc)
      have hq64 : qs.length ≤ 9223372036854775807 := by have := hQ.1; unfold maxLen at this; omega
      have HVd := Lib.hid (show Upd (Sep (OwnS ga sd n ml ss (all.drop d) en) (Sep (ROwnS gr sd n mr rs all (d : Int) en) (Blk bd (shO sd n (.slice am ds.length cm))))) (fun _ => False) w (wr.alloc (opO kd m qa qs.length qc)) from V.out.fresh (Sep.framed OwnS.framed (Sep.framed ROwnS.framed Blk.framed)) (Only.alloc _ _ _))
      clear hQ hKEY
      by_cases h40 : (40 : Int) < (qs.length : Int)
      · clear HVo
        go_wp2_with fail
        refine ⟨⟨k + 1, ss, rs, all, d, en, by omega, by omega, by simp, Lib.hid HP.out.up, HVd⟩, ?_⟩
        first | omega | (simp only [intOf]; omega)
      · clear HVd V
        have hal := HP.out.al
        have hdl := HP.out.dl
        have hql : qs.length ≤ 40 := by omega
        go_upto_block 2 with (fail)
        generalize wr.heap.size = ob at *
        generalize World.alloc wr _ = wo at *
        go_cut [11] (fun t11 wc => ∃ (ss' : List Sh) (rs' : List RSt) (all' : List ReqD) (d' : Nat) (en' : Bool), t11 = .bool true ∧ Hid (PS sd n ds ml mr (k + 1) ss' rs' all' d') ∧ Hid (Upd (Sep (OwnS ga sd n ml ss' (all'.drop d') en') (Sep (ROwnS gr sd n mr rs' all' (d' : Int) en') (Blk bd (shO sd n (.slice am ds.length cm))))) (fun _ => False) w wc))
        case first => as_aux_lemma =>
          have hko := ob_cell HVo.out
          have hlob : ob < wo.heap.size := World.block_lt_of_cell? wo _ hko
          by_cases hk0 : kd = 0
          · subst hk0
            obtain ⟨rc, all2, hsp⟩ : ∃ rc all2, sendP sd n ds.length en all qs = (rc, all2) := ⟨_, _, rfl⟩
            have HSPR := Lib.hid (show sendP sd n mr.length en all qs = (rc, all2) by rw [HP.out.sync.lr]; exact hsp)
            have HSPA := Lib.hid (show sendP sd n ml.length en (all.drop d) qs = (rc, all2.drop d) by rw [HP.out.sync.la, sendP_drop _ _ _ _ _ _ _ HP.out.dl, hsp])
            have HP2 := Lib.hid (show PS sd n ds ml mr (k + 1) ss rs all2 d from by
              have h := sendP_all (en := en) (qs := qs) HP.out.fit
              rw [hsp] at h
              exact ⟨HP.out.sync.up, Nat.le_trans HP.out.dl h.2.1, by have := HP.out.al; have := h.2.2; simp only at this; omega, h.1⟩)
            have hee : (rc == rc) = true := by simp
            have HOW := Lib.hid (OwS.of_ow (Ow.lit (E := eReq) wo wo.heap.size #[] 37 0 [] (by simp [Enc.all]) rfl (by simp) (Nat.le_refl _)))
            have HRD := Lib.hid ((HQ.out.only HVo.out.2).only (Only.alloc _ wo (.cells #[] 37 (0, 0))))
            clear hsp
            go_wp2_with (at_builtin; refine wl_appendS (E := eReq) rfl _ (.tmp 123) _ rfl 37 56 eReq_slice _ _ [] rfl HOW.out _ qs rfl HRD.out (by simp only [List.length_nil]; omega) (by unfold maxLen; simp only [List.length_nil]; omega) ?_)
            intro vi w5 hown5 hO5
            have HI2 := Lib.hid (HVo.out.add (Sep.framed OwnS.framed (Sep.framed ROwnS.framed (Framed.and Blk.framed Blk.framed))) (Q := fun S w => OwS eReq 37 S w vi qs) OwS.framed (OwS.framed.mono _ _ _ hown5 fun k _ h => h.elim id fun h => Nat.le_of_succ_le h) ((Only.alloc (fun _ => False) wo (.cells #[] 37 (0, 0))).trans hO5 fun j hj h => by omega))
            obtain ⟨ai, ci, rfl⟩ : ∃ ai ci, vi = .slice ai qs.length ci := by
              obtain ⟨_, ⟨_, ai, ci, rfl, _⟩, _⟩ := HI2.out.getR
              exact ⟨ai, ci, rfl⟩
            clear hown5 hO5 HOW HRD HVo hko
            go_wp2_with fail
            refine wp_region_noPanic ?_
            have HV2 := Lib.hid (HI2.out.drewU (Sep.framed (Sep.framed OwnS.framed (Sep.framed ROwnS.framed (Framed.and Blk.framed Blk.framed))) OwS.framed))
            refine wp_region_held_drew (S := fun W => W.cell? ⟨ob, 2, none⟩ = some (.slice qa qs.length qc)) (by kernel_rfl) ?_ (fun hHeld => ?_)
            · exact (ob_cellY HV2.out)
            try simp only [Act.put, List.getElem_toArray, List.getElem_cons_succ, List.getElem_cons_zero, List.setIfInBounds_toArray, List.set_cons_zero, List.set_cons_succ]
            refine wpAnyH_take (i := 0) (v := ?vpc0) rfl (by kernel_rfl) (by kernel_rfl) (by kernel_rfl) (fun _ _ _ h => h) (Or.inl ⟨by rfl, ?hypc0⟩) (by assumption) ?restpc0
            case hypc0 =>
              intro w hSw
              try dsimp only at hSw
              go_simp
              all_goals with_reducible rfl
            simp only [Act.put, List.getElem_toArray, List.getElem_cons_succ, List.getElem_cons_zero, List.setIfInBounds_toArray, List.set_cons_zero, List.set_cons_succ]
            refine wpAnyH_take (i := 1) (v := ?vpc1) rfl (by kernel_rfl) (by kernel_rfl) (by kernel_rfl) (fun _ _ _ h => h) (Or.inl ⟨by rfl, ?hypc1⟩) (by assumption) ?restpc1
            case hypc1 =>
              intro w hSw
              try dsimp only at hSw
              go_simp
              all_goals with_reducible rfl
            simp only [Act.put, List.getElem_toArray, List.getElem_cons_succ, List.getElem_cons_zero, List.setIfInBounds_toArray, List.set_cons_zero, List.set_cons_succ]
            refine wpAnyH_take (i := 3) (v := ?vpc3) rfl (by kernel_rfl) (by kernel_rfl) (by kernel_rfl) (fun _ _ _ h => h) (Or.inl ⟨by rfl, ?hypc3⟩) (by assumption) ?restpc3
            case hypc3 =>
              intro w hSw
              try dsimp only at hSw
              go_simp
              all_goals with_reducible rfl
            simp only [Act.put, List.getElem_toArray, List.getElem_cons_succ, List.getElem_cons_zero, List.setIfInBounds_toArray, List.set_cons_zero, List.set_cons_succ]
            refine wpAnyH_take (i := 4) (v := ?vpc4) rfl (by kernel_rfl) (by kernel_rfl) (by kernel_rfl) (fun _ _ _ h => h) (Or.inl ⟨by rfl, ?hypc4⟩) (by assumption) ?restpc4
            case hypc4 =>
              intro w hSw
              try dsimp only at hSw
              go_simp
              all_goals with_reducible rfl
            simp only [Act.put, List.getElem_toArray, List.getElem_cons_succ, List.getElem_cons_zero, List.setIfInBounds_toArray, List.set_cons_zero, List.set_cons_succ]
            refine wpAnyH_take (i := 5) (v := ?vpc5) rfl (by kernel_rfl) (by kernel_rfl) (by kernel_rfl) (fun _ _ _ h => h) (Or.inl ⟨by rfl, ?hypc5⟩) (by assumption) ?restpc5
            case hypc5 =>
              intro w hSw
              try dsimp only at hSw
              go_simp
              all_goals with_reducible rfl
            simp only [Act.put, List.getElem_toArray, List.getElem_cons_succ, List.getElem_cons_zero, List.setIfInBounds_toArray, List.set_cons_zero, List.set_cons_succ]
            refine wpAnyH_ready (rs := [2]) (by kernel_rfl) (by simp) ?_
            refine AllReadyH.cons rfl (fun K hK => ?_) AllReadyH.nil
            go_simp
            obtain ⟨_, hY⟩ := HV2.out.getR
            have hRI := hY.rd
            refine ((HV2.out.imp fun _ h => h.assoc).on1 (Sep.framed (Sep.framed ROwnS.framed (Framed.and Blk.framed Blk.framed)) OwS.framed) (P' := OwnS ga sd n ml ss (all2.drop d) en) (E := fun e => e = .returned (.int .i64 rc)) OwnS.framed fun A hA => by
              have := send_ hA HN4.out hRI (by simp only [List.length_drop]; omega)
              rwa [HSPA.out] at this).mono ?_
            rintro e wa ⟨rfl, h3⟩
            have HV3 := Lib.hid (h3.imp fun _ h => h.assoc')
            clear h3 hY hRI
            try go_wp2_with fail
            refine hK.out _ _ ?_ (fun hHeld => ?_)
            · exact (ob_cellY HV3.out)
            clear hK K
            try simp only [Act.put, List.getElem_toArray, List.getElem_cons_succ, List.getElem_cons_zero, List.setIfInBounds_toArray, List.set_cons_zero, List.set_cons_succ]
            refine wpAnyH_ready (rs := [6]) (by kernel_rfl) (by simp) ?_
            refine AllReadyH.cons rfl (fun K hK => ?_) AllReadyH.nil
            go_simp
            refine (((HV3.out.imp fun _ h => h.assoc.imp (fun _ h => h) fun _ h => h.assoc).on2 OwnS.framed (Sep.framed (Framed.and Blk.framed Blk.framed) OwS.framed) (Q' := ROwnS gr sd n mr rs all2 (d : Int) en) (E := fun e => e = .returned (.int .i64 rc)) ROwnS.framed fun A hA => by
              have := rsend_ hA HN4.out (HQ.out.only HV3.out.2) (by omega) HKEY.out
              rwa [HSPR.out] at this)).mono ?_
            rintro e wb ⟨rfl, h4⟩
            have HV4 := Lib.hid (h4.imp fun _ h => (h.imp (fun _ h => h) fun _ h => h.assoc').assoc')
            clear h4
            try go_wp2_with fail
            refine hK.out _ _ ?_ (fun hHeld => ?_)
            · exact (ob_cellY HV4.out)
            clear hK K
            try simp only [Act.put, List.getElem_toArray, List.getElem_cons_succ, List.getElem_cons_zero, List.setIfInBounds_toArray, List.set_cons_zero, List.set_cons_succ]
            refine wpAnyH_take (i := 7) (v := ?vpc7) rfl (by kernel_rfl) (by kernel_rfl) (by kernel_rfl) (fun _ _ _ h => h) (Or.inl ⟨by rfl, ?hypc7⟩) (by assumption) ?restpc7
            case hypc7 =>
              intro w hSw
              try dsimp only at hSw
              go_simp
              all_goals with_reducible rfl
            simp only [Act.put, List.getElem_toArray, List.getElem_cons_succ, List.getElem_cons_zero, List.setIfInBounds_toArray, List.set_cons_zero, List.set_cons_succ]
            refine wpAnyH_take (i := 8) (v := ?vpc8) rfl (by kernel_rfl) (by kernel_rfl) (by kernel_rfl) (fun _ _ _ h => h) (Or.inl ⟨by rfl, ?hypc8⟩) (by assumption) ?restpc8
            case hypc8 =>
              intro w hSw
              try dsimp only at hSw
              go_simp
              all_goals with_reducible rfl
            simp only [Act.put, List.getElem_toArray, List.getElem_cons_succ, List.getElem_cons_zero, List.setIfInBounds_toArray, List.set_cons_zero, List.set_cons_succ]
            refine wpAnyH_take (i := 9) (v := ?vpc9) rfl (by kernel_rfl) (by kernel_rfl) (by kernel_rfl) (fun _ _ _ h => h) (Or.inl ⟨by rfl, ?hypc9⟩) (by assumption) ?restpc9
            case hypc9 =>
              intro w hSw
              try dsimp only at hSw
              go_simp
              all_goals with_reducible rfl
            simp only [Act.put, List.getElem_toArray, List.getElem_cons_succ, List.getElem_cons_zero, List.setIfInBounds_toArray, List.set_cons_zero, List.set_cons_succ]
            refine wpAnyH_take (i := 10) (v := ?vpc10) rfl (by kernel_rfl) (by kernel_rfl) (by kernel_rfl) (fun _ _ _ h => h) (Or.inl ⟨by rfl, ?hypc10⟩) (by assumption) ?restpc10
            case hypc10 =>
              intro w hSw
              try dsimp only at hSw
              go_simp
              all_goals with_reducible rfl
            simp only [Act.put, List.getElem_toArray, List.getElem_cons_succ, List.getElem_cons_zero, List.setIfInBounds_toArray, List.set_cons_zero, List.set_cons_succ]
            refine wpAnyH_take (i := 11) (v := ?vpc11) rfl (by kernel_rfl) (by kernel_rfl) (by kernel_rfl) (fun _ _ _ h => h) (Or.inl ⟨by rfl, ?hypc11⟩) (by assumption) ?restpc11
            case hypc11 =>
              intro w hSw
              try dsimp only at hSw
              go_simp
              all_goals with_reducible rfl
            simp only [Act.put, List.getElem_toArray, List.getElem_cons_succ, List.getElem_cons_zero, List.setIfInBounds_toArray, List.set_cons_zero, List.set_cons_succ]
            refine wpAnyH_ready (rs := [12]) (by kernel_rfl) (by simp) ?_
            refine AllReadyH.cons rfl (fun K hK => ?_) AllReadyH.nil
            go_simp
            obtain ⟨_, hY⟩ := HV4.out.getR
            refine (HV4.out.callRead (Sep.framed (Sep.framed OwnS.framed (Sep.framed ROwnS.framed (Framed.and Blk.framed Blk.framed))) OwS.framed) (E := fun e => e = .returned (.bool true)) (lines_eq qs _ _ _ hY.rd (HQ.out.only HV4.out.2))).mono ?_
            rintro e wc ⟨rfl, h5⟩
            have HV5 := Lib.hid h5
            clear h5 hY
            try go_wp2_with fail
            refine hK.out _ _ ?_ (fun hHeld => ?_)
            · exact (ob_cellY HV5.out)
            clear hK K
            try simp only [Act.put, List.getElem_toArray, List.getElem_cons_succ, List.getElem_cons_zero, List.setIfInBounds_toArray, List.set_cons_zero, List.set_cons_succ]
            refine wpAnyH_take (i := 13) (v := ?vpc13) rfl (by kernel_rfl) (by kernel_rfl) (by kernel_rfl) (fun _ _ _ h => h) (Or.inl ⟨by rfl, ?hypc13⟩) (by assumption) ?restpc13
            case hypc13 =>
              intro w hSw
              try dsimp only at hSw
              go_simp
              all_goals with_reducible rfl
            simp only [Act.put, List.getElem_toArray, List.getElem_cons_succ, List.getElem_cons_zero, List.setIfInBounds_toArray, List.set_cons_zero, List.set_cons_succ]
            refine wpAnyH_take (i := 14) (v := ?vpc14) rfl (by kernel_rfl) (by kernel_rfl) (by kernel_rfl) (fun _ _ _ h => h) (Or.inl ⟨by rfl, ?hypc14⟩) (by assumption) ?restpc14
            case hypc14 =>
              intro w hSw
              try dsimp only at hSw
              go_simp
              all_goals with_reducible rfl
            simp only [Act.put, List.getElem_toArray, List.getElem_cons_succ, List.getElem_cons_zero, List.setIfInBounds_toArray, List.set_cons_zero, List.set_cons_succ]
            clear hHeld
            refine wpAnyH_done (by kernel_rfl) ?_ _
            refine NoPanic.normal ?_
            clear HI2 HV2 HV3 HV4
            go_wp2_with fail
            go_loopw [13] (fun t13 wr2 => ∃ (j : Nat) (zs : List ReqD), j ≤ qs.length ∧ Hid (zs.length = qs.length) ∧ t13 = .int .i64 j ∧ Hid (Upd (Sep (Sep (OwnS ga sd n ml ss (all2.drop d) en) (Sep (ROwnS gr sd n mr rs all2 (d : Int) en) (fun S w => Blk bd (shO sd n (.slice am ds.length cm)) S w ∧ Blk ob (opO 0 m qa qs.length qc) S w))) (fun S w => OwS eReq 37 S w (.slice ai qs.length ci) zs)) (fun _ => False) w wr2)) (fun t13 _ => qs.length - (intOf t13).toNat)
            case atStart => exact ⟨0, qs, Nat.zero_le _, Lib.hid rfl, rfl, HV5⟩
            case round =>
              clear HV5
              obtain ⟨j, zs, hj, HZL, rfl, V⟩ := hrel
              by_cases hjl : j < qs.length
              · obtain ⟨D, hD, hb⟩ := V.out.1.focusR (Sep.framed OwnS.framed (Sep.framed ROwnS.framed (Framed.and Blk.framed Blk.framed)))
                have hjz : j < zs.length := by rw [HZL.out]; exact hjl
                obtain ⟨pb, po, rfl, HTH⟩ := reqs_there hD j hjz
                obtain ⟨hos, hO3⟩ := hD.store j hjz ((-1, 0, false, 0, 0, 0, 0) : ReqD)
                have HV2 := Lib.hid (V.out.step (Sep.framed (Sep.framed OwnS.framed (Sep.framed ROwnS.framed (Framed.and Blk.framed Blk.framed))) OwS.framed) (hb (fun S w => OwS eReq 37 S w _ (zs.set j (-1, 0, false, 0, 0, 0, 0))) _ OwS.framed ⟨OwS.framed.mono _ _ _ hos fun k _ h => .inl h, hO3⟩))
                have HZ := Lib.hid (show (zs.set j ((-1, 0, false, 0, 0, 0, 0) : ReqD)).length = qs.length by rw [List.length_set]; exact HZL.out)
                have hi0 : (0 : Int) ≤ (j : Int) := by omega
                have hi1 : (j : Int) < (qs.length : Int) := by omega
                obtain ⟨wz, hwz⟩ : ∃ wz, wz = wr.setCells pb (po + j * 7) (#[.int .i64 (-1), .int .i64 0, .bool false, .int .i64 0, .int .i64 0, .int .u64 0, .int .u64 0] : Array Value).toList := ⟨_, rfl⟩
                have HV3 := Lib.hid (show Upd (Sep (Sep (OwnS ga sd n ml ss (all2.drop d) en) (Sep (ROwnS gr sd n mr rs all2 (d : Int) en) (fun S w => Blk bd (shO sd n (.slice am ds.length cm)) S w ∧ Blk ob (opO 0 m qa qs.length qc) S w))) (fun S w => OwS eReq 37 S w (.slice (some ⟨pb, po, none⟩) qs.length ci) (zs.set j (-1, 0, false, 0, 0, 0, 0)))) (fun _ => False) w wz from by rw [hwz]; exact HV2.out)
                have HWZ := Lib.hid hwz
                clear hwz HV2 hD hb hos hO3 V hjz
                go_wp2_with (refine wpList_store_mid rfl 37 (.tmp 148) (.tmp 147) rfl pb (po + j * 7) #[.int .i64 (-1), .int .i64 0, .bool false, .int .i64 0, .int .i64 0, .int .u64 0, .int .u64 0] rfl rfl HTH.out (by kernel_rfl) (by simp [Value.oneCell']) ?_; rw [← HWZ.out])
                try simp only [Exit.inBlock, Exit.then]
                try go_wp2_with fail
                refine ⟨⟨j + 1, _, by omega, HZ, by simp, HV3⟩, ?_⟩
                first | omega | (simp only [intOf]; omega)
              · go_wp2_with fail
                go_meet
                exact ⟨ss, rs, all2, d, en, rfl, HP2, Lib.hid (V.out.imp fun _ h => (h.left (Sep.framed OwnS.framed (Sep.framed ROwnS.framed (Framed.and Blk.framed Blk.framed)))).imp (fun _ h => h) fun _ h => h.imp (fun _ h => h) fun _ h => h.1)⟩
          · have hk0b : (kd == 0) = false := by simpa using hk0
            by_cases hk1 : kd = 1
            · subst hk1
              by_cases hdl2 : d < all.length
              · have HDR := Lib.hid (show all.drop d = all[d] :: all.drop (d + 1) from List.drop_eq_getElem_cons hdl2)
                have HFQ := Lib.hid (HP.out.fit _ (List.getElem_mem hdl2))
                rw [HDR.out] at HVo
                obtain ⟨q, hq⟩ : ∃ q, q = all[d] := ⟨_, rfl⟩
                have HQD := Lib.hid hq.symm
                rw [← hq] at HVo HFQ
                clear hq
                obtain ⟨r, ps, ss', hst⟩ : ∃ r ps ss', stepP ds ss q = (r, ps, ss') := ⟨_, _, _, rfl⟩
                have HMQ := Lib.hid (show 0 ≤ q.2.2.2.1 ∧ q.2.2.2.1 < ds.length by have := HFQ.out; unfold fitsP at this; simp only [Bool.and_eq_true, decide_eq_true_eq] at this; exact this.1)
                have HST := Lib.hid hst
                obtain ⟨rs', hsy, hcall⟩ := HP.out.sync.next (by omega) HMQ.out hst
                have HSY := Lib.hid hsy
                have HCALL := Lib.hid (fun A W h => hcall gr sd n all d en A W h hdl2 HQD.out)
                have HP2 := Lib.hid (show PS sd n ds ml mr (k + 1) ss' rs' all (d + 1) from ⟨hsy, by omega, by have := HP.out.al; omega, HP.out.fit⟩)
                clear hst hsy hcall
                go_wp2_with fail
                refine (HVo.out.on1x (Sep.framed ROwnS.framed (Framed.and Blk.framed Blk.framed)) (Px := fun vp => Sep (OwnS ga sd n ml ss' (all.drop (d + 1)) en) (fun S w => OwS ePair 50 S w vp ps)) (E := fun vp e => e = .returned (.tuple #[repV q r vp, .bool true])) (fun _ => Sep.framed OwnS.framed OwS.framed) fun A hA => step_any hA HP.out.sync.a (by rw [HP.out.sync.la]; exact HMQ.out) (by rw [HP.out.sync.ma]; exact HST.out)).mono ?_
                rintro e w10 ⟨va, rfl, h10⟩
                have H10 := Lib.hid (show Upd (Sep (ROwnS gr sd n mr rs all (d : Int) en) (Sep (fun S w => Blk bd (shO sd n (.slice am ds.length cm)) S w ∧ Blk ob (opO 1 m qa qs.length qc) S w) (Sep (OwnS ga sd n ml ss' (all.drop (d + 1)) en) (fun S w => OwS ePair 50 S w va ps)))) (fun _ => False) w w10 from h10.imp fun _ h => h.swap.assoc)
                obtain ⟨fr, tg, wk, mp, op, dk, dv⟩ := q
                obtain ⟨x0, x1, x2, x3, x4, x5⟩ := r
                have H10a := Lib.hid (H10.out.loc' ROwnS.framed (Sep.framed (Framed.and Blk.framed Blk.framed) (Sep.framed OwnS.framed OwS.framed)) (repO fr tg wk mp op dk dv x0 x1 x2 x3 x4 x5 va))
                obtain ⟨_, hz⟩ := h10.getL
                obtain ⟨_, _, _, _, _, _, ⟨⟨_, pa, pc, rfl, _⟩, _⟩⟩ := hz
                clear h10 H10 HVo hko
                go_wp2_with fail
                generalize w10.heap.size = rb at *
                generalize World.alloc w10 _ = wb at *
                refine (H10a.out.on1x (Framed.and (Sep.framed (Framed.and Blk.framed Blk.framed) (Sep.framed OwnS.framed OwS.framed)) Blk.framed) (Px := fun vp => Sep (ROwnS gr sd n mr rs' all ((d : Int) + 1) en) (fun S w => OwS ePair 50 S w vp ps)) (E := fun vp e => e = .returned (.tuple #[repV (fr, tg, wk, mp, op, dk, dv) (x0, x1, x2, x3, x4, x5) vp, .bool true])) (fun _ => Sep.framed ROwnS.framed OwS.framed) fun A hA => HCALL.out _ _ hA).mono ?_
                rintro e w11 ⟨vb, rfl, h11⟩
                obtain ⟨_, hq1, hbk⟩ := h11.getR
                obtain ⟨k0, k1, k2, k3, k4, k5, k6, k7, k8, k9, k10, k11, k12, k13⟩ := rep_cells hbk.1
                have hl1 : rb < w11.heap.size := heap_lt hbk.1
                obtain ⟨_, hz⟩ := h11.getL
                have HRB := Lib.hid (show Rd ePair w11 vb ps from (hz.right OwS.framed).rd)
                have HRA := Lib.hid (show Rd ePair w11 (.slice pa ps.length pc) ps from ((hq1.right (Sep.framed OwnS.framed OwS.framed)).right OwS.framed).rd)
                obtain ⟨_, pb, pd, rfl, _⟩ := HRB.out
                have H11 := Lib.hid (show Upd (Sep (OwnS ga sd n ml ss' (all.drop (d + 1)) en) (Sep (ROwnS gr sd n mr rs' all ((d : Int) + 1) en) (Blk bd (shO sd n (.slice am ds.length cm))))) (fun _ => False) w w11 from h11.imp fun _ h => (h.imp (fun _ h => h.left ROwnS.framed) fun _ h => h.1.imp (fun _ h => h.1) fun _ h => h.left OwnS.framed).assoc'.swap)
                have HO := Lib.hid (Only.alloc (fun _ => False) w11 (repO fr tg wk mp op dk dv x0 x1 x2 x3 x4 x5 (.slice pb ps.length pd)))
                have HAL := Lib.hid (alike_eq (fr, tg, wk, mp, op, dk, dv) (x0, x1, x2, x3, x4, x5) _ _ ps _ (HRA.out.only HO.out) (HRB.out.only HO.out))
                clear h11 hz hbk hq1 H10a
                go_wp2_with fail
                refine ((H11.out.fresh (Sep.framed OwnS.framed (Sep.framed ROwnS.framed Blk.framed)) HO.out).callRead (Sep.framed OwnS.framed (Sep.framed ROwnS.framed Blk.framed)) (E := fun e => e = .returned (.bool true)) HAL.out).mono ?_
                rintro e w12 ⟨rfl, h12⟩
                have H12 := Lib.hid (show Upd (Sep (OwnS ga sd n ml ss' (all.drop (d + 1)) en) (Sep (ROwnS gr sd n mr rs' all (((d + 1 : Nat)) : Int) en) (Blk bd (shO sd n (.slice am ds.length cm))))) (fun _ => False) w w12 from by rw [show (((d + 1 : Nat)) : Int) = (d : Int) + 1 by simp]; exact h12)
                clear h12 H11 HAL k0 k1 k2 k3 k4 k5 k6 k7 k8 k9 k10 k11 k12 k13
                go_wp2_with fail
                go_meet
                exact ⟨ss', rs', all, d + 1, en, rfl, HP2, H12⟩
              · obtain rfl : d = all.length := by omega
                rw [show all.drop all.length = [] from List.drop_length ..] at HVo
                go_wp2_with fail
                obtain ⟨_, hA⟩ := HVo.out.getL
                refine (HVo.out.callRead (Sep.framed OwnS.framed (Sep.framed ROwnS.framed (Framed.and Blk.framed Blk.framed))) (E := fun e => e = .returned (.tuple #[repV0, .bool false])) (step_none hA)).mono ?_
                rintro e w10 ⟨rfl, h10⟩
                have H10a := Lib.hid (h10.loc' OwnS.framed (Sep.framed ROwnS.framed (Framed.and Blk.framed Blk.framed)) (repO 0 0 false 0 0 0 0 0 false 0 false 0 0 (.slice none 0 0)))
                clear h10 HVo hA hko
                go_wp2_with fail
                generalize w10.heap.size = rb at *
                generalize World.alloc w10 _ = wb at *
                obtain ⟨_, hz, _⟩ := H10a.out.getR
                have hR := hz.left ROwnS.framed
                refine (H10a.out.callRead (Sep.framed OwnS.framed (Framed.and (Sep.framed ROwnS.framed (Framed.and Blk.framed Blk.framed)) Blk.framed)) (E := fun e => e = .returned (.tuple #[repV0, .bool false])) (rstep_none hR)).mono ?_
                rintro e w11 ⟨rfl, h11⟩
                obtain ⟨_, _, hbk⟩ := h11.getR
                obtain ⟨k0, k1, k2, k3, k4, k5, k6, k7, k8, k9, k10, k11, k12, k13⟩ := rep_cells hbk.1
                have hl1 : rb < w11.heap.size := heap_lt hbk.1
                have H11 := Lib.hid (show Upd (Sep (OwnS ga sd n ml ss (all.drop all.length) en) (Sep (ROwnS gr sd n mr rs all (all.length : Int) en) (Blk bd (shO sd n (.slice am ds.length cm))))) (fun _ => False) w w11 from h11.imp fun _ h => h.imp (fun _ h => by rw [show all.drop all.length = [] from List.drop_length ..]; exact h) fun _ h => h.1.imp (fun _ h => h) fun _ h => h.1)
                have HO := Lib.hid (Only.alloc (fun _ => False) w11 (repO 0 0 false 0 0 0 0 0 false 0 false 0 0 (.slice none 0 0)))
                have HAL := Lib.hid (alike_eq (0, 0, false, 0, 0, 0, 0) zR (.slice none 0 0) (.slice none 0 0) [] (w11.alloc (repO 0 0 false 0 0 0 0 0 false 0 false 0 0 (.slice none 0 0))) (OwS.nil (E := ePair) (ty := 50) (fun _ => False) _).rd (OwS.nil (E := ePair) (ty := 50) (fun _ => False) _).rd)
                clear h11 hz hbk hR H10a
                go_wp2_with fail
                refine ((H11.out.fresh (Sep.framed OwnS.framed (Sep.framed ROwnS.framed Blk.framed)) HO.out).callRead (Sep.framed OwnS.framed (Sep.framed ROwnS.framed Blk.framed)) (E := fun e => e = .returned (.bool true)) HAL.out).mono ?_
                rintro e w12 ⟨rfl, h12⟩
                have H12 := Lib.hid h12
                clear h12 H11 HAL k0 k1 k2 k3 k4 k5 k6 k7 k8 k9 k10 k11 k12 k13
                go_wp2_with fail
                go_meet
                exact ⟨ss, rs, all, all.length, en, rfl, Lib.hid HP.out.up, H12⟩
            · have hk1b : (kd == 1) = false := by simpa using hk1
              by_cases hk2 : kd = 2
              · subst hk2
                have HEA := Lib.hid (show endP en (all.drop d) = (if d < all.length then 42 else 0, if d < all.length then en else true) from by
                  unfold endP
                  by_cases h : d < all.length
                  · rw [if_pos h, if_pos h, List.drop_eq_getElem_cons h]; rfl
                  · rw [if_neg h, if_neg h, List.drop_eq_nil_of_le (by omega)]; rfl)
                obtain ⟨ec, hec⟩ : ∃ ec : Int, ec = if d < all.length then 42 else 0 := ⟨_, rfl⟩
                obtain ⟨en2, hen⟩ : ∃ en2 : Bool, en2 = if d < all.length then en else true := ⟨_, rfl⟩
                rw [← hec, ← hen] at HEA
                have HRE := Lib.hid (show ∀ A W, ROwnS gr sd n mr rs all (d : Int) en A W → Calls Try.prog 20 #[.pointer (some ⟨gr, 0, none⟩)] W fun e w' => e = .returned (.int .i64 ec) ∧ Upd (ROwnS gr sd n mr rs all (d : Int) en2) A W w' from fun A W h => by
                  have := rend_ h HP.out.dl
                  rwa [← hec, ← hen] at this)
                have hee : (ec == ec) = true := by simp
                clear hec hen
                go_wp2_with fail
                refine (HVo.out.on1 (Sep.framed ROwnS.framed (Framed.and Blk.framed Blk.framed)) (P' := OwnS ga sd n ml ss (all.drop d) en2) (E := fun e => e = .returned (.int .i64 ec)) OwnS.framed fun A hA => by
                  have := end_ hA
                  rwa [HEA.out] at this).mono ?_
                rintro e w10 ⟨rfl, h10⟩
                have H10 := Lib.hid h10
                clear h10 HVo hko
                go_wp2_with fail
                refine (H10.out.on2 OwnS.framed (Framed.and Blk.framed Blk.framed) (Q' := ROwnS gr sd n mr rs all (d : Int) en2) (E := fun e => e = .returned (.int .i64 ec)) ROwnS.framed fun A hA => HRE.out A _ hA).mono ?_
                rintro e w11 ⟨rfl, h11⟩
                have H11 := Lib.hid (show Upd (Sep (OwnS ga sd n ml ss (all.drop d) en2) (Sep (ROwnS gr sd n mr rs all (d : Int) en2) (Blk bd (shO sd n (.slice am ds.length cm))))) (fun _ => False) w w11 from h11.imp fun _ h => h.imp (fun _ h => h) fun _ h => h.imp (fun _ h => h) fun _ h => h.1)
                clear h11 H10
                go_wp2_with fail
                go_meet
                exact ⟨ss, rs, all, d, en2, rfl, Lib.hid HP.out.up, H11⟩
              · have hk2b : (kd == 2) = false := by simpa using hk2
                have HKC := Lib.hid (show ∀ W, Upd (Sep (OwnS ga sd n ml ss (all.drop d) en) (Sep (ROwnS gr sd n mr rs all (d : Int) en) (fun S w => Blk bd (shO sd n (.slice am ds.length cm)) S w ∧ Blk ob (opO kd m qa qs.length qc) S w))) (fun _ => False) w W → W.cell? ⟨ob, 1, none⟩ = some (.int .i64 m) ∧ W.cell? ⟨bd, 2, none⟩ = some (.slice am ds.length cm) from fun W h => by
                  obtain ⟨_, h⟩ := h.getR
                  obtain ⟨_, _, _, _, _, _, h1, h2⟩ := h
                  exact ⟨blk_cell h2.1 1, blk_cell h1.1 2⟩)
                clear hk0 hk1 hk2
                obtain ⟨m1, -⟩ := HKC.out _ HVo.out
                by_cases hm0 : m < 0 ∨ (ds.length : Int) ≤ m
                · go_wp2_with fail
                  obtain ⟨_, hA⟩ := HVo.out.getL
                  refine (HVo.out.callRead (Sep.framed OwnS.framed (Sep.framed ROwnS.framed (Framed.and Blk.framed Blk.framed))) (E := fun e => e = .returned (.tuple #[.slice none 0 0, .int .i64 2])) (opairs_bad hA m (by rw [HP.out.sync.la]; exact hm0))).mono ?_
                  rintro e w9 ⟨rfl, h9⟩
                  have H9 := Lib.hid h9
                  obtain ⟨m1, b2⟩ := HKC.out _ h9
                  have H9b := Lib.hid (show Upd (Sep (OwnS ga sd n ml ss (all.drop d) en) (Sep (ROwnS gr sd n mr rs all (d : Int) en) (Blk bd (shO sd n (.slice am ds.length cm))))) (fun _ => False) w w9 from h9.imp fun _ h => h.imp (fun _ h => h) fun _ h => h.imp (fun _ h => h) fun _ h => h.1)
                  clear h9 hA HVo hko
                  rcases hm0 with hm0 | hm0
                  · go_wp2_with fail
                    go_meet
                    exact ⟨ss, rs, all, d, en, rfl, Lib.hid HP.out.up, H9b⟩
                  · have hmn : ¬ m < 0 := by omega
                    go_wp2_with fail
                    go_meet
                    exact ⟨ss, rs, all, d, en, rfl, Lib.hid HP.out.up, H9b⟩
                · obtain ⟨i, rfl⟩ : ∃ i : Nat, m = (i : Int) := ⟨m.toNat, by omega⟩
                  have hid : i < ds.length := by omega
                  have hil : i < ss.length := by rw [← HP.out.sync.a.len, HP.out.sync.la]; exact hid
                  have hir : i < rs.length := by rw [← HP.out.sync.r.len, HP.out.sync.lr]; exact hid
                  have hirl : i < mr.length := by rw [HP.out.sync.lr]; exact hid
                  have hss : rs[i].1 = ss[i] := by simp [← HP.out.sync.m]
                  have hm1 : ¬ (i : Int) < 0 := by omega
                  have hm2 : ¬ (ds.length : Int) ≤ (i : Int) := by omega
                  clear hm0
                  go_wp2_with fail
                  obtain ⟨_, hA⟩ := HVo.out.getL
                  refine (HVo.out.callNew (Sep.framed OwnS.framed (Sep.framed ROwnS.framed (Framed.and Blk.framed Blk.framed))) (Yx := fun v S w => OwS ePair 50 S w v ss[i].1) (E := fun v e => e = .returned (.tuple #[v, .int .i64 0])) (fun _ => OwS.framed) (opairs_ok hA HP.out.sync.a i hil)).mono ?_
                  rintro e w9 ⟨vp, rfl, h9⟩
                  obtain ⟨m1, b2⟩ := HKC.out _ (h9.drop (Sep.framed OwnS.framed (Sep.framed ROwnS.framed (Framed.and Blk.framed Blk.framed))))
                  obtain ⟨_, ⟨⟨_, ap, cp, rfl, _⟩, _⟩⟩ := h9.getR
                  obtain ⟨vmr, var, hN⟩ := name_r h9
                  have HP1 := Lib.hid hN
                  obtain ⟨_, hzz⟩ := hN.getB
                  obtain ⟨⟨amr, cr, rfl⟩, _⟩ := (hzz.left ROwnV.framed).shapes
                  obtain ⟨sb, off, rfl, _⟩ := (hzz.left ROwnV.framed).slot hirl
                  obtain ⟨rsp, hrsp⟩ : ∃ rsp, rsp = mr[i].1.rs := ⟨_, rfl⟩
                  have HRP := Lib.hid (show ∀ A W, ROwnV gr sd n (.slice (some ⟨sb, off, none⟩) mr.length cr) var mr rs all (d : Int) en A W → Calls Try.prog 21 #[.pointer (some ⟨rsp, 0, none⟩)] W fun e w' => ∃ v', e = .returned v' ∧ OwS ePair 50 (fun k => W.heap.size ≤ k) w' v' ss[i].1 ∧ Only (fun _ => False) W w' from fun A W h => by
                    obtain ⟨B, hB, -⟩ := h.at i hirl hir
                    rw [hrsp]
                    have := refShPairs_ hB
                    rwa [hss] at this)
                  have HC19 := Lib.hid (show ∀ (Y : (Nat → Prop) → World → Prop) (W : World), Upd (Sep (Sep (OwnS ga sd n ml ss (all.drop d) en) (Sep (ROwnV gr sd n (.slice (some ⟨sb, off, none⟩) mr.length cr) var mr rs all (d : Int) en) (fun S w => Blk bd (shO sd n (.slice am ds.length cm)) S w ∧ Blk ob (opO kd (i : Int) qa qs.length qc) S w))) Y) (fun _ => False) w W → W.cell? ⟨ob, 1, none⟩ = some (.int .i64 (i : Int)) ∧ W.cell? ⟨gr, 2, none⟩ = some (.slice (some ⟨sb, off, none⟩) mr.length cr) ∧ W.cell? ⟨sb, off + i, none⟩ = some (.pointer (some ⟨rsp, 0, none⟩)) from fun Y W h => by
                    obtain ⟨_, hz⟩ := h.getB
                    obtain ⟨_, _, _, _, _, hr, _, h2⟩ := hz
                    obtain ⟨sb', off', he, hc⟩ := hr.slot hirl
                    obtain ⟨rfl, rfl⟩ : sb = sb' ∧ off = off' := by simpa using he
                    exact ⟨blk_cell h2.1 1, blk_cell hr.obj.1 2, by rw [hrsp]; exact hc⟩)
                  have hi0 : (0 : Int) ≤ (i : Int) := by omega
                  have hi1r : (i : Int) < (mr.length : Int) := by omega
                  clear h9 hA HVo hko hN hzz hrsp
                  go_wp2_with fail
                  refine wp_region_noPanic ?_
                  have HV2 := Lib.hid (HP1.out.drewU (Sep.framed (Sep.framed OwnS.framed (Sep.framed ROwnV.framed (Framed.and Blk.framed Blk.framed))) OwS.framed))
                  refine wp_region_held_drew (S := fun W => W.cell? ⟨ob, 1, none⟩ = some (.int .i64 (i : Int)) ∧ W.cell? ⟨gr, 2, none⟩ = some (.slice (some ⟨sb, off, none⟩) mr.length cr) ∧ W.cell? ⟨sb, off + i, none⟩ = some (.pointer (some ⟨rsp, 0, none⟩))) (by kernel_rfl) ?_ (fun hHeld => ?_)
                  · exact (HC19.out _ _ HV2.out)
                  try simp only [Act.put, List.getElem_toArray, List.getElem_cons_succ, List.getElem_cons_zero, List.setIfInBounds_toArray, List.set_cons_zero, List.set_cons_succ]
                  refine wpAnyH_take (i := 0) (v := ?vpd0) rfl (by kernel_rfl) (by kernel_rfl) (by kernel_rfl) (fun _ _ _ h => h) (Or.inl ⟨by rfl, ?hypd0⟩) (by assumption) ?restpd0
                  case hypd0 =>
                    intro w hSw
                    try dsimp only at hSw
                    go_simp
                    all_goals with_reducible rfl
                  simp only [Act.put, List.getElem_toArray, List.getElem_cons_succ, List.getElem_cons_zero, List.setIfInBounds_toArray, List.set_cons_zero, List.set_cons_succ]
                  refine wpAnyH_take (i := 1) (v := ?vpd1) rfl (by kernel_rfl) (by kernel_rfl) (by kernel_rfl) (fun _ _ _ h => h) (Or.inl ⟨by rfl, ?hypd1⟩) (by assumption) ?restpd1
                  case hypd1 =>
                    intro w hSw
                    try dsimp only at hSw
                    go_simp
                    all_goals with_reducible rfl
                  simp only [Act.put, List.getElem_toArray, List.getElem_cons_succ, List.getElem_cons_zero, List.setIfInBounds_toArray, List.set_cons_zero, List.set_cons_succ]
                  refine wpAnyH_take (i := 2) (v := ?vpd2) rfl (by kernel_rfl) (by kernel_rfl) (by kernel_rfl) (fun _ _ _ h => h) (Or.inl ⟨by rfl, ?hypd2⟩) (by assumption) ?restpd2
                  case hypd2 =>
                    intro w hSw
                    try dsimp only at hSw
                    go_simp
                    all_goals with_reducible rfl
                  simp only [Act.put, List.getElem_toArray, List.getElem_cons_succ, List.getElem_cons_zero, List.setIfInBounds_toArray, List.set_cons_zero, List.set_cons_succ]
                  refine wpAnyH_take (i := 3) (v := ?vpd3) rfl (by kernel_rfl) (by kernel_rfl) (by kernel_rfl) (fun _ _ _ h => h) (Or.inl ⟨by rfl, ?hypd3⟩) (by assumption) ?restpd3
                  case hypd3 =>
                    intro w hSw
                    try dsimp only at hSw
                    go_simp
                    all_goals with_reducible rfl
                  simp only [Act.put, List.getElem_toArray, List.getElem_cons_succ, List.getElem_cons_zero, List.setIfInBounds_toArray, List.set_cons_zero, List.set_cons_succ]
                  refine wpAnyH_take (i := 4) (v := ?vpd4) rfl (by kernel_rfl) (by kernel_rfl) (by kernel_rfl) (fun _ _ _ h => h) (Or.inl ⟨by rfl, ?hypd4⟩) (by assumption) ?restpd4
                  case hypd4 =>
                    intro w hSw
                    try dsimp only at hSw
                    go_simp
                    all_goals with_reducible rfl
                  simp only [Act.put, List.getElem_toArray, List.getElem_cons_succ, List.getElem_cons_zero, List.setIfInBounds_toArray, List.set_cons_zero, List.set_cons_succ]
                  refine wpAnyH_take (i := 5) (v := ?vpd5) rfl (by kernel_rfl) (by kernel_rfl) (by kernel_rfl) (fun _ _ _ h => h) (Or.inl ⟨by rfl, ?hypd5⟩) (by assumption) ?restpd5
                  case hypd5 =>
                    intro w hSw
                    try dsimp only at hSw
                    go_simp
                    all_goals with_reducible rfl
                  simp only [Act.put, List.getElem_toArray, List.getElem_cons_succ, List.getElem_cons_zero, List.setIfInBounds_toArray, List.set_cons_zero, List.set_cons_succ]
                  refine wpAnyH_take (i := 6) (v := ?vpd6) rfl (by kernel_rfl) (by kernel_rfl) (by kernel_rfl) (fun _ _ _ h => h) (Or.inl ⟨by rfl, ?hypd6⟩) (by assumption) ?restpd6
                  case hypd6 =>
                    intro w hSw
                    try dsimp only at hSw
                    go_simp
                    all_goals with_reducible rfl
                  simp only [Act.put, List.getElem_toArray, List.getElem_cons_succ, List.getElem_cons_zero, List.setIfInBounds_toArray, List.set_cons_zero, List.set_cons_succ]
                  refine wpAnyH_take (i := 7) (v := ?vpd7) rfl (by kernel_rfl) (by kernel_rfl) (by kernel_rfl) (fun _ _ _ h => h) (Or.inl ⟨by rfl, ?hypd7⟩) (by assumption) ?restpd7
                  case hypd7 =>
                    intro w hSw
                    try dsimp only at hSw
                    go_simp
                    all_goals with_reducible rfl
                  simp only [Act.put, List.getElem_toArray, List.getElem_cons_succ, List.getElem_cons_zero, List.setIfInBounds_toArray, List.set_cons_zero, List.set_cons_succ]
                  refine wpAnyH_take (i := 8) (v := ?vpd8) rfl (by kernel_rfl) (by kernel_rfl) (by kernel_rfl) (fun _ _ _ h => h) (Or.inl ⟨by rfl, ?hypd8⟩) (by assumption) ?restpd8
                  case hypd8 =>
                    intro w hSw
                    try dsimp only at hSw
                    go_simp
                    all_goals with_reducible rfl
                  simp only [Act.put, List.getElem_toArray, List.getElem_cons_succ, List.getElem_cons_zero, List.setIfInBounds_toArray, List.set_cons_zero, List.set_cons_succ]
                  refine wpAnyH_take (i := 9) (v := ?vpd9) rfl (by kernel_rfl) (by kernel_rfl) (by kernel_rfl) (fun _ _ _ h => h) (Or.inl ⟨by rfl, ?hypd9⟩) (by assumption) ?restpd9
                  case hypd9 =>
                    intro w hSw
                    try dsimp only at hSw
                    go_simp
                    all_goals with_reducible rfl
                  simp only [Act.put, List.getElem_toArray, List.getElem_cons_succ, List.getElem_cons_zero, List.setIfInBounds_toArray, List.set_cons_zero, List.set_cons_succ]
                  refine wpAnyH_take (i := 10) (v := ?vpd10) rfl (by kernel_rfl) (by kernel_rfl) (by kernel_rfl) (fun _ _ _ h => h) (Or.inl ⟨by rfl, ?hypd10⟩) (by assumption) ?restpd10
                  case hypd10 =>
                    intro w hSw
                    try dsimp only at hSw
                    go_simp
                    all_goals with_reducible rfl
                  simp only [Act.put, List.getElem_toArray, List.getElem_cons_succ, List.getElem_cons_zero, List.setIfInBounds_toArray, List.set_cons_zero, List.set_cons_succ]
                  refine wpAnyH_take (i := 11) (v := ?vpd11) rfl (by kernel_rfl) (by kernel_rfl) (by kernel_rfl) (fun _ _ _ h => h) (Or.inl ⟨by rfl, ?hypd11⟩) (by assumption) ?restpd11
                  case hypd11 =>
                    intro w hSw
                    try dsimp only at hSw
                    go_simp
                    all_goals with_reducible rfl
                  simp only [Act.put, List.getElem_toArray, List.getElem_cons_succ, List.getElem_cons_zero, List.setIfInBounds_toArray, List.set_cons_zero, List.set_cons_succ]
                  refine wpAnyH_ready (rs := [12]) (by kernel_rfl) (by simp) ?_
                  refine AllReadyH.cons rfl (fun K hK => ?_) AllReadyH.nil
                  go_simp
                  obtain ⟨_, hzz⟩ := HV2.out.getB
                  have hRR := HRP.out _ _ (hzz.left ROwnV.framed)
                  refine (HV2.out.callNew (Sep.framed (Sep.framed OwnS.framed (Sep.framed ROwnV.framed (Framed.and Blk.framed Blk.framed))) OwS.framed) (Yx := fun v S w => OwS ePair 50 S w v ss[i].1) (E := fun v e => e = .returned v) (fun _ => OwS.framed) hRR).mono ?_
                  rintro e wa ⟨vr, rfl, h3⟩
                  have HV3 := Lib.hid h3
                  clear h3 hzz hRR
                  try go_wp2_with fail
                  refine hK.out _ _ ?_ (fun hHeld => ?_)
                  · exact (HC19.out _ _ (HV3.out.drop (Sep.framed (Sep.framed OwnS.framed (Sep.framed ROwnV.framed (Framed.and Blk.framed Blk.framed))) OwS.framed)))
                  clear hK K
                  try simp only [Act.put, List.getElem_toArray, List.getElem_cons_succ, List.getElem_cons_zero, List.setIfInBounds_toArray, List.set_cons_zero, List.set_cons_succ]
                  refine wpAnyH_ready (rs := [13]) (by kernel_rfl) (by simp) ?_
                  refine AllReadyH.cons rfl (fun K hK => ?_) AllReadyH.nil
                  go_simp
                  obtain ⟨_, ha1⟩ := HV3.out.getR
                  obtain ⟨_, hb1⟩ := HV3.out.getB
                  refine (HV3.out.callRead (Sep.framed (Sep.framed (Sep.framed OwnS.framed (Sep.framed ROwnV.framed (Framed.and Blk.framed Blk.framed))) OwS.framed) OwS.framed) (E := fun e => e = .returned (.bool true)) (pairs_eq ss[i].1 _ _ _ hb1.rd ha1.rd)).mono ?_
                  rintro e wb ⟨rfl, h4⟩
                  have HV4 := Lib.hid h4
                  clear h4 ha1 hb1
                  try go_wp2_with fail
                  refine hK.out _ _ ?_ (fun hHeld => ?_)
                  · exact (HC19.out _ _ (HV4.out.drop (Sep.framed (Sep.framed OwnS.framed (Sep.framed ROwnV.framed (Framed.and Blk.framed Blk.framed))) OwS.framed)))
                  clear hK K
                  try simp only [Act.put, List.getElem_toArray, List.getElem_cons_succ, List.getElem_cons_zero, List.setIfInBounds_toArray, List.set_cons_zero, List.set_cons_succ]
                  refine wpAnyH_take (i := 14) (v := ?vpd14) rfl (by kernel_rfl) (by kernel_rfl) (by kernel_rfl) (fun _ _ _ h => h) (Or.inl ⟨by rfl, ?hypd14⟩) (by assumption) ?restpd14
                  case hypd14 =>
                    intro w hSw
                    try dsimp only at hSw
                    go_simp
                    all_goals with_reducible rfl
                  simp only [Act.put, List.getElem_toArray, List.getElem_cons_succ, List.getElem_cons_zero, List.setIfInBounds_toArray, List.set_cons_zero, List.set_cons_succ]
                  refine wpAnyH_take (i := 15) (v := ?vpd15) rfl (by kernel_rfl) (by kernel_rfl) (by kernel_rfl) (fun _ _ _ h => h) (Or.inl ⟨by rfl, ?hypd15⟩) (by assumption) ?restpd15
                  case hypd15 =>
                    intro w hSw
                    try dsimp only at hSw
                    go_simp
                    all_goals with_reducible rfl
                  simp only [Act.put, List.getElem_toArray, List.getElem_cons_succ, List.getElem_cons_zero, List.setIfInBounds_toArray, List.set_cons_zero, List.set_cons_succ]
                  clear hHeld
                  refine wpAnyH_done (by kernel_rfl) ?_ _
                  refine NoPanic.normal ?_
                  go_wp2_with fail
                  go_meet
                  exact ⟨ss, rs, all, d, en, rfl, Lib.hid HP.out.up, Lib.hid (HV4.out.imp fun _ h => ((h.left (Sep.framed (Sep.framed OwnS.framed (Sep.framed ROwnV.framed (Framed.and Blk.framed Blk.framed))) OwS.framed)).left (Sep.framed OwnS.framed (Sep.framed ROwnV.framed (Framed.and Blk.framed Blk.framed)))).imp (fun _ h => h) fun _ h => h.imp (fun _ h => h.plain) fun _ h => h.1)⟩
        case rest => as_aux_lemma =>
          clear HP HVo
          obtain ⟨ss, rs, all, d, en, rfl, HP, V⟩ := hcut
          have hal := HP.out.al
          have hdl := HP.out.dl
          obtain ⟨vmr, var, hN⟩ := name_r0 V.out
          have HVN := Lib.hid hN
          obtain ⟨_, hzz⟩ := hN.getR
          obtain ⟨_, ⟨aa, ca, rfl⟩⟩ := (hzz.left ROwnV.framed).shapes
          have hsl := slice_fromR aa all.length ca d hdl
          obtain ⟨ta, tn, tc, htl⟩ : ∃ ta tn tc, Value.slice ta tn tc = .slice (if ca = d then aa else Option.map (fun x : Addr => x.add (d * 7)) aa) (all.length - d) (ca - d) := ⟨_, _, _, rfl⟩
          rw [← htl] at hsl
          have HC33 := Lib.hid (show ∀ (W : World), Upd (Sep (OwnS ga sd n ml ss (all.drop d) en) (Sep (ROwnV gr sd n vmr (.slice aa all.length ca) mr rs all (d : Int) en) (Blk bd (shO sd n (.slice am ds.length cm))))) (fun _ => False) w W → W.cell? ⟨gr, 3, none⟩ = some (.slice aa all.length ca) ∧ W.cell? ⟨gr, 4, none⟩ = some (.int .i64 (d : Int)) ∧ W.cell? ⟨gr, 5, none⟩ = some (.bool en) from fun W h => by
            obtain ⟨_, hz⟩ := h.getR
            have hr := (hz.left ROwnV.framed).obj.1
            exact ⟨blk_cell hr 3, blk_cell hr 4, blk_cell hr 5⟩)
          have HTL := Lib.hid (show ∀ (Y : (Nat → Prop) → World → Prop) (W : World), Upd (Sep (Sep (OwnS ga sd n ml ss (all.drop d) en) (Sep (ROwnV gr sd n vmr (.slice aa all.length ca) mr rs all (d : Int) en) (Blk bd (shO sd n (.slice am ds.length cm))))) Y) (fun _ => False) w W → Rd eReq W (.slice ta tn tc) (all.drop d) from fun Y W h => by
            obtain ⟨_, hz⟩ := h.getB
            rw [htl]
            exact (hz.left ROwnV.framed).obj.2.2.sliced d (d * 7) rfl hdl)
          have hne : (en != en) = false := by simp
          clear V hN hzz htl
          go_wp2_with fail
          refine wp_region_noPanic ?_
          have HV2 := Lib.hid (HVN.out.drewU (Sep.framed OwnS.framed (Sep.framed ROwnV.framed Blk.framed)))
          refine wp_region_held_drew (S := fun W => W.cell? ⟨gr, 3, none⟩ = some (.slice aa all.length ca) ∧ W.cell? ⟨gr, 4, none⟩ = some (.int .i64 (d : Int)) ∧ W.cell? ⟨gr, 5, none⟩ = some (.bool en)) (by kernel_rfl) ?_ (fun hHeld => ?_)
          · exact (HC33.out _ HV2.out)
          try simp only [Act.put, List.getElem_toArray, List.getElem_cons_succ, List.getElem_cons_zero, List.setIfInBounds_toArray, List.set_cons_zero, List.set_cons_succ]
          refine wpAnyH_take (i := 0) (v := ?vpe0) rfl (by kernel_rfl) (by kernel_rfl) (by kernel_rfl) (fun _ _ _ h => h) (Or.inl ⟨by rfl, ?hype0⟩) (by assumption) ?restpe0
          case hype0 =>
            intro w hSw
            try dsimp only at hSw
            go_simp
            all_goals with_reducible rfl
          simp only [Act.put, List.getElem_toArray, List.getElem_cons_succ, List.getElem_cons_zero, List.setIfInBounds_toArray, List.set_cons_zero, List.set_cons_succ]
          refine wpAnyH_take (i := 1) (v := ?vpe1) rfl (by kernel_rfl) (by kernel_rfl) (by kernel_rfl) (fun _ _ _ h => h) (Or.inl ⟨by rfl, ?hype1⟩) (by assumption) ?restpe1
          case hype1 =>
            intro w hSw
            try dsimp only at hSw
            go_simp
            all_goals with_reducible rfl
          simp only [Act.put, List.getElem_toArray, List.getElem_cons_succ, List.getElem_cons_zero, List.setIfInBounds_toArray, List.set_cons_zero, List.set_cons_succ]
          refine wpAnyH_take (i := 2) (v := ?vpe2) rfl (by kernel_rfl) (by kernel_rfl) (by kernel_rfl) (fun _ _ _ h => h) (Or.inl ⟨by rfl, ?hype2⟩) (by assumption) ?restpe2
          case hype2 =>
            intro w hSw
            try dsimp only at hSw
            go_simp
            all_goals with_reducible rfl
          simp only [Act.put, List.getElem_toArray, List.getElem_cons_succ, List.getElem_cons_zero, List.setIfInBounds_toArray, List.set_cons_zero, List.set_cons_succ]
          refine wpAnyH_take (i := 3) (v := ?vpe3) rfl (by kernel_rfl) (by kernel_rfl) (by kernel_rfl) (fun _ _ _ h => h) (Or.inl ⟨by rfl, ?hype3⟩) (by assumption) ?restpe3
          case hype3 =>
            intro w hSw
            try dsimp only at hSw
            go_simp
            all_goals with_reducible rfl
          simp only [Act.put, List.getElem_toArray, List.getElem_cons_succ, List.getElem_cons_zero, List.setIfInBounds_toArray, List.set_cons_zero, List.set_cons_succ]
          refine wpAnyH_take (i := 5) (v := ?vpe5) rfl (by kernel_rfl) (by kernel_rfl) (by kernel_rfl) (fun _ _ _ h => h) (Or.inl ⟨by rfl, ?hype5⟩) (by assumption) ?restpe5
          case hype5 =>
            intro w hSw
            try dsimp only at hSw
            go_simp
            all_goals with_reducible rfl
          simp only [Act.put, List.getElem_toArray, List.getElem_cons_succ, List.getElem_cons_zero, List.setIfInBounds_toArray, List.set_cons_zero, List.set_cons_succ]
          refine wpAnyH_take (i := 6) (v := ?vpe6) rfl (by kernel_rfl) (by kernel_rfl) (by kernel_rfl) (fun _ _ _ h => h) (Or.inl ⟨by rfl, ?hype6⟩) (by assumption) ?restpe6
          case hype6 =>
            intro w hSw
            try dsimp only at hSw
            go_simp
            all_goals with_reducible rfl
          simp only [Act.put, List.getElem_toArray, List.getElem_cons_succ, List.getElem_cons_zero, List.setIfInBounds_toArray, List.set_cons_zero, List.set_cons_succ]
          refine wpAnyH_take (i := 7) (v := ?vpe7) rfl (by kernel_rfl) (by kernel_rfl) (by kernel_rfl) (fun _ _ _ h => h) (Or.inl ⟨by rfl, ?hype7⟩) (by assumption) ?restpe7
          case hype7 =>
            intro w hSw
            try dsimp only at hSw
            go_simp
            all_goals with_reducible rfl
          simp only [Act.put, List.getElem_toArray, List.getElem_cons_succ, List.getElem_cons_zero, List.setIfInBounds_toArray, List.set_cons_zero, List.set_cons_succ]
          refine wpAnyH_take (i := 8) (v := ?vpe8) rfl (by kernel_rfl) (by kernel_rfl) (by kernel_rfl) (fun _ _ _ h => h) (Or.inl ⟨by rfl, ?hype8⟩) (by assumption) ?restpe8
          case hype8 =>
            intro w hSw
            try dsimp only at hSw
            go_simp
            all_goals with_reducible rfl
          simp only [Act.put, List.getElem_toArray, List.getElem_cons_succ, List.getElem_cons_zero, List.setIfInBounds_toArray, List.set_cons_zero, List.set_cons_succ]
          refine wpAnyH_take (i := 9) (v := ?vpe9) rfl (by kernel_rfl) (by kernel_rfl) (by kernel_rfl) (fun _ _ _ h => h) (Or.inl ⟨by rfl, ?hype9⟩) (by assumption) ?restpe9
          case hype9 =>
            intro w hSw
            try dsimp only at hSw
            go_simp
            all_goals with_reducible rfl
          simp only [Act.put, List.getElem_toArray, List.getElem_cons_succ, List.getElem_cons_zero, List.setIfInBounds_toArray, List.set_cons_zero, List.set_cons_succ]
          refine wpAnyH_take (i := 10) (v := ?vpe10) rfl (by kernel_rfl) (by kernel_rfl) (by kernel_rfl) (fun _ _ _ h => h) (Or.inl ⟨by rfl, ?hype10⟩) (by assumption) ?restpe10
          case hype10 =>
            intro w hSw
            try dsimp only at hSw
            go_simp
            all_goals with_reducible rfl
          simp only [Act.put, List.getElem_toArray, List.getElem_cons_succ, List.getElem_cons_zero, List.setIfInBounds_toArray, List.set_cons_zero, List.set_cons_succ]
          refine wpAnyH_take (i := 11) (v := ?vpe11) rfl (by kernel_rfl) (by kernel_rfl) (by kernel_rfl) (fun _ _ _ h => h) (Or.inl ⟨by rfl, ?hype11⟩) (by assumption) ?restpe11
          case hype11 =>
            intro w hSw
            try dsimp only at hSw
            go_simp
            all_goals with_reducible rfl
          simp only [Act.put, List.getElem_toArray, List.getElem_cons_succ, List.getElem_cons_zero, List.setIfInBounds_toArray, List.set_cons_zero, List.set_cons_succ]
          refine wpAnyH_take (i := 12) (v := ?vpe12) rfl (by kernel_rfl) (by kernel_rfl) (by kernel_rfl) (fun _ _ _ h => h) (Or.inl ⟨by rfl, ?hype12⟩) (by assumption) ?restpe12
          case hype12 =>
            intro w hSw
            try dsimp only at hSw
            go_simp
            all_goals with_reducible rfl
          simp only [Act.put, List.getElem_toArray, List.getElem_cons_succ, List.getElem_cons_zero, List.setIfInBounds_toArray, List.set_cons_zero, List.set_cons_succ]
          refine wpAnyH_take (i := 13) (v := ?vpe13) rfl (by kernel_rfl) (by kernel_rfl) (by kernel_rfl) (fun _ _ _ h => h) (Or.inl ⟨by rfl, ?hype13⟩) (by assumption) ?restpe13
          case hype13 =>
            intro w hSw
            try dsimp only at hSw
            go_simp
            all_goals with_reducible rfl
          simp only [Act.put, List.getElem_toArray, List.getElem_cons_succ, List.getElem_cons_zero, List.setIfInBounds_toArray, List.set_cons_zero, List.set_cons_succ]
          refine wpAnyH_ready (rs := [4]) (by kernel_rfl) (by simp) ?_
          refine AllReadyH.cons rfl (fun K hK => ?_) AllReadyH.nil
          go_simp
          obtain ⟨_, hA⟩ := HV2.out.getL
          refine (HV2.out.callNew (Sep.framed OwnS.framed (Sep.framed ROwnV.framed Blk.framed)) (Yx := fun v S w => OwS eReq 37 S w v (all.drop d)) (E := fun v e => e = .returned v) (fun _ => OwS.framed) (waiting_ hA (by simp only [List.length_drop]; omega))).mono ?_
          rintro e wa ⟨vw, rfl, h3⟩
          have HV3 := Lib.hid h3
          clear h3 hA
          try go_wp2_with fail
          refine hK.out _ _ ?_ (fun hHeld => ?_)
          · exact (HC33.out _ (HV3.out.drop (Sep.framed OwnS.framed (Sep.framed ROwnV.framed Blk.framed))))
          clear hK K
          try simp only [Act.put, List.getElem_toArray, List.getElem_cons_succ, List.getElem_cons_zero, List.setIfInBounds_toArray, List.set_cons_zero, List.set_cons_succ]
          refine wpAnyH_ready (rs := [14]) (by kernel_rfl) (by simp) ?_
          refine AllReadyH.cons rfl (fun K hK => ?_) AllReadyH.nil
          go_simp
          obtain ⟨_, ha1⟩ := HV3.out.getR
          refine (HV3.out.callRead (Sep.framed (Sep.framed OwnS.framed (Sep.framed ROwnV.framed Blk.framed)) OwS.framed) (E := fun e => e = .returned (.bool true)) (lines_eq (all.drop d) _ _ _ ha1.rd (HTL.out _ _ HV3.out))).mono ?_
          rintro e wb ⟨rfl, h4⟩
          have HV4 := Lib.hid (h4.drop (Sep.framed OwnS.framed (Sep.framed ROwnV.framed Blk.framed)))
          clear h4 ha1
          try go_wp2_with fail
          refine hK.out _ _ ?_ (fun hHeld => ?_)
          · exact (HC33.out _ HV4.out)
          clear hK K
          try simp only [Act.put, List.getElem_toArray, List.getElem_cons_succ, List.getElem_cons_zero, List.setIfInBounds_toArray, List.set_cons_zero, List.set_cons_succ]
          refine wpAnyH_take (i := 15) (v := ?vpe15) rfl (by kernel_rfl) (by kernel_rfl) (by kernel_rfl) (fun _ _ _ h => h) (Or.inl ⟨by rfl, ?hype15⟩) (by assumption) ?restpe15
          case hype15 =>
            intro w hSw
            try dsimp only at hSw
            go_simp
            all_goals with_reducible rfl
          simp only [Act.put, List.getElem_toArray, List.getElem_cons_succ, List.getElem_cons_zero, List.setIfInBounds_toArray, List.set_cons_zero, List.set_cons_succ]
          refine wpAnyH_take (i := 16) (v := ?vpe16) rfl (by kernel_rfl) (by kernel_rfl) (by kernel_rfl) (fun _ _ _ h => h) (Or.inl ⟨by rfl, ?hype16⟩) (by assumption) ?restpe16
          case hype16 =>
            intro w hSw
            try dsimp only at hSw
            go_simp
            all_goals with_reducible rfl
          simp only [Act.put, List.getElem_toArray, List.getElem_cons_succ, List.getElem_cons_zero, List.setIfInBounds_toArray, List.set_cons_zero, List.set_cons_succ]
          refine wpAnyH_take (i := 17) (v := ?vpe17) rfl (by kernel_rfl) (by kernel_rfl) (by kernel_rfl) (fun _ _ _ h => h) (Or.inl ⟨by rfl, ?hype17⟩) (by assumption) ?restpe17
          case hype17 =>
            intro w hSw
            try dsimp only at hSw
            go_simp
            all_goals with_reducible rfl
          simp only [Act.put, List.getElem_toArray, List.getElem_cons_succ, List.getElem_cons_zero, List.setIfInBounds_toArray, List.set_cons_zero, List.set_cons_succ]
          refine wpAnyH_take (i := 18) (v := ?vpe18) rfl (by kernel_rfl) (by kernel_rfl) (by kernel_rfl) (fun _ _ _ h => h) (Or.inl ⟨by rfl, ?hype18⟩) (by assumption) ?restpe18
          case hype18 =>
            intro w hSw
            try dsimp only at hSw
            go_simp
            all_goals with_reducible rfl
          simp only [Act.put, List.getElem_toArray, List.getElem_cons_succ, List.getElem_cons_zero, List.setIfInBounds_toArray, List.set_cons_zero, List.set_cons_succ]
          refine wpAnyH_take (i := 20) (v := ?vpe20) rfl (by kernel_rfl) (by kernel_rfl) (by kernel_rfl) (fun _ _ _ h => h) (Or.inl ⟨by rfl, ?hype20⟩) (by assumption) ?restpe20
          case hype20 =>
            intro w hSw
            try dsimp only at hSw
            go_simp
            all_goals with_reducible rfl
          simp only [Act.put, List.getElem_toArray, List.getElem_cons_succ, List.getElem_cons_zero, List.setIfInBounds_toArray, List.set_cons_zero, List.set_cons_succ]
          refine wpAnyH_take (i := 21) (v := ?vpe21) rfl (by kernel_rfl) (by kernel_rfl) (by kernel_rfl) (fun _ _ _ h => h) (Or.inl ⟨by rfl, ?hype21⟩) (by assumption) ?restpe21
          case hype21 =>
            intro w hSw
            try dsimp only at hSw
            go_simp
            all_goals with_reducible rfl
          simp only [Act.put, List.getElem_toArray, List.getElem_cons_succ, List.getElem_cons_zero, List.setIfInBounds_toArray, List.set_cons_zero, List.set_cons_succ]
          refine wpAnyH_take (i := 22) (v := ?vpe22) rfl (by kernel_rfl) (by kernel_rfl) (by kernel_rfl) (fun _ _ _ h => h) (Or.inl ⟨by rfl, ?hype22⟩) (by assumption) ?restpe22
          case hype22 =>
            intro w hSw
            try dsimp only at hSw
            go_simp
            all_goals with_reducible rfl
          simp only [Act.put, List.getElem_toArray, List.getElem_cons_succ, List.getElem_cons_zero, List.setIfInBounds_toArray, List.set_cons_zero, List.set_cons_succ]
          refine wpAnyH_take (i := 23) (v := ?vpe23) rfl (by kernel_rfl) (by kernel_rfl) (by kernel_rfl) (fun _ _ _ h => h) (Or.inl ⟨by rfl, ?hype23⟩) (by assumption) ?restpe23
          case hype23 =>
            intro w hSw
            try dsimp only at hSw
            go_simp
            all_goals with_reducible rfl
          simp only [Act.put, List.getElem_toArray, List.getElem_cons_succ, List.getElem_cons_zero, List.setIfInBounds_toArray, List.set_cons_zero, List.set_cons_succ]
          refine wpAnyH_ready (rs := [19]) (by kernel_rfl) (by simp) ?_
          refine AllReadyH.cons rfl (fun K hK => ?_) AllReadyH.nil
          go_simp
          obtain ⟨_, hA⟩ := HV4.out.getL
          refine (HV4.out.callRead (Sep.framed OwnS.framed (Sep.framed ROwnV.framed Blk.framed)) (E := fun e => e = .returned (.bool en)) (ended_ hA)).mono ?_
          rintro e wc ⟨rfl, h5⟩
          have HV5 := Lib.hid h5
          clear h5 hA
          try go_wp2_with fail
          refine hK.out _ _ ?_ (fun hHeld => ?_)
          · exact (HC33.out _ HV5.out)
          clear hK K
          try simp only [Act.put, List.getElem_toArray, List.getElem_cons_succ, List.getElem_cons_zero, List.setIfInBounds_toArray, List.set_cons_zero, List.set_cons_succ]
          refine wpAnyH_take (i := 24) (v := ?vpe24) rfl (by kernel_rfl) (by kernel_rfl) (by kernel_rfl) (fun _ _ _ h => h) (Or.inl ⟨by rfl, ?hype24⟩) (by assumption) ?restpe24
          case hype24 =>
            intro w hSw
            try dsimp only at hSw
            go_simp
            all_goals with_reducible rfl
          simp only [Act.put, List.getElem_toArray, List.getElem_cons_succ, List.getElem_cons_zero, List.setIfInBounds_toArray, List.set_cons_zero, List.set_cons_succ]
          refine wpAnyH_take (i := 25) (v := ?vpe25) rfl (by kernel_rfl) (by kernel_rfl) (by kernel_rfl) (fun _ _ _ h => h) (Or.inl ⟨by rfl, ?hype25⟩) (by assumption) ?restpe25
          case hype25 =>
            intro w hSw
            try dsimp only at hSw
            go_simp
            all_goals with_reducible rfl
          simp only [Act.put, List.getElem_toArray, List.getElem_cons_succ, List.getElem_cons_zero, List.setIfInBounds_toArray, List.set_cons_zero, List.set_cons_succ]
          clear hHeld
          refine wpAnyH_done (by kernel_rfl) ?_ _
          refine NoPanic.normal ?_
          clear HVN HV2 HV3 HV4
          go_wp2_with fail
          refine ⟨⟨k + 1, ss, rs, all, d, en, by omega, by omega, by simp, HP, Lib.hid (HV5.out.imp fun _ h => h.imp (fun _ h => h) fun _ h => h.imp (fun _ h => h.plain) fun _ h => h)⟩, ?_⟩
          first | omega | (simp only [intOf]; omega)
    · have HSD := Lib.hid (show k = ops.length ∨ (k < ops.length ∧ k = 300) by omega)
      rcases HSD.out with rfl | ⟨hlt2, rfl⟩
      · go_wp2_with fail
        go_ret
        exact ⟨rfl, V.out.2⟩
      · go_wp2_with fail
        go_ret
        exact ⟨rfl, V.out.2⟩
end Go.Proofs.Ytdlkblklfoagbaa
