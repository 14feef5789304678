/- owner: the document's owner, Step (printed by rownstep.py). -/
import Derived.Test.YtdlkblklfoagbaaOwnStep
import Derived.Test.YtdlkblklfoagbaaROwnSend
namespace Go.Proofs.Ytdlkblklfoagbaa
open Go.RowKit
set_option linter.unusedVariables false
set_option linter.unusedSimpArgs false

theorem setRow_alloc (w : World) (c0 cs : Array Value) (ty : Nat) (fr : Nat × Nat) : (w.alloc (.cells c0 ty fr)).setRow w.heap.size cs = w.alloc (.cells cs ty fr) := by
  simp only [World.setRow, World.alloc]
  congr 1
  apply Array.ext
  · simp
  · intro i h1 h2
    simp only [Array.getElem_modify, Array.getElem_push]
    split
    · next h => subst h; simp
    · next h =>
      have : i < w.heap.size := by simp at h1; omega
      simp [this]
theorem all_slot {w : World} {al : Option Addr} {cl : Nat} {all : List ReqD} (h : Rd eReq w (.slice al all.length cl) all) (d : Nat) (hd : d < all.length) :
    ∃ lb lo, al = some ⟨lb, lo, none⟩ ∧ Hid (∀ W, Rd eReq W (.slice (some ⟨lb, lo, none⟩) all.length cl) all → W.cell? ⟨lb, lo + d * 7, none⟩ = some (.int .i64 all[d].1) ∧ W.cell? ⟨lb, lo + d * 7 + 1, none⟩ = some (.int .i64 all[d].2.1) ∧ W.cell? ⟨lb, lo + d * 7 + 2, none⟩ = some (.bool all[d].2.2.1) ∧ W.cell? ⟨lb, lo + d * 7 + 3, none⟩ = some (.int .i64 all[d].2.2.2.1) ∧ W.cell? ⟨lb, lo + d * 7 + 4, none⟩ = some (.int .i64 all[d].2.2.2.2.1) ∧ W.cell? ⟨lb, lo + d * 7 + 5, none⟩ = some (.int .u64 all[d].2.2.2.2.2.1) ∧ W.cell? ⟨lb, lo + d * 7 + 6, none⟩ = some (.int .u64 all[d].2.2.2.2.2.2)) := by
  obtain ⟨_, a1, c1, he, _, _, hx⟩ := h
  obtain ⟨lb, lo, hab, _⟩ := hx (by omega)
  have ha : al = a1 := by simp at he; exact he.1
  refine ⟨lb, lo, ha.trans hab, Lib.hid fun W hW => ?_⟩
  obtain ⟨_, a2, c2, he2, _, _, hx2⟩ := hW
  obtain ⟨lb2, lo2, hab2, hc⟩ := hx2 (by omega)
  have ha2 : some (⟨lb, lo, none⟩ : Addr) = a2 := by simp at he2; exact he2.1
  obtain ⟨rfl, rfl⟩ : lb = lb2 ∧ lo = lo2 := by rw [hab2] at ha2; simpa using ha2
  exact req_cells hc d hd
section
variable {P R : (Nat → Prop) → World → Prop} {T : Nat → Prop} {w w1 : World}
theorem getL_ (h : Upd (Sep P R) T w w1) : ∃ A, P A w1 := h.getL
theorem locs_two (hP : Framed P) (h : Upd (Sep P (Locs [])) T w w) (o2 o1 : Obj) : Upd (Sep P (Locs [(w.heap.size + 1, o1), (w.heap.size, o2)])) T w ((w.alloc o2).alloc o1).drew.drew := by
  have h2 := (((h.loc hP o2).loc hP o1).drewU (Sep.framed hP Locs.framed)).drewU (Sep.framed hP Locs.framed)
  rwa [show (w.alloc o2).heap.size = w.heap.size + 1 by simp] at h2
theorem setRow_alloc2 (W : World) (n : Nat) (c0 cs : Array Value) (ty : Nat) (fr : Nat × Nat) (hn : n = W.heap.size) : (W.alloc (.cells c0 ty fr)).drew.drew.setRow n cs = (W.alloc (.cells cs ty fr)).drew.drew := by
  subst hn
  exact congrArg (fun w => World.drew (World.drew w)) (setRow_alloc W c0 cs ty fr)
theorem alloc_two (W : World) (o2 o1 : Obj) : ((W.alloc o2).alloc o1).drew.drew.heap[W.heap.size + 1]? = some o1 := by
  have := heap_alloc_new (W.alloc o2) o1
  rwa [show (W.alloc o2).heap.size = W.heap.size + 1 by simp] at this
theorem locs_end2 {qb rb : Nat} {B A : Obj} (hP : Framed P) (h : Upd (Sep P (Locs [(qb, B), (rb, A)])) T w w1) (cs : Array Value) : Upd P T w (w1.setRow rb cs) :=
  (h.locs hP (M := []) ((only_setRow _ rb cs).mono fun j _ e => ⟨_, List.mem_cons_of_mem _ (List.mem_cons_self ..), e.symm⟩) (fun p hp => by simp at hp)).drop hP
theorem rset_done {g : Nat} {sd n : Int} {vm va : Value} {ml : List MRSh} {ss : List RSt} {all : List ReqD} {D : Int} {ov : Bool} {L : List (Nat × Obj)} (h : Upd (Sep (ROwnV g sd n vm va ml ss all D ov) (Locs L)) T w w1) (D' : Int) :
    Upd (Sep (ROwnV g sd n vm va ml ss all D' ov) (Locs L)) T w (w1.setCell ⟨g, 4, none⟩ (.int .i64 D')) := by
  obtain ⟨A, hA, hb⟩ := h.1.focus Locs.framed
  obtain ⟨A2, hA2, hb2⟩ := hA.own
  exact h.step (Sep.framed ROwnV.framed Locs.framed) (hb _ _ ROwnV.framed (hb2 _ _ _ _ _ _ (hA2.set (by decide) (by decide) 4 (.int .i64 D') rfl)))
end
set_option maxRecDepth 100000 in
set_option maxHeartbeats 2000000 in
theorem rend_ {T : Nat → Prop} {w : World} {g : Nat} {sd n : Int} {ml : List MRSh} {ss : List RSt} {all : List ReqD} {d : Nat} {ov : Bool} (hT : ROwnS g sd n ml ss all (d : Int) ov T w) (hd : d ≤ all.length) :
    Calls Try.prog 20 #[.pointer (some ⟨g, 0, none⟩)] w fun e w' => e = .returned (.int .i64 (if d < all.length then 42 else 0)) ∧ Upd (ROwnS g sd n ml ss all (d : Int) (if d < all.length then ov else true)) T w w' := by
  obtain ⟨vm, va, hV⟩ := hT
  obtain ⟨_, ⟨al, cl, rfl⟩⟩ := hV.shapes
  have hg := hV.obj.1
  have g3 : w.cell? ⟨g, 3, none⟩ = some (.slice al all.length cl) := blk_cell hg 3
  have g4 : w.cell? ⟨g, 4, none⟩ = some (.int .i64 (d : Int)) := blk_cell hg 4
  have HV := Lib.hid hV
  clear hV
  by_cases h : d < all.length
  · have hdi : (d : Int) < (all.length : Int) := by omega
    rw [if_pos h, if_pos h]
    clear hg
    go_enter Try.func20, Try.ntmps20
    go_wp2_with fail
    go_quiet (fail)
    go_wp2_with fail
    go_ret
    exact ⟨rfl, ((Upd.refl ROwnV.framed HV.out).fresh ROwnV.framed ((Only.refl _ _).drewN _)).imp fun _ h => h.plain⟩
  · have hdi : ¬ (d : Int) < (all.length : Int) := by omega
    have g5 : w.cell? ⟨g, 5, none⟩ = some (.bool ov) := blk_cell hg 5
    have f5 := frozen_of_row w g 5 _ _ hg
    rw [if_neg h, if_neg h]
    clear hg
    go_enter Try.func20, Try.ntmps20
    go_wp2_with fail
    go_quiet (fail)
    go_wp2_with fail
    go_ret
    have HF := (Upd.refl ROwnV.framed HV.out).fresh ROwnV.framed ((Only.refl (fun _ => False) w).drewN nq)
    obtain ⟨A, hA, hback⟩ := HF.1.own
    exact ⟨rfl, (HF.step ROwnV.framed (hback _ _ _ _ true _ (hA.set (by decide) (by decide) 5 (.bool true) rfl))).imp fun _ h => h.plain⟩
set_option maxRecDepth 100000 in
set_option maxHeartbeats 8000000 in
theorem rstep_w {T : Nat → Prop} {w : World} {g : Nat} {sd n : Int} {ml : List MRSh} {ss : List RSt} {all : List ReqD} {d : Nat} {ov : Bool} {fr tg : Int} {i : Nat} {op dk dv : Int} (hT : ROwnS g sd n ml ss all (d : Int) ov T w) (hdl : d < all.length) (hq : all[d] = (fr, tg, true, (i : Int), op, dk, dv)) (h1 : i < ml.length) (h2 : i < ss.length) (G : ROGood ml ss) :
    Calls Try.prog 18 #[.pointer (some ⟨g, 0, none⟩)] w fun e w' => ∃ vp, e = .returned (.tuple #[.agg #[.int .i64 fr, .int .i64 tg, .bool true, .int .i64 (i : Int), .int .i64 op, .int .u64 dk, .int .u64 dv, .int .i64 0, .bool false, .int .u64 0, .bool false, .int .u64 0, .int .u64 0, vp], .bool true]) ∧ Upd (Sep (ROwnS g sd n ml ss all ((d : Int) + 1) ov) (fun S w => OwS ePair 50 S w vp ss[i].1.1)) T w w' := by
  obtain ⟨vm, va, hV⟩ := hT
  obtain ⟨⟨am, cm, rfl⟩, ⟨al, cl, rfl⟩⟩ := hV.shapes
  obtain ⟨sb, off, rfl, c1⟩ := hV.slot h1
  have hmx : all.length ≤ maxLen := hV.obj.2.2.1
  unfold maxLen at hmx
  obtain ⟨lb, lo, rfl, HLC⟩ := all_slot hV.obj.2.2 d hdl
  rw [hq] at HLC
  obtain ⟨rs, hrs⟩ : ∃ rs, rs = ml[i].1.rs := ⟨_, rfl⟩
  have HSL := Lib.hid (show ∀ D ss' A w, ROwnV g sd n (.slice (some ⟨sb, off, none⟩) ml.length cm) (.slice (some ⟨lb, lo, none⟩) all.length cl) ml ss' all D ov A w → w.cell? ⟨g, 2, none⟩ = some (.slice (some ⟨sb, off, none⟩) ml.length cm) ∧ w.cell? ⟨g, 3, none⟩ = some (.slice (some ⟨lb, lo, none⟩) all.length cl) ∧ w.cell? ⟨g, 4, none⟩ = some (.int .i64 D) ∧ w.cell? ⟨sb, off + i, none⟩ = some (.pointer (some ⟨rs, 0, none⟩)) ∧ w.cell? ⟨lb, lo + d * 7, none⟩ = some (.int .i64 fr) ∧ w.cell? ⟨lb, lo + d * 7 + 1, none⟩ = some (.int .i64 tg) ∧ w.cell? ⟨lb, lo + d * 7 + 2, none⟩ = some (.bool true) ∧ w.cell? ⟨lb, lo + d * 7 + 3, none⟩ = some (.int .i64 (i : Int)) ∧ w.cell? ⟨lb, lo + d * 7 + 4, none⟩ = some (.int .i64 op) ∧ w.cell? ⟨lb, lo + d * 7 + 5, none⟩ = some (.int .u64 dk) ∧ w.cell? ⟨lb, lo + d * 7 + 6, none⟩ = some (.int .u64 dv) from fun D ss' A w h => by
    obtain ⟨sb', off', he, hc⟩ := h.slot h1
    obtain ⟨rfl, rfl⟩ : sb = sb' ∧ off = off' := by simpa using he
    rw [← hrs] at hc
    exact ⟨blk_cell h.obj.1 2, blk_cell h.obj.1 3, blk_cell h.obj.1 4, hc, HLC.out w h.obj.2.2⟩)
  have HPA := Lib.hid (show ∀ D A w, ROwnV g sd n (.slice (some ⟨sb, off, none⟩) ml.length cm) (.slice (some ⟨lb, lo, none⟩) all.length cl) ml ss all D ov A w → Calls Try.prog 21 #[.pointer (some ⟨rs, 0, none⟩)] w fun e w' => ∃ v', e = .returned v' ∧ OwS ePair 50 (fun k => w.heap.size ≤ k) w' v' ss[i].1.1 ∧ Only (fun _ => False) w w' from fun D A w h => by
    obtain ⟨B, hB, -⟩ := h.at i h1 h2
    rw [hrs]
    exact refShPairs_ hB)
  have HU0 := Lib.hid (Upd.start ROwnV.framed hV)
  have g3 : w.cell? ⟨g, 3, none⟩ = some (.slice (some ⟨lb, lo, none⟩) all.length cl) := (HSL.out _ _ _ _ hV).2.1
  have g4 : w.cell? ⟨g, 4, none⟩ = some (.int .i64 (d : Int)) := (HSL.out _ _ _ _ hV).2.2.1
  have hi0 : (0 : Int) ≤ (i : Int) := by omega
  have hi1 : (i : Int) < (ml.length : Int) := by omega
  have hd0 : (0 : Int) ≤ (d : Int) := by omega
  have hd1 : (d : Int) < (all.length : Int) := by omega
  have hde : ((d : Int) == (all.length : Int)) = false := by simp; omega
  clear hV c1 hq hrs G HLC g3 g4
  go_enter Try.func18, Try.ntmps18
  go_wp2_with fail
  have HU1 := Lib.hid ((HU0.out.loc ROwnV.framed (repO 0 0 false 0 0 0 0 0 false 0 false 0 0 (.slice none 0 0))).drewU (Sep.framed ROwnV.framed Locs.framed))
  refine wp_region_held_drew (S := fun W => W.cell? ⟨g, 4, none⟩ = some (.int .i64 (d : Int)) ∧ W.cell? ⟨g, 3, none⟩ = some (.slice (some ⟨lb, lo, none⟩) all.length cl)) (by kernel_rfl) ?_ (fun hHeld => ?_)
  · exact ⟨(HSL.out _ _ _ _ (getL_ HU1.out).choose_spec).2.2.1, (HSL.out _ _ _ _ (getL_ HU1.out).choose_spec).2.1⟩
  try simp only [Act.put, List.getElem_toArray, List.getElem_cons_succ, List.getElem_cons_zero, List.setIfInBounds_toArray, List.set_cons_zero, List.set_cons_succ]
  refine wpAnyH_take (i := 0) (v := ?vwa0) rfl (by kernel_rfl) (by kernel_rfl) (by kernel_rfl) (fun _ _ _ h => h) (Or.inl ⟨by rfl, ?hywa0⟩) (by assumption) ?restwa0
  case hywa0 =>
    intro w hSw
    try dsimp only at hSw
    go_simp
    all_goals with_reducible rfl
  simp only [Act.put, List.getElem_toArray, List.getElem_cons_succ, List.getElem_cons_zero, List.setIfInBounds_toArray, List.set_cons_zero, List.set_cons_succ]
  refine wpAnyH_take (i := 1) (v := ?vwa1) rfl (by kernel_rfl) (by kernel_rfl) (by kernel_rfl) (fun _ _ _ h => h) (Or.inl ⟨by rfl, ?hywa1⟩) (by assumption) ?restwa1
  case hywa1 =>
    intro w hSw
    try dsimp only at hSw
    go_simp
    all_goals with_reducible rfl
  simp only [Act.put, List.getElem_toArray, List.getElem_cons_succ, List.getElem_cons_zero, List.setIfInBounds_toArray, List.set_cons_zero, List.set_cons_succ]
  refine wpAnyH_take (i := 2) (v := ?vwa2) rfl (by kernel_rfl) (by kernel_rfl) (by kernel_rfl) (fun _ _ _ h => h) (Or.inl ⟨by rfl, ?hywa2⟩) (by assumption) ?restwa2
  case hywa2 =>
    intro w hSw
    try dsimp only at hSw
    go_simp
    all_goals with_reducible rfl
  simp only [Act.put, List.getElem_toArray, List.getElem_cons_succ, List.getElem_cons_zero, List.setIfInBounds_toArray, List.set_cons_zero, List.set_cons_succ]
  refine wpAnyH_take (i := 3) (v := ?vwa3) rfl (by kernel_rfl) (by kernel_rfl) (by kernel_rfl) (fun _ _ _ h => h) (Or.inl ⟨by rfl, ?hywa3⟩) (by assumption) ?restwa3
  case hywa3 =>
    intro w hSw
    try dsimp only at hSw
    go_simp
    all_goals with_reducible rfl
  simp only [Act.put, List.getElem_toArray, List.getElem_cons_succ, List.getElem_cons_zero, List.setIfInBounds_toArray, List.set_cons_zero, List.set_cons_succ]
  refine wpAnyH_take (i := 4) (v := ?vwa4) rfl (by kernel_rfl) (by kernel_rfl) (by kernel_rfl) (fun _ _ _ h => h) (Or.inl ⟨by rfl, ?hywa4⟩) (by assumption) ?restwa4
  case hywa4 =>
    intro w hSw
    try dsimp only at hSw
    go_simp
    all_goals with_reducible rfl
  simp only [Act.put, List.getElem_toArray, List.getElem_cons_succ, List.getElem_cons_zero, List.setIfInBounds_toArray, List.set_cons_zero, List.set_cons_succ]
  refine wpAnyH_take (i := 5) (v := ?vwa5) rfl (by kernel_rfl) (by kernel_rfl) (by kernel_rfl) (fun _ _ _ h => h) (Or.inl ⟨by rfl, ?hywa5⟩) (by assumption) ?restwa5
  case hywa5 =>
    intro w hSw
    try dsimp only at hSw
    go_simp
    all_goals with_reducible rfl
  simp only [Act.put, List.getElem_toArray, List.getElem_cons_succ, List.getElem_cons_zero, List.setIfInBounds_toArray, List.set_cons_zero, List.set_cons_succ]
  refine wpAnyH_take (i := 6) (v := ?vwa6) rfl (by kernel_rfl) (by kernel_rfl) (by kernel_rfl) (fun _ _ _ h => h) (Or.inl ⟨by rfl, ?hywa6⟩) (by assumption) ?restwa6
  case hywa6 =>
    intro w hSw
    try dsimp only at hSw
    go_simp
    all_goals with_reducible rfl
  simp only [Act.put, List.getElem_toArray, List.getElem_cons_succ, List.getElem_cons_zero, List.setIfInBounds_toArray, List.set_cons_zero, List.set_cons_succ]
  refine wpAnyH_take (i := 7) (v := ?vwa7) rfl (by kernel_rfl) (by kernel_rfl) (by kernel_rfl) (fun _ _ _ h => h) (Or.inl ⟨by rfl, ?hywa7⟩) (by assumption) ?restwa7
  case hywa7 =>
    intro w hSw
    try dsimp only at hSw
    go_simp
    all_goals with_reducible rfl
  simp only [Act.put, List.getElem_toArray, List.getElem_cons_succ, List.getElem_cons_zero, List.setIfInBounds_toArray, List.set_cons_zero, List.set_cons_succ]
  refine wpAnyH_take (i := 8) (v := ?vwa8) rfl (by kernel_rfl) (by kernel_rfl) (by kernel_rfl) (fun _ _ _ h => h) (Or.inl ⟨by rfl, ?hywa8⟩) (by assumption) ?restwa8
  case hywa8 =>
    intro w hSw
    try dsimp only at hSw
    go_simp
    all_goals with_reducible rfl
  simp only [Act.put, List.getElem_toArray, List.getElem_cons_succ, List.getElem_cons_zero, List.setIfInBounds_toArray, List.set_cons_zero, List.set_cons_succ]
  refine wpAnyH_take (i := 9) (v := ?vwa9) rfl (by kernel_rfl) (by kernel_rfl) (by kernel_rfl) (fun _ _ _ h => h) (Or.inl ⟨by rfl, ?hywa9⟩) (by assumption) ?restwa9
  case hywa9 =>
    intro w hSw
    try dsimp only at hSw
    go_simp
    all_goals with_reducible rfl
  simp only [Act.put, List.getElem_toArray, List.getElem_cons_succ, List.getElem_cons_zero, List.setIfInBounds_toArray, List.set_cons_zero, List.set_cons_succ]
  clear hHeld
  refine wpAnyH_done (by kernel_rfl) ?_ _
  have HU2 := Lib.hid HU1.out
  go_wp2_with fail
  refine wp_region_held_drew (S := fun W => W.cell? ⟨g, 4, none⟩ = some (.int .i64 (d : Int)) ∧ W.cell? ⟨g, 3, none⟩ = some (.slice (some ⟨lb, lo, none⟩) all.length cl) ∧ W.cell? ⟨lb, lo + d * 7, none⟩ = some (.int .i64 fr) ∧ W.cell? ⟨lb, lo + d * 7 + 1, none⟩ = some (.int .i64 tg) ∧ W.cell? ⟨lb, lo + d * 7 + 2, none⟩ = some (.bool true) ∧ W.cell? ⟨lb, lo + d * 7 + 3, none⟩ = some (.int .i64 (i : Int)) ∧ W.cell? ⟨lb, lo + d * 7 + 4, none⟩ = some (.int .i64 op) ∧ W.cell? ⟨lb, lo + d * 7 + 5, none⟩ = some (.int .u64 dk) ∧ W.cell? ⟨lb, lo + d * 7 + 6, none⟩ = some (.int .u64 dv)) (by kernel_rfl) ?_ (fun hHeld => ?_)
  · exact ⟨(HSL.out _ _ _ _ (getL_ (HU2.out.drewU (Sep.framed ROwnV.framed Locs.framed))).choose_spec).2.2.1, (HSL.out _ _ _ _ (getL_ (HU2.out.drewU (Sep.framed ROwnV.framed Locs.framed))).choose_spec).2.1, (HSL.out _ _ _ _ (getL_ (HU2.out.drewU (Sep.framed ROwnV.framed Locs.framed))).choose_spec).2.2.2.2⟩
  try simp only [Act.put, List.getElem_toArray, List.getElem_cons_succ, List.getElem_cons_zero, List.setIfInBounds_toArray, List.set_cons_zero, List.set_cons_succ]
  refine wpAnyH_take (i := 0) (v := ?vwb0) rfl (by kernel_rfl) (by kernel_rfl) (by kernel_rfl) (fun _ _ _ h => h) (Or.inl ⟨by rfl, ?hywb0⟩) (by assumption) ?restwb0
  case hywb0 =>
    intro w hSw
    try dsimp only at hSw
    go_simp
    all_goals with_reducible rfl
  simp only [Act.put, List.getElem_toArray, List.getElem_cons_succ, List.getElem_cons_zero, List.setIfInBounds_toArray, List.set_cons_zero, List.set_cons_succ]
  refine wpAnyH_take (i := 1) (v := ?vwb1) rfl (by kernel_rfl) (by kernel_rfl) (by kernel_rfl) (fun _ _ _ h => h) (Or.inl ⟨by rfl, ?hywb1⟩) (by assumption) ?restwb1
  case hywb1 =>
    intro w hSw
    try dsimp only at hSw
    go_simp
    all_goals with_reducible rfl
  simp only [Act.put, List.getElem_toArray, List.getElem_cons_succ, List.getElem_cons_zero, List.setIfInBounds_toArray, List.set_cons_zero, List.set_cons_succ]
  refine wpAnyH_take (i := 2) (v := ?vwb2) rfl (by kernel_rfl) (by kernel_rfl) (by kernel_rfl) (fun _ _ _ h => h) (Or.inl ⟨by rfl, ?hywb2⟩) (by assumption) ?restwb2
  case hywb2 =>
    intro w hSw
    try dsimp only at hSw
    go_simp
    all_goals with_reducible rfl
  simp only [Act.put, List.getElem_toArray, List.getElem_cons_succ, List.getElem_cons_zero, List.setIfInBounds_toArray, List.set_cons_zero, List.set_cons_succ]
  refine wpAnyH_take (i := 3) (v := ?vwb3) rfl (by kernel_rfl) (by kernel_rfl) (by kernel_rfl) (fun _ _ _ h => h) (Or.inl ⟨by rfl, ?hywb3⟩) (by assumption) ?restwb3
  case hywb3 =>
    intro w hSw
    try dsimp only at hSw
    go_simp
    all_goals with_reducible rfl
  simp only [Act.put, List.getElem_toArray, List.getElem_cons_succ, List.getElem_cons_zero, List.setIfInBounds_toArray, List.set_cons_zero, List.set_cons_succ]
  refine wpAnyH_take (i := 4) (v := ?vwb4) rfl (by kernel_rfl) (by kernel_rfl) (by kernel_rfl) (fun _ _ _ h => h) (Or.inl ⟨by rfl, ?hywb4⟩) (by assumption) ?restwb4
  case hywb4 =>
    intro w hSw
    try dsimp only at hSw
    go_simp
    all_goals with_reducible rfl
  simp only [Act.put, List.getElem_toArray, List.getElem_cons_succ, List.getElem_cons_zero, List.setIfInBounds_toArray, List.set_cons_zero, List.set_cons_succ]
  refine wpAnyH_take (i := 5) (v := ?vwb5) rfl (by kernel_rfl) (by kernel_rfl) (by kernel_rfl) (fun _ _ _ h => h) (Or.inl ⟨by rfl, ?hywb5⟩) (by assumption) ?restwb5
  case hywb5 =>
    intro w hSw
    try dsimp only at hSw
    go_simp
    all_goals with_reducible rfl
  simp only [Act.put, List.getElem_toArray, List.getElem_cons_succ, List.getElem_cons_zero, List.setIfInBounds_toArray, List.set_cons_zero, List.set_cons_succ]
  refine wpAnyH_take (i := 6) (v := ?vwb6) rfl (by kernel_rfl) (by kernel_rfl) (by kernel_rfl) (fun _ _ _ h => h) (Or.inl ⟨by rfl, ?hywb6⟩) (by assumption) ?restwb6
  case hywb6 =>
    intro w hSw
    try dsimp only at hSw
    go_simp
    all_goals with_reducible rfl
  simp only [Act.put, List.getElem_toArray, List.getElem_cons_succ, List.getElem_cons_zero, List.setIfInBounds_toArray, List.set_cons_zero, List.set_cons_succ]
  refine wpAnyH_take (i := 7) (v := ?vwb7) rfl (by kernel_rfl) (by kernel_rfl) (by kernel_rfl) (fun _ _ _ h => h) (Or.inl ⟨by rfl, ?hywb7⟩) (by assumption) ?restwb7
  case hywb7 =>
    intro w hSw
    try dsimp only at hSw
    go_simp
    all_goals with_reducible rfl
  simp only [Act.put, List.getElem_toArray, List.getElem_cons_succ, List.getElem_cons_zero, List.setIfInBounds_toArray, List.set_cons_zero, List.set_cons_succ]
  refine wpAnyH_take (i := 8) (v := ?vwb8) rfl (by kernel_rfl) (by kernel_rfl) (by kernel_rfl) (fun _ _ _ h => h) (Or.inl ⟨by rfl, ?hywb8⟩) (by assumption) ?restwb8
  case hywb8 =>
    intro w hSw
    try dsimp only at hSw
    go_simp
    all_goals with_reducible rfl
  simp only [Act.put, List.getElem_toArray, List.getElem_cons_succ, List.getElem_cons_zero, List.setIfInBounds_toArray, List.set_cons_zero, List.set_cons_succ]
  refine wpAnyH_take (i := 9) (v := ?vwb9) rfl (by kernel_rfl) (by kernel_rfl) (by kernel_rfl) (fun _ _ _ h => h) (Or.inl ⟨by rfl, ?hywb9⟩) (by assumption) ?restwb9
  case hywb9 =>
    intro w hSw
    try dsimp only at hSw
    go_simp
    all_goals with_reducible rfl
  simp only [Act.put, List.getElem_toArray, List.getElem_cons_succ, List.getElem_cons_zero, List.setIfInBounds_toArray, List.set_cons_zero, List.set_cons_succ]
  have HU3 := Lib.hid (HU2.out.drewU (Sep.framed ROwnV.framed Locs.framed))
  clear hHeld
  refine wpAnyH_ready (rs := [10]) (by kernel_rfl) (by simp) ?_
  refine AllReadyH.cons rfl (fun K hK => ?_) AllReadyH.nil
  go_simp
  have HU4 := Lib.hid (HU3.out.loc ROwnV.framed (reqO 0 0 false 0 0 0 0))
  refine hK.out _ _ ?_ (fun hHeld => ?_)
  · exact ⟨(HSL.out _ _ _ _ (getL_ HU4.out).choose_spec).2.2.1, (HSL.out _ _ _ _ (getL_ HU4.out).choose_spec).2.1, (HSL.out _ _ _ _ (getL_ HU4.out).choose_spec).2.2.2.2⟩
  clear hK K hHeld
  try simp only [Act.put, List.getElem_toArray, List.getElem_cons_succ, List.getElem_cons_zero, List.setIfInBounds_toArray, List.set_cons_zero, List.set_cons_succ]
  refine wpAnyH_ready (rs := [11]) (by kernel_rfl) (by simp) ?_
  refine AllReadyH.cons rfl (fun K hK => ?_) AllReadyH.nil
  rw [if_pos (by rfl)]
  have HU5 := Lib.hid (locs_two ROwnV.framed HU0.out (repO 0 0 false 0 0 0 0 0 false 0 false 0 0 (.slice none 0 0)) (reqO fr tg true i op dk dv))
  refine wp_store_row 37 (.tmp 4) (.tmp 26) rfl (w.heap.size + 1) #[.int .i64 fr, .int .i64 tg, .bool true, .int .i64 (i : Int), .int .i64 op, .int .u64 dk, .int .u64 dv] rfl rfl 37 _ (alloc_two w (repO 0 0 false 0 0 0 0 0 false 0 false 0 0 (.slice none 0 0)) (reqO 0 0 false 0 0 0 0)) (by kernel_rfl) rfl (by simp [Value.oneCell']) ?_
  rw [setRow_alloc2 (w.alloc (repO 0 0 false 0 0 0 0 0 false 0 false 0 0 (.slice none 0 0))) (w.heap.size + 1) _ _ _ _ (by simp)]
  obtain ⟨wq, hwq⟩ : ∃ wq, wq = ((w.alloc (repO 0 0 false 0 0 0 0 0 false 0 false 0 0 (.slice none 0 0))).alloc (reqO fr tg true i op dk dv)).drew.drew := ⟨_, rfl⟩
  rw [← hwq] at HU5
  rw [← hwq]
  clear hwq
  refine hK.out _ _ ?_ (fun hHeld => ?_)
  · exact ⟨(HSL.out _ _ _ _ (getL_ HU5.out).choose_spec).2.2.1, (HSL.out _ _ _ _ (getL_ HU5.out).choose_spec).2.1, (HSL.out _ _ _ _ (getL_ HU5.out).choose_spec).2.2.2.2⟩
  clear hK K hHeld HU4 HU3 HU2 HU1 HU0
  try simp only [Act.put, List.getElem_toArray, List.getElem_cons_succ, List.getElem_cons_zero, List.setIfInBounds_toArray, List.set_cons_zero, List.set_cons_succ]
  refine wpAnyH_done (by kernel_rfl) ?_ _
  have HQN := Lib.hid (show w.heap.size ≠ w.heap.size + 1 by omega)
  have HU6 := Lib.hid HU5.out
  clear HU5
  generalize w.heap.size + 1 = qb at *
  generalize w.heap.size = rb at *
  have e4 : wq.cell? ⟨g, 4, none⟩ = some (.int .i64 (d : Int)) := (HSL.out _ _ _ _ (getL_ HU6.out).choose_spec).2.2.1
  have f4 : wq.frozen? ⟨g, 4, none⟩ = false := frozen_of_row wq g 4 _ _ (getL_ HU6.out).choose_spec.obj.1
  go_wp2_with fail
  have HU7 := Lib.hid (rset_done HU6.out ((d : Int) + 1))
  generalize World.setCell wq _ _ = wd at *
  clear HU6 e4 f4
  refine wp_region_held_drew (S := fun W => W.cell? ⟨g, 2, none⟩ = some (.slice (some ⟨sb, off, none⟩) ml.length cm) ∧ W.cell? ⟨sb, off + i, none⟩ = some (.pointer (some ⟨rs, 0, none⟩)) ∧ W.cell? ⟨qb, 3, none⟩ = some (.int .i64 (i : Int))) (by kernel_rfl) ?_ (fun hHeld => ?_)
  · exact ⟨(HSL.out _ _ _ _ (getL_ HU7.out).choose_spec).1, (HSL.out _ _ _ _ (getL_ HU7.out).choose_spec).2.2.2.1, blk_cell (HU7.out.get (List.mem_cons_self ..)) 3⟩
  try simp only [Act.put, List.getElem_toArray, List.getElem_cons_succ, List.getElem_cons_zero, List.setIfInBounds_toArray, List.set_cons_zero, List.set_cons_succ]
  refine wpAnyH_take (i := 0) (v := ?vwc0) rfl (by kernel_rfl) (by kernel_rfl) (by kernel_rfl) (fun _ _ _ h => h) (Or.inl ⟨by rfl, ?hywc0⟩) (by assumption) ?restwc0
  case hywc0 =>
    intro w hSw
    try dsimp only at hSw
    go_simp
    all_goals with_reducible rfl
  simp only [Act.put, List.getElem_toArray, List.getElem_cons_succ, List.getElem_cons_zero, List.setIfInBounds_toArray, List.set_cons_zero, List.set_cons_succ]
  refine wpAnyH_take (i := 1) (v := ?vwc1) rfl (by kernel_rfl) (by kernel_rfl) (by kernel_rfl) (fun _ _ _ h => h) (Or.inl ⟨by rfl, ?hywc1⟩) (by assumption) ?restwc1
  case hywc1 =>
    intro w hSw
    try dsimp only at hSw
    go_simp
    all_goals with_reducible rfl
  simp only [Act.put, List.getElem_toArray, List.getElem_cons_succ, List.getElem_cons_zero, List.setIfInBounds_toArray, List.set_cons_zero, List.set_cons_succ]
  refine wpAnyH_take (i := 2) (v := ?vwc2) rfl (by kernel_rfl) (by kernel_rfl) (by kernel_rfl) (fun _ _ _ h => h) (Or.inl ⟨by rfl, ?hywc2⟩) (by assumption) ?restwc2
  case hywc2 =>
    intro w hSw
    try dsimp only at hSw
    go_simp
    all_goals with_reducible rfl
  simp only [Act.put, List.getElem_toArray, List.getElem_cons_succ, List.getElem_cons_zero, List.setIfInBounds_toArray, List.set_cons_zero, List.set_cons_succ]
  refine wpAnyH_take (i := 3) (v := ?vwc3) rfl (by kernel_rfl) (by kernel_rfl) (by kernel_rfl) (fun _ _ _ h => h) (Or.inl ⟨by rfl, ?hywc3⟩) (by assumption) ?restwc3
  case hywc3 =>
    intro w hSw
    try dsimp only at hSw
    go_simp
    all_goals with_reducible rfl
  simp only [Act.put, List.getElem_toArray, List.getElem_cons_succ, List.getElem_cons_zero, List.setIfInBounds_toArray, List.set_cons_zero, List.set_cons_succ]
  refine wpAnyH_take (i := 4) (v := ?vwc4) rfl (by kernel_rfl) (by kernel_rfl) (by kernel_rfl) (fun _ _ _ h => h) (Or.inl ⟨by rfl, ?hywc4⟩) (by assumption) ?restwc4
  case hywc4 =>
    intro w hSw
    try dsimp only at hSw
    go_simp
    all_goals with_reducible rfl
  simp only [Act.put, List.getElem_toArray, List.getElem_cons_succ, List.getElem_cons_zero, List.setIfInBounds_toArray, List.set_cons_zero, List.set_cons_succ]
  refine wpAnyH_take (i := 5) (v := ?vwc5) rfl (by kernel_rfl) (by kernel_rfl) (by kernel_rfl) (fun _ _ _ h => h) (Or.inl ⟨by rfl, ?hywc5⟩) (by assumption) ?restwc5
  case hywc5 =>
    intro w hSw
    try dsimp only at hSw
    go_simp
    all_goals with_reducible rfl
  simp only [Act.put, List.getElem_toArray, List.getElem_cons_succ, List.getElem_cons_zero, List.setIfInBounds_toArray, List.set_cons_zero, List.set_cons_succ]
  refine wpAnyH_take (i := 6) (v := ?vwc6) rfl (by kernel_rfl) (by kernel_rfl) (by kernel_rfl) (fun _ _ _ h => h) (Or.inl ⟨by rfl, ?hywc6⟩) (by assumption) ?restwc6
  case hywc6 =>
    intro w hSw
    try dsimp only at hSw
    go_simp
    all_goals with_reducible rfl
  simp only [Act.put, List.getElem_toArray, List.getElem_cons_succ, List.getElem_cons_zero, List.setIfInBounds_toArray, List.set_cons_zero, List.set_cons_succ]
  refine wpAnyH_take (i := 7) (v := ?vwc7) rfl (by kernel_rfl) (by kernel_rfl) (by kernel_rfl) (fun _ _ _ h => h) (Or.inl ⟨by rfl, ?hywc7⟩) (by assumption) ?restwc7
  case hywc7 =>
    intro w hSw
    try dsimp only at hSw
    go_simp
    all_goals with_reducible rfl
  simp only [Act.put, List.getElem_toArray, List.getElem_cons_succ, List.getElem_cons_zero, List.setIfInBounds_toArray, List.set_cons_zero, List.set_cons_succ]
  refine wpAnyH_take (i := 8) (v := ?vwc8) rfl (by kernel_rfl) (by kernel_rfl) (by kernel_rfl) (fun _ _ _ h => h) (Or.inl ⟨by rfl, ?hywc8⟩) (by assumption) ?restwc8
  case hywc8 =>
    intro w hSw
    try dsimp only at hSw
    go_simp
    all_goals with_reducible rfl
  simp only [Act.put, List.getElem_toArray, List.getElem_cons_succ, List.getElem_cons_zero, List.setIfInBounds_toArray, List.set_cons_zero, List.set_cons_succ]
  refine wpAnyH_take (i := 9) (v := ?vwc9) rfl (by kernel_rfl) (by kernel_rfl) (by kernel_rfl) (fun _ _ _ h => h) (Or.inl ⟨by rfl, ?hywc9⟩) (by assumption) ?restwc9
  case hywc9 =>
    intro w hSw
    try dsimp only at hSw
    go_simp
    all_goals with_reducible rfl
  simp only [Act.put, List.getElem_toArray, List.getElem_cons_succ, List.getElem_cons_zero, List.setIfInBounds_toArray, List.set_cons_zero, List.set_cons_succ]
  clear hHeld
  refine wpAnyH_done (by kernel_rfl) ?_ _
  have HU8 := Lib.hid (HU7.out.drewU (Sep.framed ROwnV.framed Locs.framed))
  have q2 : wd.cell? ⟨qb, 2, none⟩ = some (.bool true) := blk_cell (HU7.out.get (List.mem_cons_self ..)) 2
  go_wp2_with fail
  clear q2
  refine wp_region_held_drew (S := fun W => W.cell? ⟨qb, 0, none⟩ = some (.int .i64 fr) ∧ W.cell? ⟨qb, 1, none⟩ = some (.int .i64 tg) ∧ W.cell? ⟨qb, 3, none⟩ = some (.int .i64 (i : Int)) ∧ W.cell? ⟨qb, 4, none⟩ = some (.int .i64 op) ∧ W.cell? ⟨qb, 5, none⟩ = some (.int .u64 dk) ∧ W.cell? ⟨qb, 6, none⟩ = some (.int .u64 dv)) (by kernel_rfl) ?_ (fun hHeld => ?_)
  · exact ⟨blk_cell ((HU8.out.drewU (Sep.framed ROwnV.framed Locs.framed)).get (g := qb) (List.mem_cons_self ..)) 0, blk_cell ((HU8.out.drewU (Sep.framed ROwnV.framed Locs.framed)).get (g := qb) (List.mem_cons_self ..)) 1, blk_cell ((HU8.out.drewU (Sep.framed ROwnV.framed Locs.framed)).get (g := qb) (List.mem_cons_self ..)) 3, blk_cell ((HU8.out.drewU (Sep.framed ROwnV.framed Locs.framed)).get (g := qb) (List.mem_cons_self ..)) 4, blk_cell ((HU8.out.drewU (Sep.framed ROwnV.framed Locs.framed)).get (g := qb) (List.mem_cons_self ..)) 5, blk_cell ((HU8.out.drewU (Sep.framed ROwnV.framed Locs.framed)).get (g := qb) (List.mem_cons_self ..)) 6⟩
  try simp only [Act.put, List.getElem_toArray, List.getElem_cons_succ, List.getElem_cons_zero, List.setIfInBounds_toArray, List.set_cons_zero, List.set_cons_succ]
  refine wpAnyH_take (i := 0) (v := ?vwd0) rfl (by kernel_rfl) (by kernel_rfl) (by kernel_rfl) (fun _ _ _ h => h) (Or.inl ⟨by rfl, ?hywd0⟩) (by assumption) ?restwd0
  case hywd0 =>
    intro w hSw
    try dsimp only at hSw
    go_simp
    all_goals with_reducible rfl
  simp only [Act.put, List.getElem_toArray, List.getElem_cons_succ, List.getElem_cons_zero, List.setIfInBounds_toArray, List.set_cons_zero, List.set_cons_succ]
  refine wpAnyH_take (i := 1) (v := ?vwd1) rfl (by kernel_rfl) (by kernel_rfl) (by kernel_rfl) (fun _ _ _ h => h) (Or.inl ⟨by rfl, ?hywd1⟩) (by assumption) ?restwd1
  case hywd1 =>
    intro w hSw
    try dsimp only at hSw
    go_simp
    all_goals with_reducible rfl
  simp only [Act.put, List.getElem_toArray, List.getElem_cons_succ, List.getElem_cons_zero, List.setIfInBounds_toArray, List.set_cons_zero, List.set_cons_succ]
  refine wpAnyH_take (i := 2) (v := ?vwd2) rfl (by kernel_rfl) (by kernel_rfl) (by kernel_rfl) (fun _ _ _ h => h) (Or.inl ⟨by rfl, ?hywd2⟩) (by assumption) ?restwd2
  case hywd2 =>
    intro w hSw
    try dsimp only at hSw
    go_simp
    all_goals with_reducible rfl
  simp only [Act.put, List.getElem_toArray, List.getElem_cons_succ, List.getElem_cons_zero, List.setIfInBounds_toArray, List.set_cons_zero, List.set_cons_succ]
  refine wpAnyH_take (i := 3) (v := ?vwd3) rfl (by kernel_rfl) (by kernel_rfl) (by kernel_rfl) (fun _ _ _ h => h) (Or.inl ⟨by rfl, ?hywd3⟩) (by assumption) ?restwd3
  case hywd3 =>
    intro w hSw
    try dsimp only at hSw
    go_simp
    all_goals with_reducible rfl
  simp only [Act.put, List.getElem_toArray, List.getElem_cons_succ, List.getElem_cons_zero, List.setIfInBounds_toArray, List.set_cons_zero, List.set_cons_succ]
  refine wpAnyH_take (i := 4) (v := ?vwd4) rfl (by kernel_rfl) (by kernel_rfl) (by kernel_rfl) (fun _ _ _ h => h) (Or.inl ⟨by rfl, ?hywd4⟩) (by assumption) ?restwd4
  case hywd4 =>
    intro w hSw
    try dsimp only at hSw
    go_simp
    all_goals with_reducible rfl
  simp only [Act.put, List.getElem_toArray, List.getElem_cons_succ, List.getElem_cons_zero, List.setIfInBounds_toArray, List.set_cons_zero, List.set_cons_succ]
  refine wpAnyH_take (i := 5) (v := ?vwd5) rfl (by kernel_rfl) (by kernel_rfl) (by kernel_rfl) (fun _ _ _ h => h) (Or.inl ⟨by rfl, ?hywd5⟩) (by assumption) ?restwd5
  case hywd5 =>
    intro w hSw
    try dsimp only at hSw
    go_simp
    all_goals with_reducible rfl
  simp only [Act.put, List.getElem_toArray, List.getElem_cons_succ, List.getElem_cons_zero, List.setIfInBounds_toArray, List.set_cons_zero, List.set_cons_succ]
  refine wpAnyH_take (i := 6) (v := ?vwd6) rfl (by kernel_rfl) (by kernel_rfl) (by kernel_rfl) (fun _ _ _ h => h) (Or.inl ⟨by rfl, ?hywd6⟩) (by assumption) ?restwd6
  case hywd6 =>
    intro w hSw
    try dsimp only at hSw
    go_simp
    all_goals with_reducible rfl
  simp only [Act.put, List.getElem_toArray, List.getElem_cons_succ, List.getElem_cons_zero, List.setIfInBounds_toArray, List.set_cons_zero, List.set_cons_succ]
  refine wpAnyH_ready (rs := [7]) (by kernel_rfl) (by simp) ?_
  refine AllReadyH.cons rfl (fun K hK => ?_) AllReadyH.nil
  go_simp
  obtain ⟨A, hA⟩ := (HU8.out.drewU (Sep.framed ROwnV.framed Locs.framed)).getL
  have HP := HPA.out _ _ _ hA
  refine ((HU8.out.drewU (Sep.framed ROwnV.framed Locs.framed)).callNew (Sep.framed ROwnV.framed Locs.framed) (Yx := fun v S w => OwS ePair 50 S w v ss[i].1.1) (E := fun v e => e = .returned v) (fun _ => OwS.framed) HP).mono ?_
  rintro e w1 ⟨vp, rfl, hN⟩
  obtain ⟨pa, pc, rfl⟩ : ∃ pa pc, vp = .slice pa ss[i].1.1.length pc := by
    obtain ⟨_, ⟨_, a, c, rfl, _⟩, _⟩ := hN.getR
    exact ⟨a, c, rfl⟩
  have HN := Lib.hid (show Upd (Sep (Sep (ROwnV g sd n (.slice (some ⟨sb, off, none⟩) ml.length cm) (.slice (some ⟨lb, lo, none⟩) all.length cl) ml ss all ((d : Int) + 1) ov) (fun S w => OwS ePair 50 S w (.slice pa ss[i].1.1.length pc) ss[i].1.1)) (Locs [(qb, reqO fr tg true i op dk dv), (rb, repO 0 0 false 0 0 0 0 0 false 0 false 0 0 (.slice none 0 0))])) T w w1 from hN.imp fun _ h => (h.assoc.imp (fun _ h => h) fun _ h => h.swap).assoc')
  clear hN hA HP
  try go_wp2_with fail
  refine hK.out _ _ ?_ (fun hHeld => ?_)
  · exact ⟨blk_cell (HN.out.get (g := qb) (List.mem_cons_self ..)) 0, blk_cell (HN.out.get (g := qb) (List.mem_cons_self ..)) 1, blk_cell (HN.out.get (g := qb) (List.mem_cons_self ..)) 3, blk_cell (HN.out.get (g := qb) (List.mem_cons_self ..)) 4, blk_cell (HN.out.get (g := qb) (List.mem_cons_self ..)) 5, blk_cell (HN.out.get (g := qb) (List.mem_cons_self ..)) 6⟩
  clear hK K
  try simp only [Act.put, List.getElem_toArray, List.getElem_cons_succ, List.getElem_cons_zero, List.setIfInBounds_toArray, List.set_cons_zero, List.set_cons_succ]
  refine wpAnyH_take (i := 8) (v := ?vwd8) rfl (by kernel_rfl) (by kernel_rfl) (by kernel_rfl) (fun _ _ _ h => h) (Or.inl ⟨by rfl, ?hywd8⟩) (by assumption) ?restwd8
  case hywd8 =>
    intro w hSw
    try dsimp only at hSw
    go_simp
    all_goals with_reducible rfl
  simp only [Act.put, List.getElem_toArray, List.getElem_cons_succ, List.getElem_cons_zero, List.setIfInBounds_toArray, List.set_cons_zero, List.set_cons_succ]
  have HRB := Lib.hid (HN.out.get (g := rb) (List.mem_cons_of_mem _ (List.mem_cons_self ..)))
  have HQB := Lib.hid ((HN.out.get (g := qb) (List.mem_cons_self ..)))
  clear hHeld
  refine wpAnyH_ready (rs := [9]) (by kernel_rfl) (by simp) ?_
  refine AllReadyH.cons rfl (fun K hK => ?_) AllReadyH.nil
  rw [if_pos (by rfl)]
  refine wp_store_row 44 (.tmp 2) (.tmp 53) rfl rb #[.int .i64 fr, .int .i64 tg, .bool true, .int .i64 (i : Int), .int .i64 op, .int .u64 dk, .int .u64 dv, .int .i64 0, .bool false, .int .u64 0, .bool false, .int .u64 0, .int .u64 0, .slice pa ss[i].1.1.length pc] rfl rfl 44 _ HRB.out (by kernel_rfl) rfl (by simp [Value.oneCell']) ?_
  have HQ2 := Lib.hid ((only_setRow _ rb #[.int .i64 fr, .int .i64 tg, .bool true, .int .i64 (i : Int), .int .i64 op, .int .u64 dk, .int .u64 dv, .int .i64 0, .bool false, .int .u64 0, .bool false, .int .u64 0, .int .u64 0, .slice pa ss[i].1.1.length pc]).heap HQB.out (Ne.symm HQN.out))
  refine hK.out _ _ ?_ (fun hHeld => ?_)
  · exact ⟨blk_cell HQ2.out 0, blk_cell HQ2.out 1, blk_cell HQ2.out 3, blk_cell HQ2.out 4, blk_cell HQ2.out 5, blk_cell HQ2.out 6⟩
  clear hK K hHeld
  try simp only [Act.put, List.getElem_toArray, List.getElem_cons_succ, List.getElem_cons_zero, List.setIfInBounds_toArray, List.set_cons_zero, List.set_cons_succ]
  have HTRUE : True := trivial
  refine wpAnyH_ready (rs := [10]) (by kernel_rfl) (by simp) ?_
  refine AllReadyH.cons rfl (fun K hK => ?_) AllReadyH.nil
  go_simp
  refine hK.out _ _ ?_ (fun hHeld => ?_)
  · exact ⟨blk_cell HQ2.out 0, blk_cell HQ2.out 1, blk_cell HQ2.out 3, blk_cell HQ2.out 4, blk_cell HQ2.out 5, blk_cell HQ2.out 6⟩
  clear hK K hHeld
  try simp only [Act.put, List.getElem_toArray, List.getElem_cons_succ, List.getElem_cons_zero, List.setIfInBounds_toArray, List.set_cons_zero, List.set_cons_succ]
  refine wpAnyH_done (by kernel_rfl) ?_ _
  try go_wp2_with fail
  refine bodyPost_ret (results_cell_row_tmp rfl _ _ rb _ _ _ _ rfl (setRow_heap _ _ _ _ _ _ HRB.out) Try.underlying44 rfl (by kernel_rfl)) rfl ?_
  exact ⟨_, rfl, (locs_end2 (Sep.framed ROwnV.framed OwS.framed) HN.out _).imp fun _ h => h.imp (fun _ h => h.plain) fun _ h => h⟩
set_option maxRecDepth 100000 in
set_option maxHeartbeats 8000000 in
theorem rstep_d {T : Nat → Prop} {w : World} {g : Nat} {sd n : Int} {ml : List MRSh} {ss : List RSt} {all : List ReqD} {d : Nat} {ov : Bool} {fr tg : Int} {i : Nat} {op dk dv : Int} (hT : ROwnS g sd n ml ss all (d : Int) ov T w) (hdl : d < all.length) (hq : all[d] = (fr, tg, false, (i : Int), op, dk, dv)) (h1 : i < ml.length) (h2 : i < ss.length) (G : ROGood ml ss) (hcn : ss[i].2 < 4611686018427387904) {r : ResD} {s' : Sh} (hd : shP ml[i].1.bd ml[i].2.2 ss[i].1 op dk dv = (r, s')) :
    Calls Try.prog 18 #[.pointer (some ⟨g, 0, none⟩)] w fun e w' => e = .returned (.tuple #[.agg #[.int .i64 fr, .int .i64 tg, .bool false, .int .i64 (i : Int), .int .i64 op, .int .u64 dk, .int .u64 dv, .int .i64 r.1, .bool r.2.1, .int .u64 r.2.2.1, .bool r.2.2.2.1, .int .u64 r.2.2.2.2.1, .int .u64 r.2.2.2.2.2, .slice none 0 0], .bool true]) ∧ Upd (ROwnS g sd n ml (ss.set i (s', ss[i].2 + 1)) all ((d : Int) + 1) ov) T w w' := by
  obtain ⟨vm, va, hV⟩ := hT
  obtain ⟨⟨am, cm, rfl⟩, ⟨al, cl, rfl⟩⟩ := hV.shapes
  obtain ⟨sb, off, rfl, c1⟩ := hV.slot h1
  have hmx : all.length ≤ maxLen := hV.obj.2.2.1
  unfold maxLen at hmx
  obtain ⟨lb, lo, rfl, HLC⟩ := all_slot hV.obj.2.2 d hdl
  rw [hq] at HLC
  obtain ⟨rs, hrs⟩ : ∃ rs, rs = ml[i].1.rs := ⟨_, rfl⟩
  have HSL := Lib.hid (show ∀ D ss' A w, ROwnV g sd n (.slice (some ⟨sb, off, none⟩) ml.length cm) (.slice (some ⟨lb, lo, none⟩) all.length cl) ml ss' all D ov A w → w.cell? ⟨g, 2, none⟩ = some (.slice (some ⟨sb, off, none⟩) ml.length cm) ∧ w.cell? ⟨g, 3, none⟩ = some (.slice (some ⟨lb, lo, none⟩) all.length cl) ∧ w.cell? ⟨g, 4, none⟩ = some (.int .i64 D) ∧ w.cell? ⟨sb, off + i, none⟩ = some (.pointer (some ⟨rs, 0, none⟩)) ∧ w.cell? ⟨lb, lo + d * 7, none⟩ = some (.int .i64 fr) ∧ w.cell? ⟨lb, lo + d * 7 + 1, none⟩ = some (.int .i64 tg) ∧ w.cell? ⟨lb, lo + d * 7 + 2, none⟩ = some (.bool false) ∧ w.cell? ⟨lb, lo + d * 7 + 3, none⟩ = some (.int .i64 (i : Int)) ∧ w.cell? ⟨lb, lo + d * 7 + 4, none⟩ = some (.int .i64 op) ∧ w.cell? ⟨lb, lo + d * 7 + 5, none⟩ = some (.int .u64 dk) ∧ w.cell? ⟨lb, lo + d * 7 + 6, none⟩ = some (.int .u64 dv) from fun D ss' A w h => by
    obtain ⟨sb', off', he, hc⟩ := h.slot h1
    obtain ⟨rfl, rfl⟩ : sb = sb' ∧ off = off' := by simpa using he
    rw [← hrs] at hc
    exact ⟨blk_cell h.obj.1 2, blk_cell h.obj.1 3, blk_cell h.obj.1 4, hc, HLC.out w h.obj.2.2⟩)
  have HDO := Lib.hid (show ∀ D A w, ROwnV g sd n (.slice (some ⟨sb, off, none⟩) ml.length cm) (.slice (some ⟨lb, lo, none⟩) all.length cl) ml ss all D ov A w → Calls Try.prog 29 #[.pointer (some ⟨rs, 0, none⟩), .int .i64 op, .int .u64 dk, .int .u64 dv] w fun e w' => e = .returned (.agg #[.int .i64 r.1, .bool r.2.1, .int .u64 r.2.2.1, .bool r.2.2.2.1, .int .u64 r.2.2.2.2.1, .int .u64 r.2.2.2.2.2]) ∧ Upd (ROwnV g sd n (.slice (some ⟨sb, off, none⟩) ml.length cm) (.slice (some ⟨lb, lo, none⟩) all.length cl) ml (ss.set i (s', ss[i].2 + 1)) all D ov) A w w' from fun D A w h => by
    obtain ⟨B, hB, hb⟩ := h.at i h1 h2
    rw [hrs]
    exact (refShDo_ hB (G.good i h1 h2) hcn hd).mono fun e w' ⟨he, hu⟩ => ⟨he, hb (s', ss[i].2 + 1) w' hu⟩)
  have HU0 := Lib.hid (Upd.start ROwnV.framed hV)
  have g3 : w.cell? ⟨g, 3, none⟩ = some (.slice (some ⟨lb, lo, none⟩) all.length cl) := (HSL.out _ _ _ _ hV).2.1
  have g4 : w.cell? ⟨g, 4, none⟩ = some (.int .i64 (d : Int)) := (HSL.out _ _ _ _ hV).2.2.1
  have hi0 : (0 : Int) ≤ (i : Int) := by omega
  have hi1 : (i : Int) < (ml.length : Int) := by omega
  have hd0 : (0 : Int) ≤ (d : Int) := by omega
  have hd1 : (d : Int) < (all.length : Int) := by omega
  have hde : ((d : Int) == (all.length : Int)) = false := by simp; omega
  clear hV c1 hq hrs G HLC g3 g4 hd hcn
  go_enter Try.func18, Try.ntmps18
  go_wp2_with fail
  have HU1 := Lib.hid ((HU0.out.loc ROwnV.framed (repO 0 0 false 0 0 0 0 0 false 0 false 0 0 (.slice none 0 0))).drewU (Sep.framed ROwnV.framed Locs.framed))
  refine wp_region_held_drew (S := fun W => W.cell? ⟨g, 4, none⟩ = some (.int .i64 (d : Int)) ∧ W.cell? ⟨g, 3, none⟩ = some (.slice (some ⟨lb, lo, none⟩) all.length cl)) (by kernel_rfl) ?_ (fun hHeld => ?_)
  · exact ⟨(HSL.out _ _ _ _ (getL_ HU1.out).choose_spec).2.2.1, (HSL.out _ _ _ _ (getL_ HU1.out).choose_spec).2.1⟩
  try simp only [Act.put, List.getElem_toArray, List.getElem_cons_succ, List.getElem_cons_zero, List.setIfInBounds_toArray, List.set_cons_zero, List.set_cons_succ]
  refine wpAnyH_take (i := 0) (v := ?vda0) rfl (by kernel_rfl) (by kernel_rfl) (by kernel_rfl) (fun _ _ _ h => h) (Or.inl ⟨by rfl, ?hyda0⟩) (by assumption) ?restda0
  case hyda0 =>
    intro w hSw
    try dsimp only at hSw
    go_simp
    all_goals with_reducible rfl
  simp only [Act.put, List.getElem_toArray, List.getElem_cons_succ, List.getElem_cons_zero, List.setIfInBounds_toArray, List.set_cons_zero, List.set_cons_succ]
  refine wpAnyH_take (i := 1) (v := ?vda1) rfl (by kernel_rfl) (by kernel_rfl) (by kernel_rfl) (fun _ _ _ h => h) (Or.inl ⟨by rfl, ?hyda1⟩) (by assumption) ?restda1
  case hyda1 =>
    intro w hSw
    try dsimp only at hSw
    go_simp
    all_goals with_reducible rfl
  simp only [Act.put, List.getElem_toArray, List.getElem_cons_succ, List.getElem_cons_zero, List.setIfInBounds_toArray, List.set_cons_zero, List.set_cons_succ]
  refine wpAnyH_take (i := 2) (v := ?vda2) rfl (by kernel_rfl) (by kernel_rfl) (by kernel_rfl) (fun _ _ _ h => h) (Or.inl ⟨by rfl, ?hyda2⟩) (by assumption) ?restda2
  case hyda2 =>
    intro w hSw
    try dsimp only at hSw
    go_simp
    all_goals with_reducible rfl
  simp only [Act.put, List.getElem_toArray, List.getElem_cons_succ, List.getElem_cons_zero, List.setIfInBounds_toArray, List.set_cons_zero, List.set_cons_succ]
  refine wpAnyH_take (i := 3) (v := ?vda3) rfl (by kernel_rfl) (by kernel_rfl) (by kernel_rfl) (fun _ _ _ h => h) (Or.inl ⟨by rfl, ?hyda3⟩) (by assumption) ?restda3
  case hyda3 =>
    intro w hSw
    try dsimp only at hSw
    go_simp
    all_goals with_reducible rfl
  simp only [Act.put, List.getElem_toArray, List.getElem_cons_succ, List.getElem_cons_zero, List.setIfInBounds_toArray, List.set_cons_zero, List.set_cons_succ]
  refine wpAnyH_take (i := 4) (v := ?vda4) rfl (by kernel_rfl) (by kernel_rfl) (by kernel_rfl) (fun _ _ _ h => h) (Or.inl ⟨by rfl, ?hyda4⟩) (by assumption) ?restda4
  case hyda4 =>
    intro w hSw
    try dsimp only at hSw
    go_simp
    all_goals with_reducible rfl
  simp only [Act.put, List.getElem_toArray, List.getElem_cons_succ, List.getElem_cons_zero, List.setIfInBounds_toArray, List.set_cons_zero, List.set_cons_succ]
  refine wpAnyH_take (i := 5) (v := ?vda5) rfl (by kernel_rfl) (by kernel_rfl) (by kernel_rfl) (fun _ _ _ h => h) (Or.inl ⟨by rfl, ?hyda5⟩) (by assumption) ?restda5
  case hyda5 =>
    intro w hSw
    try dsimp only at hSw
    go_simp
    all_goals with_reducible rfl
  simp only [Act.put, List.getElem_toArray, List.getElem_cons_succ, List.getElem_cons_zero, List.setIfInBounds_toArray, List.set_cons_zero, List.set_cons_succ]
  refine wpAnyH_take (i := 6) (v := ?vda6) rfl (by kernel_rfl) (by kernel_rfl) (by kernel_rfl) (fun _ _ _ h => h) (Or.inl ⟨by rfl, ?hyda6⟩) (by assumption) ?restda6
  case hyda6 =>
    intro w hSw
    try dsimp only at hSw
    go_simp
    all_goals with_reducible rfl
  simp only [Act.put, List.getElem_toArray, List.getElem_cons_succ, List.getElem_cons_zero, List.setIfInBounds_toArray, List.set_cons_zero, List.set_cons_succ]
  refine wpAnyH_take (i := 7) (v := ?vda7) rfl (by kernel_rfl) (by kernel_rfl) (by kernel_rfl) (fun _ _ _ h => h) (Or.inl ⟨by rfl, ?hyda7⟩) (by assumption) ?restda7
  case hyda7 =>
    intro w hSw
    try dsimp only at hSw
    go_simp
    all_goals with_reducible rfl
  simp only [Act.put, List.getElem_toArray, List.getElem_cons_succ, List.getElem_cons_zero, List.setIfInBounds_toArray, List.set_cons_zero, List.set_cons_succ]
  refine wpAnyH_take (i := 8) (v := ?vda8) rfl (by kernel_rfl) (by kernel_rfl) (by kernel_rfl) (fun _ _ _ h => h) (Or.inl ⟨by rfl, ?hyda8⟩) (by assumption) ?restda8
  case hyda8 =>
    intro w hSw
    try dsimp only at hSw
    go_simp
    all_goals with_reducible rfl
  simp only [Act.put, List.getElem_toArray, List.getElem_cons_succ, List.getElem_cons_zero, List.setIfInBounds_toArray, List.set_cons_zero, List.set_cons_succ]
  refine wpAnyH_take (i := 9) (v := ?vda9) rfl (by kernel_rfl) (by kernel_rfl) (by kernel_rfl) (fun _ _ _ h => h) (Or.inl ⟨by rfl, ?hyda9⟩) (by assumption) ?restda9
  case hyda9 =>
    intro w hSw
    try dsimp only at hSw
    go_simp
    all_goals with_reducible rfl
  simp only [Act.put, List.getElem_toArray, List.getElem_cons_succ, List.getElem_cons_zero, List.setIfInBounds_toArray, List.set_cons_zero, List.set_cons_succ]
  clear hHeld
  refine wpAnyH_done (by kernel_rfl) ?_ _
  have HU2 := Lib.hid HU1.out
  go_wp2_with fail
  refine wp_region_held_drew (S := fun W => W.cell? ⟨g, 4, none⟩ = some (.int .i64 (d : Int)) ∧ W.cell? ⟨g, 3, none⟩ = some (.slice (some ⟨lb, lo, none⟩) all.length cl) ∧ W.cell? ⟨lb, lo + d * 7, none⟩ = some (.int .i64 fr) ∧ W.cell? ⟨lb, lo + d * 7 + 1, none⟩ = some (.int .i64 tg) ∧ W.cell? ⟨lb, lo + d * 7 + 2, none⟩ = some (.bool false) ∧ W.cell? ⟨lb, lo + d * 7 + 3, none⟩ = some (.int .i64 (i : Int)) ∧ W.cell? ⟨lb, lo + d * 7 + 4, none⟩ = some (.int .i64 op) ∧ W.cell? ⟨lb, lo + d * 7 + 5, none⟩ = some (.int .u64 dk) ∧ W.cell? ⟨lb, lo + d * 7 + 6, none⟩ = some (.int .u64 dv)) (by kernel_rfl) ?_ (fun hHeld => ?_)
  · exact ⟨(HSL.out _ _ _ _ (getL_ (HU2.out.drewU (Sep.framed ROwnV.framed Locs.framed))).choose_spec).2.2.1, (HSL.out _ _ _ _ (getL_ (HU2.out.drewU (Sep.framed ROwnV.framed Locs.framed))).choose_spec).2.1, (HSL.out _ _ _ _ (getL_ (HU2.out.drewU (Sep.framed ROwnV.framed Locs.framed))).choose_spec).2.2.2.2⟩
  try simp only [Act.put, List.getElem_toArray, List.getElem_cons_succ, List.getElem_cons_zero, List.setIfInBounds_toArray, List.set_cons_zero, List.set_cons_succ]
  refine wpAnyH_take (i := 0) (v := ?vdb0) rfl (by kernel_rfl) (by kernel_rfl) (by kernel_rfl) (fun _ _ _ h => h) (Or.inl ⟨by rfl, ?hydb0⟩) (by assumption) ?restdb0
  case hydb0 =>
    intro w hSw
    try dsimp only at hSw
    go_simp
    all_goals with_reducible rfl
  simp only [Act.put, List.getElem_toArray, List.getElem_cons_succ, List.getElem_cons_zero, List.setIfInBounds_toArray, List.set_cons_zero, List.set_cons_succ]
  refine wpAnyH_take (i := 1) (v := ?vdb1) rfl (by kernel_rfl) (by kernel_rfl) (by kernel_rfl) (fun _ _ _ h => h) (Or.inl ⟨by rfl, ?hydb1⟩) (by assumption) ?restdb1
  case hydb1 =>
    intro w hSw
    try dsimp only at hSw
    go_simp
    all_goals with_reducible rfl
  simp only [Act.put, List.getElem_toArray, List.getElem_cons_succ, List.getElem_cons_zero, List.setIfInBounds_toArray, List.set_cons_zero, List.set_cons_succ]
  refine wpAnyH_take (i := 2) (v := ?vdb2) rfl (by kernel_rfl) (by kernel_rfl) (by kernel_rfl) (fun _ _ _ h => h) (Or.inl ⟨by rfl, ?hydb2⟩) (by assumption) ?restdb2
  case hydb2 =>
    intro w hSw
    try dsimp only at hSw
    go_simp
    all_goals with_reducible rfl
  simp only [Act.put, List.getElem_toArray, List.getElem_cons_succ, List.getElem_cons_zero, List.setIfInBounds_toArray, List.set_cons_zero, List.set_cons_succ]
  refine wpAnyH_take (i := 3) (v := ?vdb3) rfl (by kernel_rfl) (by kernel_rfl) (by kernel_rfl) (fun _ _ _ h => h) (Or.inl ⟨by rfl, ?hydb3⟩) (by assumption) ?restdb3
  case hydb3 =>
    intro w hSw
    try dsimp only at hSw
    go_simp
    all_goals with_reducible rfl
  simp only [Act.put, List.getElem_toArray, List.getElem_cons_succ, List.getElem_cons_zero, List.setIfInBounds_toArray, List.set_cons_zero, List.set_cons_succ]
  refine wpAnyH_take (i := 4) (v := ?vdb4) rfl (by kernel_rfl) (by kernel_rfl) (by kernel_rfl) (fun _ _ _ h => h) (Or.inl ⟨by rfl, ?hydb4⟩) (by assumption) ?restdb4
  case hydb4 =>
    intro w hSw
    try dsimp only at hSw
    go_simp
    all_goals with_reducible rfl
  simp only [Act.put, List.getElem_toArray, List.getElem_cons_succ, List.getElem_cons_zero, List.setIfInBounds_toArray, List.set_cons_zero, List.set_cons_succ]
  refine wpAnyH_take (i := 5) (v := ?vdb5) rfl (by kernel_rfl) (by kernel_rfl) (by kernel_rfl) (fun _ _ _ h => h) (Or.inl ⟨by rfl, ?hydb5⟩) (by assumption) ?restdb5
  case hydb5 =>
    intro w hSw
    try dsimp only at hSw
    go_simp
    all_goals with_reducible rfl
  simp only [Act.put, List.getElem_toArray, List.getElem_cons_succ, List.getElem_cons_zero, List.setIfInBounds_toArray, List.set_cons_zero, List.set_cons_succ]
  refine wpAnyH_take (i := 6) (v := ?vdb6) rfl (by kernel_rfl) (by kernel_rfl) (by kernel_rfl) (fun _ _ _ h => h) (Or.inl ⟨by rfl, ?hydb6⟩) (by assumption) ?restdb6
  case hydb6 =>
    intro w hSw
    try dsimp only at hSw
    go_simp
    all_goals with_reducible rfl
  simp only [Act.put, List.getElem_toArray, List.getElem_cons_succ, List.getElem_cons_zero, List.setIfInBounds_toArray, List.set_cons_zero, List.set_cons_succ]
  refine wpAnyH_take (i := 7) (v := ?vdb7) rfl (by kernel_rfl) (by kernel_rfl) (by kernel_rfl) (fun _ _ _ h => h) (Or.inl ⟨by rfl, ?hydb7⟩) (by assumption) ?restdb7
  case hydb7 =>
    intro w hSw
    try dsimp only at hSw
    go_simp
    all_goals with_reducible rfl
  simp only [Act.put, List.getElem_toArray, List.getElem_cons_succ, List.getElem_cons_zero, List.setIfInBounds_toArray, List.set_cons_zero, List.set_cons_succ]
  refine wpAnyH_take (i := 8) (v := ?vdb8) rfl (by kernel_rfl) (by kernel_rfl) (by kernel_rfl) (fun _ _ _ h => h) (Or.inl ⟨by rfl, ?hydb8⟩) (by assumption) ?restdb8
  case hydb8 =>
    intro w hSw
    try dsimp only at hSw
    go_simp
    all_goals with_reducible rfl
  simp only [Act.put, List.getElem_toArray, List.getElem_cons_succ, List.getElem_cons_zero, List.setIfInBounds_toArray, List.set_cons_zero, List.set_cons_succ]
  refine wpAnyH_take (i := 9) (v := ?vdb9) rfl (by kernel_rfl) (by kernel_rfl) (by kernel_rfl) (fun _ _ _ h => h) (Or.inl ⟨by rfl, ?hydb9⟩) (by assumption) ?restdb9
  case hydb9 =>
    intro w hSw
    try dsimp only at hSw
    go_simp
    all_goals with_reducible rfl
  simp only [Act.put, List.getElem_toArray, List.getElem_cons_succ, List.getElem_cons_zero, List.setIfInBounds_toArray, List.set_cons_zero, List.set_cons_succ]
  have HU3 := Lib.hid (HU2.out.drewU (Sep.framed ROwnV.framed Locs.framed))
  clear hHeld
  refine wpAnyH_ready (rs := [10]) (by kernel_rfl) (by simp) ?_
  refine AllReadyH.cons rfl (fun K hK => ?_) AllReadyH.nil
  go_simp
  have HU4 := Lib.hid (HU3.out.loc ROwnV.framed (reqO 0 0 false 0 0 0 0))
  refine hK.out _ _ ?_ (fun hHeld => ?_)
  · exact ⟨(HSL.out _ _ _ _ (getL_ HU4.out).choose_spec).2.2.1, (HSL.out _ _ _ _ (getL_ HU4.out).choose_spec).2.1, (HSL.out _ _ _ _ (getL_ HU4.out).choose_spec).2.2.2.2⟩
  clear hK K hHeld
  try simp only [Act.put, List.getElem_toArray, List.getElem_cons_succ, List.getElem_cons_zero, List.setIfInBounds_toArray, List.set_cons_zero, List.set_cons_succ]
  refine wpAnyH_ready (rs := [11]) (by kernel_rfl) (by simp) ?_
  refine AllReadyH.cons rfl (fun K hK => ?_) AllReadyH.nil
  rw [if_pos (by rfl)]
  have HU5 := Lib.hid (locs_two ROwnV.framed HU0.out (repO 0 0 false 0 0 0 0 0 false 0 false 0 0 (.slice none 0 0)) (reqO fr tg false i op dk dv))
  refine wp_store_row 37 (.tmp 4) (.tmp 26) rfl (w.heap.size + 1) #[.int .i64 fr, .int .i64 tg, .bool false, .int .i64 (i : Int), .int .i64 op, .int .u64 dk, .int .u64 dv] rfl rfl 37 _ (alloc_two w (repO 0 0 false 0 0 0 0 0 false 0 false 0 0 (.slice none 0 0)) (reqO 0 0 false 0 0 0 0)) (by kernel_rfl) rfl (by simp [Value.oneCell']) ?_
  rw [setRow_alloc2 (w.alloc (repO 0 0 false 0 0 0 0 0 false 0 false 0 0 (.slice none 0 0))) (w.heap.size + 1) _ _ _ _ (by simp)]
  obtain ⟨wq, hwq⟩ : ∃ wq, wq = ((w.alloc (repO 0 0 false 0 0 0 0 0 false 0 false 0 0 (.slice none 0 0))).alloc (reqO fr tg false i op dk dv)).drew.drew := ⟨_, rfl⟩
  rw [← hwq] at HU5
  rw [← hwq]
  clear hwq
  refine hK.out _ _ ?_ (fun hHeld => ?_)
  · exact ⟨(HSL.out _ _ _ _ (getL_ HU5.out).choose_spec).2.2.1, (HSL.out _ _ _ _ (getL_ HU5.out).choose_spec).2.1, (HSL.out _ _ _ _ (getL_ HU5.out).choose_spec).2.2.2.2⟩
  clear hK K hHeld HU4 HU3 HU2 HU1 HU0
  try simp only [Act.put, List.getElem_toArray, List.getElem_cons_succ, List.getElem_cons_zero, List.setIfInBounds_toArray, List.set_cons_zero, List.set_cons_succ]
  refine wpAnyH_done (by kernel_rfl) ?_ _
  have HQN := Lib.hid (show w.heap.size ≠ w.heap.size + 1 by omega)
  have HU6 := Lib.hid HU5.out
  clear HU5
  generalize w.heap.size + 1 = qb at *
  generalize w.heap.size = rb at *
  have e4 : wq.cell? ⟨g, 4, none⟩ = some (.int .i64 (d : Int)) := (HSL.out _ _ _ _ (getL_ HU6.out).choose_spec).2.2.1
  have f4 : wq.frozen? ⟨g, 4, none⟩ = false := frozen_of_row wq g 4 _ _ (getL_ HU6.out).choose_spec.obj.1
  go_wp2_with fail
  have HU7 := Lib.hid (rset_done HU6.out ((d : Int) + 1))
  generalize World.setCell wq _ _ = wd at *
  clear HU6 e4 f4
  refine wp_region_held_drew (S := fun W => W.cell? ⟨g, 2, none⟩ = some (.slice (some ⟨sb, off, none⟩) ml.length cm) ∧ W.cell? ⟨sb, off + i, none⟩ = some (.pointer (some ⟨rs, 0, none⟩)) ∧ W.cell? ⟨qb, 3, none⟩ = some (.int .i64 (i : Int))) (by kernel_rfl) ?_ (fun hHeld => ?_)
  · exact ⟨(HSL.out _ _ _ _ (getL_ HU7.out).choose_spec).1, (HSL.out _ _ _ _ (getL_ HU7.out).choose_spec).2.2.2.1, blk_cell (HU7.out.get (List.mem_cons_self ..)) 3⟩
  try simp only [Act.put, List.getElem_toArray, List.getElem_cons_succ, List.getElem_cons_zero, List.setIfInBounds_toArray, List.set_cons_zero, List.set_cons_succ]
  refine wpAnyH_take (i := 0) (v := ?vdc0) rfl (by kernel_rfl) (by kernel_rfl) (by kernel_rfl) (fun _ _ _ h => h) (Or.inl ⟨by rfl, ?hydc0⟩) (by assumption) ?restdc0
  case hydc0 =>
    intro w hSw
    try dsimp only at hSw
    go_simp
    all_goals with_reducible rfl
  simp only [Act.put, List.getElem_toArray, List.getElem_cons_succ, List.getElem_cons_zero, List.setIfInBounds_toArray, List.set_cons_zero, List.set_cons_succ]
  refine wpAnyH_take (i := 1) (v := ?vdc1) rfl (by kernel_rfl) (by kernel_rfl) (by kernel_rfl) (fun _ _ _ h => h) (Or.inl ⟨by rfl, ?hydc1⟩) (by assumption) ?restdc1
  case hydc1 =>
    intro w hSw
    try dsimp only at hSw
    go_simp
    all_goals with_reducible rfl
  simp only [Act.put, List.getElem_toArray, List.getElem_cons_succ, List.getElem_cons_zero, List.setIfInBounds_toArray, List.set_cons_zero, List.set_cons_succ]
  refine wpAnyH_take (i := 2) (v := ?vdc2) rfl (by kernel_rfl) (by kernel_rfl) (by kernel_rfl) (fun _ _ _ h => h) (Or.inl ⟨by rfl, ?hydc2⟩) (by assumption) ?restdc2
  case hydc2 =>
    intro w hSw
    try dsimp only at hSw
    go_simp
    all_goals with_reducible rfl
  simp only [Act.put, List.getElem_toArray, List.getElem_cons_succ, List.getElem_cons_zero, List.setIfInBounds_toArray, List.set_cons_zero, List.set_cons_succ]
  refine wpAnyH_take (i := 3) (v := ?vdc3) rfl (by kernel_rfl) (by kernel_rfl) (by kernel_rfl) (fun _ _ _ h => h) (Or.inl ⟨by rfl, ?hydc3⟩) (by assumption) ?restdc3
  case hydc3 =>
    intro w hSw
    try dsimp only at hSw
    go_simp
    all_goals with_reducible rfl
  simp only [Act.put, List.getElem_toArray, List.getElem_cons_succ, List.getElem_cons_zero, List.setIfInBounds_toArray, List.set_cons_zero, List.set_cons_succ]
  refine wpAnyH_take (i := 4) (v := ?vdc4) rfl (by kernel_rfl) (by kernel_rfl) (by kernel_rfl) (fun _ _ _ h => h) (Or.inl ⟨by rfl, ?hydc4⟩) (by assumption) ?restdc4
  case hydc4 =>
    intro w hSw
    try dsimp only at hSw
    go_simp
    all_goals with_reducible rfl
  simp only [Act.put, List.getElem_toArray, List.getElem_cons_succ, List.getElem_cons_zero, List.setIfInBounds_toArray, List.set_cons_zero, List.set_cons_succ]
  refine wpAnyH_take (i := 5) (v := ?vdc5) rfl (by kernel_rfl) (by kernel_rfl) (by kernel_rfl) (fun _ _ _ h => h) (Or.inl ⟨by rfl, ?hydc5⟩) (by assumption) ?restdc5
  case hydc5 =>
    intro w hSw
    try dsimp only at hSw
    go_simp
    all_goals with_reducible rfl
  simp only [Act.put, List.getElem_toArray, List.getElem_cons_succ, List.getElem_cons_zero, List.setIfInBounds_toArray, List.set_cons_zero, List.set_cons_succ]
  refine wpAnyH_take (i := 6) (v := ?vdc6) rfl (by kernel_rfl) (by kernel_rfl) (by kernel_rfl) (fun _ _ _ h => h) (Or.inl ⟨by rfl, ?hydc6⟩) (by assumption) ?restdc6
  case hydc6 =>
    intro w hSw
    try dsimp only at hSw
    go_simp
    all_goals with_reducible rfl
  simp only [Act.put, List.getElem_toArray, List.getElem_cons_succ, List.getElem_cons_zero, List.setIfInBounds_toArray, List.set_cons_zero, List.set_cons_succ]
  refine wpAnyH_take (i := 7) (v := ?vdc7) rfl (by kernel_rfl) (by kernel_rfl) (by kernel_rfl) (fun _ _ _ h => h) (Or.inl ⟨by rfl, ?hydc7⟩) (by assumption) ?restdc7
  case hydc7 =>
    intro w hSw
    try dsimp only at hSw
    go_simp
    all_goals with_reducible rfl
  simp only [Act.put, List.getElem_toArray, List.getElem_cons_succ, List.getElem_cons_zero, List.setIfInBounds_toArray, List.set_cons_zero, List.set_cons_succ]
  refine wpAnyH_take (i := 8) (v := ?vdc8) rfl (by kernel_rfl) (by kernel_rfl) (by kernel_rfl) (fun _ _ _ h => h) (Or.inl ⟨by rfl, ?hydc8⟩) (by assumption) ?restdc8
  case hydc8 =>
    intro w hSw
    try dsimp only at hSw
    go_simp
    all_goals with_reducible rfl
  simp only [Act.put, List.getElem_toArray, List.getElem_cons_succ, List.getElem_cons_zero, List.setIfInBounds_toArray, List.set_cons_zero, List.set_cons_succ]
  refine wpAnyH_take (i := 9) (v := ?vdc9) rfl (by kernel_rfl) (by kernel_rfl) (by kernel_rfl) (fun _ _ _ h => h) (Or.inl ⟨by rfl, ?hydc9⟩) (by assumption) ?restdc9
  case hydc9 =>
    intro w hSw
    try dsimp only at hSw
    go_simp
    all_goals with_reducible rfl
  simp only [Act.put, List.getElem_toArray, List.getElem_cons_succ, List.getElem_cons_zero, List.setIfInBounds_toArray, List.set_cons_zero, List.set_cons_succ]
  clear hHeld
  refine wpAnyH_done (by kernel_rfl) ?_ _
  have HU8 := Lib.hid (HU7.out.drewU (Sep.framed ROwnV.framed Locs.framed))
  have q2 : wd.cell? ⟨qb, 2, none⟩ = some (.bool false) := blk_cell (HU7.out.get (List.mem_cons_self ..)) 2
  go_wp2_with fail
  clear q2
  refine wp_region_held_drew (S := fun W => W.cell? ⟨qb, 0, none⟩ = some (.int .i64 fr) ∧ W.cell? ⟨qb, 1, none⟩ = some (.int .i64 tg) ∧ W.cell? ⟨qb, 3, none⟩ = some (.int .i64 (i : Int)) ∧ W.cell? ⟨qb, 4, none⟩ = some (.int .i64 op) ∧ W.cell? ⟨qb, 5, none⟩ = some (.int .u64 dk) ∧ W.cell? ⟨qb, 6, none⟩ = some (.int .u64 dv)) (by kernel_rfl) ?_ (fun hHeld => ?_)
  · exact ⟨blk_cell ((HU8.out.drewU (Sep.framed ROwnV.framed Locs.framed)).get (g := qb) (List.mem_cons_self ..)) 0, blk_cell ((HU8.out.drewU (Sep.framed ROwnV.framed Locs.framed)).get (g := qb) (List.mem_cons_self ..)) 1, blk_cell ((HU8.out.drewU (Sep.framed ROwnV.framed Locs.framed)).get (g := qb) (List.mem_cons_self ..)) 3, blk_cell ((HU8.out.drewU (Sep.framed ROwnV.framed Locs.framed)).get (g := qb) (List.mem_cons_self ..)) 4, blk_cell ((HU8.out.drewU (Sep.framed ROwnV.framed Locs.framed)).get (g := qb) (List.mem_cons_self ..)) 5, blk_cell ((HU8.out.drewU (Sep.framed ROwnV.framed Locs.framed)).get (g := qb) (List.mem_cons_self ..)) 6⟩
  try simp only [Act.put, List.getElem_toArray, List.getElem_cons_succ, List.getElem_cons_zero, List.setIfInBounds_toArray, List.set_cons_zero, List.set_cons_succ]
  refine wpAnyH_take (i := 0) (v := ?vdd0) rfl (by kernel_rfl) (by kernel_rfl) (by kernel_rfl) (fun _ _ _ h => h) (Or.inl ⟨by rfl, ?hydd0⟩) (by assumption) ?restdd0
  case hydd0 =>
    intro w hSw
    try dsimp only at hSw
    go_simp
    all_goals with_reducible rfl
  simp only [Act.put, List.getElem_toArray, List.getElem_cons_succ, List.getElem_cons_zero, List.setIfInBounds_toArray, List.set_cons_zero, List.set_cons_succ]
  refine wpAnyH_take (i := 1) (v := ?vdd1) rfl (by kernel_rfl) (by kernel_rfl) (by kernel_rfl) (fun _ _ _ h => h) (Or.inl ⟨by rfl, ?hydd1⟩) (by assumption) ?restdd1
  case hydd1 =>
    intro w hSw
    try dsimp only at hSw
    go_simp
    all_goals with_reducible rfl
  simp only [Act.put, List.getElem_toArray, List.getElem_cons_succ, List.getElem_cons_zero, List.setIfInBounds_toArray, List.set_cons_zero, List.set_cons_succ]
  refine wpAnyH_take (i := 2) (v := ?vdd2) rfl (by kernel_rfl) (by kernel_rfl) (by kernel_rfl) (fun _ _ _ h => h) (Or.inl ⟨by rfl, ?hydd2⟩) (by assumption) ?restdd2
  case hydd2 =>
    intro w hSw
    try dsimp only at hSw
    go_simp
    all_goals with_reducible rfl
  simp only [Act.put, List.getElem_toArray, List.getElem_cons_succ, List.getElem_cons_zero, List.setIfInBounds_toArray, List.set_cons_zero, List.set_cons_succ]
  refine wpAnyH_take (i := 3) (v := ?vdd3) rfl (by kernel_rfl) (by kernel_rfl) (by kernel_rfl) (fun _ _ _ h => h) (Or.inl ⟨by rfl, ?hydd3⟩) (by assumption) ?restdd3
  case hydd3 =>
    intro w hSw
    try dsimp only at hSw
    go_simp
    all_goals with_reducible rfl
  simp only [Act.put, List.getElem_toArray, List.getElem_cons_succ, List.getElem_cons_zero, List.setIfInBounds_toArray, List.set_cons_zero, List.set_cons_succ]
  refine wpAnyH_take (i := 4) (v := ?vdd4) rfl (by kernel_rfl) (by kernel_rfl) (by kernel_rfl) (fun _ _ _ h => h) (Or.inl ⟨by rfl, ?hydd4⟩) (by assumption) ?restdd4
  case hydd4 =>
    intro w hSw
    try dsimp only at hSw
    go_simp
    all_goals with_reducible rfl
  simp only [Act.put, List.getElem_toArray, List.getElem_cons_succ, List.getElem_cons_zero, List.setIfInBounds_toArray, List.set_cons_zero, List.set_cons_succ]
  refine wpAnyH_take (i := 5) (v := ?vdd5) rfl (by kernel_rfl) (by kernel_rfl) (by kernel_rfl) (fun _ _ _ h => h) (Or.inl ⟨by rfl, ?hydd5⟩) (by assumption) ?restdd5
  case hydd5 =>
    intro w hSw
    try dsimp only at hSw
    go_simp
    all_goals with_reducible rfl
  simp only [Act.put, List.getElem_toArray, List.getElem_cons_succ, List.getElem_cons_zero, List.setIfInBounds_toArray, List.set_cons_zero, List.set_cons_succ]
  refine wpAnyH_take (i := 6) (v := ?vdd6) rfl (by kernel_rfl) (by kernel_rfl) (by kernel_rfl) (fun _ _ _ h => h) (Or.inl ⟨by rfl, ?hydd6⟩) (by assumption) ?restdd6
  case hydd6 =>
    intro w hSw
    try dsimp only at hSw
    go_simp
    all_goals with_reducible rfl
  simp only [Act.put, List.getElem_toArray, List.getElem_cons_succ, List.getElem_cons_zero, List.setIfInBounds_toArray, List.set_cons_zero, List.set_cons_succ]
  refine wpAnyH_take (i := 7) (v := ?vdd7) rfl (by kernel_rfl) (by kernel_rfl) (by kernel_rfl) (fun _ _ _ h => h) (Or.inl ⟨by rfl, ?hydd7⟩) (by assumption) ?restdd7
  case hydd7 =>
    intro w hSw
    try dsimp only at hSw
    go_simp
    all_goals with_reducible rfl
  simp only [Act.put, List.getElem_toArray, List.getElem_cons_succ, List.getElem_cons_zero, List.setIfInBounds_toArray, List.set_cons_zero, List.set_cons_succ]
  refine wpAnyH_take (i := 8) (v := ?vdd8) rfl (by kernel_rfl) (by kernel_rfl) (by kernel_rfl) (fun _ _ _ h => h) (Or.inl ⟨by rfl, ?hydd8⟩) (by assumption) ?restdd8
  case hydd8 =>
    intro w hSw
    try dsimp only at hSw
    go_simp
    all_goals with_reducible rfl
  simp only [Act.put, List.getElem_toArray, List.getElem_cons_succ, List.getElem_cons_zero, List.setIfInBounds_toArray, List.set_cons_zero, List.set_cons_succ]
  refine wpAnyH_take (i := 9) (v := ?vdd9) rfl (by kernel_rfl) (by kernel_rfl) (by kernel_rfl) (fun _ _ _ h => h) (Or.inl ⟨by rfl, ?hydd9⟩) (by assumption) ?restdd9
  case hydd9 =>
    intro w hSw
    try dsimp only at hSw
    go_simp
    all_goals with_reducible rfl
  simp only [Act.put, List.getElem_toArray, List.getElem_cons_succ, List.getElem_cons_zero, List.setIfInBounds_toArray, List.set_cons_zero, List.set_cons_succ]
  refine wpAnyH_take (i := 10) (v := ?vdd10) rfl (by kernel_rfl) (by kernel_rfl) (by kernel_rfl) (fun _ _ _ h => h) (Or.inl ⟨by rfl, ?hydd10⟩) (by assumption) ?restdd10
  case hydd10 =>
    intro w hSw
    try dsimp only at hSw
    go_simp
    all_goals with_reducible rfl
  simp only [Act.put, List.getElem_toArray, List.getElem_cons_succ, List.getElem_cons_zero, List.setIfInBounds_toArray, List.set_cons_zero, List.set_cons_succ]
  refine wpAnyH_take (i := 11) (v := ?vdd11) rfl (by kernel_rfl) (by kernel_rfl) (by kernel_rfl) (fun _ _ _ h => h) (Or.inl ⟨by rfl, ?hydd11⟩) (by assumption) ?restdd11
  case hydd11 =>
    intro w hSw
    try dsimp only at hSw
    go_simp
    all_goals with_reducible rfl
  simp only [Act.put, List.getElem_toArray, List.getElem_cons_succ, List.getElem_cons_zero, List.setIfInBounds_toArray, List.set_cons_zero, List.set_cons_succ]
  refine wpAnyH_take (i := 12) (v := ?vdd12) rfl (by kernel_rfl) (by kernel_rfl) (by kernel_rfl) (fun _ _ _ h => h) (Or.inl ⟨by rfl, ?hydd12⟩) (by assumption) ?restdd12
  case hydd12 =>
    intro w hSw
    try dsimp only at hSw
    go_simp
    all_goals with_reducible rfl
  simp only [Act.put, List.getElem_toArray, List.getElem_cons_succ, List.getElem_cons_zero, List.setIfInBounds_toArray, List.set_cons_zero, List.set_cons_succ]
  refine wpAnyH_take (i := 13) (v := ?vdd13) rfl (by kernel_rfl) (by kernel_rfl) (by kernel_rfl) (fun _ _ _ h => h) (Or.inl ⟨by rfl, ?hydd13⟩) (by assumption) ?restdd13
  case hydd13 =>
    intro w hSw
    try dsimp only at hSw
    go_simp
    all_goals with_reducible rfl
  simp only [Act.put, List.getElem_toArray, List.getElem_cons_succ, List.getElem_cons_zero, List.setIfInBounds_toArray, List.set_cons_zero, List.set_cons_succ]
  refine wpAnyH_take (i := 14) (v := ?vdd14) rfl (by kernel_rfl) (by kernel_rfl) (by kernel_rfl) (fun _ _ _ h => h) (Or.inl ⟨by rfl, ?hydd14⟩) (by assumption) ?restdd14
  case hydd14 =>
    intro w hSw
    try dsimp only at hSw
    go_simp
    all_goals with_reducible rfl
  simp only [Act.put, List.getElem_toArray, List.getElem_cons_succ, List.getElem_cons_zero, List.setIfInBounds_toArray, List.set_cons_zero, List.set_cons_succ]
  refine wpAnyH_take (i := 15) (v := ?vdd15) rfl (by kernel_rfl) (by kernel_rfl) (by kernel_rfl) (fun _ _ _ h => h) (Or.inl ⟨by rfl, ?hydd15⟩) (by assumption) ?restdd15
  case hydd15 =>
    intro w hSw
    try dsimp only at hSw
    go_simp
    all_goals with_reducible rfl
  simp only [Act.put, List.getElem_toArray, List.getElem_cons_succ, List.getElem_cons_zero, List.setIfInBounds_toArray, List.set_cons_zero, List.set_cons_succ]
  refine wpAnyH_ready (rs := [16]) (by kernel_rfl) (by simp) ?_
  refine AllReadyH.cons rfl (fun K hK => ?_) AllReadyH.nil
  go_simp
  refine ((HU8.out.drewU (Sep.framed ROwnV.framed Locs.framed)).via Locs.framed (P' := ROwnV g sd n (.slice (some ⟨sb, off, none⟩) ml.length cm) (.slice (some ⟨lb, lo, none⟩) all.length cl) ml (ss.set i (s', ss[i].2 + 1)) all ((d : Int) + 1) ov) ROwnV.framed fun A hA => HDO.out _ _ _ hA).mono ?_
  rintro e w1 ⟨rfl, hU1⟩
  have HN := Lib.hid hU1
  clear hU1
  try go_wp2_with fail
  refine hK.out _ _ ?_ (fun hHeld => ?_)
  · exact ⟨blk_cell (HN.out.get (g := qb) (List.mem_cons_self ..)) 0, blk_cell (HN.out.get (g := qb) (List.mem_cons_self ..)) 1, blk_cell (HN.out.get (g := qb) (List.mem_cons_self ..)) 3, blk_cell (HN.out.get (g := qb) (List.mem_cons_self ..)) 4, blk_cell (HN.out.get (g := qb) (List.mem_cons_self ..)) 5, blk_cell (HN.out.get (g := qb) (List.mem_cons_self ..)) 6⟩
  clear hK K
  try simp only [Act.put, List.getElem_toArray, List.getElem_cons_succ, List.getElem_cons_zero, List.setIfInBounds_toArray, List.set_cons_zero, List.set_cons_succ]
  refine wpAnyH_take (i := 17) (v := ?vdd17) rfl (by kernel_rfl) (by kernel_rfl) (by kernel_rfl) (fun _ _ _ h => h) (Or.inl ⟨by rfl, ?hydd17⟩) (by assumption) ?restdd17
  case hydd17 =>
    intro w hSw
    try dsimp only at hSw
    go_simp
    all_goals with_reducible rfl
  simp only [Act.put, List.getElem_toArray, List.getElem_cons_succ, List.getElem_cons_zero, List.setIfInBounds_toArray, List.set_cons_zero, List.set_cons_succ]
  have HRB := Lib.hid (HN.out.get (g := rb) (List.mem_cons_of_mem _ (List.mem_cons_self ..)))
  have HQB := Lib.hid ((HN.out.get (g := qb) (List.mem_cons_self ..)))
  clear hHeld
  refine wpAnyH_ready (rs := [18]) (by kernel_rfl) (by simp) ?_
  refine AllReadyH.cons rfl (fun K hK => ?_) AllReadyH.nil
  rw [if_pos (by rfl)]
  refine wp_store_row 44 (.tmp 2) (.tmp 71) rfl rb #[.int .i64 fr, .int .i64 tg, .bool false, .int .i64 (i : Int), .int .i64 op, .int .u64 dk, .int .u64 dv, .int .i64 r.1, .bool r.2.1, .int .u64 r.2.2.1, .bool r.2.2.2.1, .int .u64 r.2.2.2.2.1, .int .u64 r.2.2.2.2.2, .slice none 0 0] rfl rfl 44 _ HRB.out (by kernel_rfl) rfl (by simp [Value.oneCell']) ?_
  have HQ2 := Lib.hid ((only_setRow _ rb #[.int .i64 fr, .int .i64 tg, .bool false, .int .i64 (i : Int), .int .i64 op, .int .u64 dk, .int .u64 dv, .int .i64 r.1, .bool r.2.1, .int .u64 r.2.2.1, .bool r.2.2.2.1, .int .u64 r.2.2.2.2.1, .int .u64 r.2.2.2.2.2, .slice none 0 0]).heap HQB.out (Ne.symm HQN.out))
  refine hK.out _ _ ?_ (fun hHeld => ?_)
  · exact ⟨blk_cell HQ2.out 0, blk_cell HQ2.out 1, blk_cell HQ2.out 3, blk_cell HQ2.out 4, blk_cell HQ2.out 5, blk_cell HQ2.out 6⟩
  clear hK K hHeld
  try simp only [Act.put, List.getElem_toArray, List.getElem_cons_succ, List.getElem_cons_zero, List.setIfInBounds_toArray, List.set_cons_zero, List.set_cons_succ]
  have HTRUE : True := trivial
  refine wpAnyH_ready (rs := [19]) (by kernel_rfl) (by simp) ?_
  refine AllReadyH.cons rfl (fun K hK => ?_) AllReadyH.nil
  go_simp
  refine hK.out _ _ ?_ (fun hHeld => ?_)
  · exact ⟨blk_cell HQ2.out 0, blk_cell HQ2.out 1, blk_cell HQ2.out 3, blk_cell HQ2.out 4, blk_cell HQ2.out 5, blk_cell HQ2.out 6⟩
  clear hK K hHeld
  try simp only [Act.put, List.getElem_toArray, List.getElem_cons_succ, List.getElem_cons_zero, List.setIfInBounds_toArray, List.set_cons_zero, List.set_cons_succ]
  refine wpAnyH_done (by kernel_rfl) ?_ _
  try go_wp2_with fail
  refine bodyPost_ret (results_cell_row_tmp rfl _ _ rb _ _ _ _ rfl (setRow_heap _ _ _ _ _ _ HRB.out) Try.underlying44 rfl (by kernel_rfl)) rfl ?_
  exact ⟨rfl, (locs_end2 ROwnV.framed HN.out _).imp fun _ h => h.plain⟩
end Go.Proofs.Ytdlkblklfoagbaa
