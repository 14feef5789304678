/- Layer 16: Counts; the document's ring. -/
import Derived.Test.YtdpklmaldjohkaaRingS
import Derived.Test.YtdpklmaldjohkaaTool
import Derived.StillTailTactics
import Derived.IntWalk
namespace Go.Proofs.Ytdpklmaldjohkaa
open Go.RowKit
set_option linter.unusedVariables false

set_option maxHeartbeats 1000000 in
theorem countsS (g h : Nat) (room : Int) (shut : Bool) (line : List Qd) (a r t d : Int) (S : Nat → Prop) (w : World) (H : RingS g h room shut line a r t d S w) :
    Calls Try.prog 19 #[.pointer (some ⟨g, 0, none⟩)] w fun e w' => e = .returned (Cts.v (a, r, t, d, line.length)) ∧ Only (fun _ => False) w w' := by
  obtain ⟨wv, H, h1, h2⟩ := H
  obtain ⟨c0, c1, c2, c3, c4, c5, c6, c7, c8, f, hlg⟩ := H.cells
  obtain ⟨hm, ao, cap, rfl, hc1, hc2, _⟩ := H.2.2
  clear H h2 h1
  go_enter Try.func19, Try.ntmps19
  go_wp2_with fail
  try simp only [Exit.inBlock, Exit.then]
  refine bodyPost_ret (results_cell_row rfl _ _ w.heap.size _ _ _ _ rfl (heap_alloc2_old w _ _) Try.underlying55 rfl (by kernel_rfl)) rfl ?_
  exact ⟨rfl, (Only.alloc _ _ _).tr (Only.alloc _ _ _)⟩

abbrev RefR (g : Nat) (room : Int) (T : Nat) (refused : Int) (closed : Bool) (all : List Qd) : (Nat → Prop) → World → Prop :=
  Obj1 eQ 66 39 (fun v => #[.int .i64 room, .int .i64 (T : Int), .int .i64 refused, .bool closed, v]) g all

set_option maxHeartbeats 1000000 in
theorem refNew_any (room : Int) (w : World) (h1 : 1 ≤ room) (h2 : room ≤ 16) :
    Calls Try.prog 13 #[.int .i64 room] w fun e w' => ∃ g, e = .returned (.tuple #[.pointer (some ⟨g, 0, none⟩), .int .i64 0]) ∧ RefR g room 0 0 false [] (fun k => w.heap.size ≤ k) w' ∧ Only (fun _ => False) w w' := by
  go_enter Try.func13, Try.ntmps13
  go_wp2_with fail
  go_ret2
  exact ⟨_, rfl, ⟨_, heap_alloc_new w _, Ow.nil _ _ _, Nat.le_refl _, fun k hk => by simp [Value.ownBlock] at hk⟩, Only.alloc _ _ _⟩
set_option maxHeartbeats 1000000 in
theorem refNew_not (room : Int) (w : World) (h1 : room < 1 ∨ 16 < room) :
    Calls Try.prog 13 #[.int .i64 room] w fun e w' => e = .returned (.tuple #[.pointer none, .int .i64 2]) ∧ w = w' := by
  rcases h1 with h1 | h1
  · go_enter Try.func13, Try.ntmps13
    go_wp2_with fail
    go_ret2
    exact ⟨rfl, rfl⟩
  · go_enter Try.func13, Try.ntmps13
    go_wp2_with fail
    go_ret2
    exact ⟨rfl, rfl⟩

/-- what waits -/
def waitsOf (closed : Bool) (T : Nat) (all : List Qd) : List Qd := if closed then [] else all.drop T
set_option maxHeartbeats 1000000 in
theorem refWaits_any (g : Nat) (room : Int) (T : Nat) (refused : Int) (closed : Bool) (all : List Qd) (S : Nat → Prop) (w : World) (H : RefR g room T refused closed all S w) (hT : T ≤ all.length) :
    Calls Try.prog 18 #[.pointer (some ⟨g, 0, none⟩)] w fun e w' => ∃ v', e = .returned v' ∧ (∀ W, Only (fun k => k = g) w W → Rd eQ W v' (waitsOf closed T all)) ∧ ∃ n, w' = w.drewN n := by
  obtain ⟨v, hg, hown, hS, hv⟩ := H
  have c1 : w.cell? ⟨g, 1, none⟩ = some (.int .i64 (T : Int)) := blk_cell hg 1
  have c3 : w.cell? ⟨g, 3, none⟩ = some (.bool closed) := blk_cell hg 3
  have c4 : w.cell? ⟨g, 4, none⟩ = some v := blk_cell hg 4
  have hr := hown.rd
  obtain ⟨hm, ao, cap, rfl, hc1, hc2, _⟩ := id hr
  have hrow := row_ne hg hown (by decide)
  have HR : Hid (∀ W, Only (fun k => k = g) w W → Rd eQ W (.slice ao all.length cap) all) := fun W ho => (hown.only ho (by rintro k hk rfl; exact hrow hk)).rd
  clear hr hown hg hrow
  cases closed
  · have hT0 : (0 : Int) ≤ (T : Int) := by omega
    have hT1 : (T : Int) ≤ (all.length : Int) := by omega
    have hT2 : (all.length : Int) ≤ (cap : Int) := by omega
    have hT3 : (T : Int) ≤ (cap : Int) := by omega
    by_cases hcT : cap = T
    · have h := fun W ho => (HR.out W ho).sliced T (T * eQ.size) rfl (by omega)
      simp only [if_pos hcT] at h
      have H2 := Lib.hid h
      have HCT := Lib.hid hcT
      clear h hcT HR
      go_enter Try.func18, Try.ntmps18
      go_wp2_with fail
      go_quiet (fail)
      go_wp2_with fail
      go_ret
      exact ⟨_, rfl, fun W ho => by simpa [waitsOf, HCT.out] using H2.out W ho, _, rfl⟩
    · have h := fun W ho => (HR.out W ho).sliced T (T * eQ.size) rfl (by omega)
      simp only [if_neg hcT] at h
      have H2 := Lib.hid h
      clear h HR
      go_enter Try.func18, Try.ntmps18
      go_wp2_with fail
      go_quiet (fail)
      go_wp2_with fail
      go_ret
      exact ⟨_, rfl, fun W ho => by simpa [waitsOf] using H2.out W ho, _, rfl⟩
  · go_enter Try.func18, Try.ntmps18
    go_wp2_with fail
    go_ret
    exact ⟨_, rfl, fun _ _ => Rd.nil _, 0, rfl⟩

set_option maxHeartbeats 1000000 in
theorem refTake_nil (g : Nat) (room : Int) (T : Nat) (refused : Int) (closed : Bool) (all : List Qd) (S : Nat → Prop) (w : World) (H : RefR g room T refused closed all S w) (hT : T ≤ all.length) (hw : waitsOf closed T all = []) :
    Calls Try.prog 15 #[.pointer (some ⟨g, 0, none⟩)] w fun e w' => e = .returned (.tuple #[qV (0, 0, 0), .bool false]) ∧ Only (fun _ => False) w w' := by
  have HH := Lib.hid H
  have HW := Lib.hid hw
  clear H hw
  go_enter Try.func15, Try.ntmps15
  go_wp2_with fail
  refine (refWaits_any g room T refused closed all S _ (Obj1.framed.alloc HH.out _) hT).mono ?_
  rintro e w2 ⟨v2, rfl, hr, nq, rfl⟩
  have hr := hr _ (Only.refl _ _)
  rw [HW.out] at hr
  obtain ⟨_, ao, cap, rfl, _⟩ := hr
  have hz : (((([] : List Qd).length : Nat) : Int) == 0) = true := rfl
  go_wp2_with fail
  try simp only [Exit.inBlock, Exit.then]
  refine bodyPost_ret (results_cell_row_tmp rfl _ _ w.heap.size _ _ _ _ rfl (blk_set (blk_set (blk_set (heap_alloc_new w _) 0 _) 1 _) 2 _) Try.underlying39 rfl (by kernel_rfl)) rfl ?_
  have o1 := ((Only.alloc (fun k => False ∨ w.heap.size ≤ k) w (.cells #[.int .i64 0, .int .u64 0, .int .u64 0] 39)).drewN nq)
  have st := fun W i v => Only.setCell (fun k => False ∨ w.heap.size ≤ k) W w.heap.size i v (.inr (Nat.le_refl _))
  exact ⟨rfl, (((o1.tr (st _ 0 _)).tr (st _ 1 _)).tr (st _ 2 _)).fresh⟩
set_option maxHeartbeats 1000000 in
theorem refTake_cons (g : Nat) (room : Int) (T : Nat) (refused : Int) (all : List Qd) (S : Nat → Prop) (w : World) (H : RefR g room T refused false all S w) (hT : T < all.length) (hl : all.length ≤ 1000000000000000) :
    Calls Try.prog 15 #[.pointer (some ⟨g, 0, none⟩)] w fun e w' => e = .returned (.tuple #[qV all[T], .bool true]) ∧ RefR g room (T + 1) refused false all (fun k => S k ∨ w.heap.size ≤ k) w' ∧ Only S w w' := by
  have HH := Lib.hid H
  obtain ⟨v, hg, hown, hS, hv⟩ := H
  have hlg := heap_lt hg
  have hvg := row_ne hg hown (by decide)
  obtain ⟨n, hn⟩ : ∃ n, n = all.length := ⟨_, rfl⟩
  have hown' := hown
  obtain ⟨hm, ao, cap, rfl, hc1, hc2, _⟩ := hown'
  obtain ⟨b, off, rfl, _, hat⟩ := hown.at_ T hT
  have x0 : w.cell? ⟨b, off + T * 3, none⟩ = some (.int .i64 all[T].1) := (hat 0 (by decide)).1
  have x1 : w.cell? ⟨b, off + T * 3 + 1, none⟩ = some (.int .u64 all[T].2.1) := (hat 1 (by decide)).1
  have x2 : w.cell? ⟨b, off + T * 3 + 2, none⟩ = some (.int .u64 all[T].2.2) := (hat 2 (by decide)).1
  have hlb := (hown.lt (g := b) rfl).2
  have hbg : ¬ b = g := fun e => hvg (by rw [e]; rfl)
  have c1 : w.cell? ⟨g, 1, none⟩ = some (.int .i64 (T : Int)) := blk_cell hg 1
  have c4 : w.cell? ⟨g, 4, none⟩ = some (.slice (some ⟨b, off, none⟩) n cap) := by rw [hn]; exact blk_cell hg 4
  have f1 : w.frozen? ⟨g, 1, none⟩ = false := blk_free hg 1
  have HG := Lib.hid hg
  have HO := Lib.hid hown
  rw [← hn] at hT hl hc1
  have hT0 : (0 : Int) ≤ (T : Int) := by omega
  have hT1 : (T : Int) < (n : Int) := by omega
  have HN := Lib.hid hn
  clear hat hg hown hn
  generalize hq : all[T]'(by have := HN.out; omega) = q at *
  obtain ⟨q0, q1, q2⟩ := q
  clear hq
  go_enter Try.func15, Try.ntmps15
  go_wp2_with fail
  refine (refWaits_any g room T refused false all S _ (Obj1.framed.alloc HH.out _) (by have := HN.out; omega)).mono ?_
  rintro e w2 ⟨v2, rfl, hr, nq, rfl⟩
  have hr := hr _ (Only.refl _ _)
  obtain ⟨_, ao2, cap2, rfl, _⟩ := hr
  have hz : ((((waitsOf false T all).length : Nat) : Int) == 0) = false := by have := HN.out; simp [waitsOf]; omega
  go_wp2_with fail
  clear hz
  obtain ⟨W, hW⟩ : ∃ W, W = (((w.alloc (.cells #[.int .i64 0, .int .u64 0, .int .u64 0] 39)).drewN nq).setCell ⟨g, 1, none⟩ (.int .i64 ((T : Int) + 1))) := ⟨_, rfl⟩
  rw [← hW]
  have oW : Only (fun k => k = g) w W := by rw [hW]; exact ((Only.alloc _ w _).drewN nq).tr (Only.setCell _ _ g 1 _ rfl)
  have bW := blk_set (w := (w.alloc (.cells #[.int .i64 0, .int .u64 0, .int .u64 0] 39)).drewN nq) (heap_alloc HG.out) 1 (.int .i64 ((T : Int) + 1))
  have rW := heap_setCell_far (w := (w.alloc (.cells #[.int .i64 0, .int .u64 0, .int .u64 0] 39)).drewN nq) (heap_alloc_new w _) g 1 (.int .i64 ((T : Int) + 1)) (by omega)
  rw [← hW] at bW rW
  have sW : W.heap.size = w.heap.size + 1 := by rw [hW]; simp [World.setCell]
  have y0 := (World.cell?_of_block (a := ⟨b, off + T * 3, none⟩) (oW.block b hlb hbg)).trans x0
  have y1 := (World.cell?_of_block (a := ⟨b, off + T * 3 + 1, none⟩) (oW.block b hlb hbg)).trans x1
  have y2 := (World.cell?_of_block (a := ⟨b, off + T * 3 + 2, none⟩) (oW.block b hlb hbg)).trans x2
  have d1 : W.cell? ⟨g, 1, none⟩ = some (.int .i64 ((T : Int) + 1)) := blk_cell bW 1
  have d4 : W.cell? ⟨g, 4, none⟩ = some (.slice (some ⟨b, off, none⟩) n cap) := by rw [HN.out]; exact blk_cell bW 4
  have r0 : W.cell? ⟨w.heap.size, 0, none⟩ = some (.int .i64 0) := blk_cell rW 0
  have r1 : W.cell? ⟨w.heap.size, 1, none⟩ = some (.int .u64 0) := blk_cell rW 1
  have r2 : W.cell? ⟨w.heap.size, 2, none⟩ = some (.int .u64 0) := blk_cell rW 2
  have rf : ∀ i, W.frozen? ⟨w.heap.size, i, none⟩ = false := fun i => blk_free rW i
  have HOW := Lib.hid oW
  have HBW := Lib.hid bW
  have HRW := Lib.hid rW
  have HSW := Lib.hid sW
  clear hW bW rW sW oW c1 c4 f1 x0 x1 x2
  generalize hR : w.heap.size = R at *
  have HRR := Lib.hid hR
  clear hR
  have n1 : ¬ b = R := by omega
  have n2 : ¬ g = R := by omega
  have n3 : ¬ R = b := by omega
  have n4 : ¬ R = g := by omega
  have hw : IntKind.i64.wrap ((T : Int) + 1 - 1) = (T : Int) := by rw [show (T : Int) + 1 - 1 = T by omega]; exact IntWalk.i64_in _ ⟨by omega, by omega⟩
  have hw2 : IntKind.i64.wrap (T : Int) = (T : Int) := IntWalk.i64_in _ ⟨by omega, by omega⟩
  go_region_held3 (fun w' => w'.cell? ⟨b, off + T * 3, none⟩ = some (.int .i64 q0) ∧ w'.cell? ⟨b, off + T * 3 + 1, none⟩ = some (.int .u64 q1) ∧ w'.cell? ⟨b, off + T * 3 + 2, none⟩ = some (.int .u64 q2) ∧ w'.cell? ⟨g, 1, none⟩ = some (.int .i64 ((T : Int) + 1)) ∧ w'.cell? ⟨g, 4, none⟩ = some (.slice (some ⟨b, off, none⟩) n cap)) (go_keep) (fail)
  all_goals go_wp2_with fail
  all_goals try simp only [Exit.inBlock, Exit.then]
  refine bodyPost_ret (results_cell_row_tmp rfl _ _ R _ _ _ _ rfl (blk_set (blk_set (blk_set HRW.out 0 _) 1 _) 2 _) Try.underlying39 rfl (by kernel_rfl)) rfl ?_
  have oR : Only (fun k => k = R) W (((W.setCell ⟨R, 0, none⟩ (.int .i64 q0)).setCell ⟨R, 1, none⟩ (.int .u64 q1)).setCell ⟨R, 2, none⟩ (.int .u64 q2)).drew := (((Only.setCell (fun k => k = R) W R 0 _ rfl).tr (Only.setCell (fun k => k = R) _ R 1 _ rfl)).tr (Only.setCell (fun k => k = R) _ R 2 _ rfl)).drew_
  refine ⟨rfl, ⟨_, oR.heap HBW.out n2, (HO.out.only HOW.out (by rintro k hk rfl; exact hvg hk)).only oR (by rintro k hk rfl; exact n1 (by simpa [Value.ownBlock] using hk)), .inl hS, fun k hk => .inl (hv k hk)⟩, ?_⟩
  exact ((HOW.out.mono (fun k _ h => by subst h; exact .inl hS)).tr (oR.mono (fun k _ h => by subst h; exact .inr (by have := HRR.out; omega)))).fresh

set_option maxHeartbeats 1000000 in
theorem refShut_any (g : Nat) (room : Int) (T : Nat) (refused : Int) (closed : Bool) (all : List Qd) (S : Nat → Prop) (w : World) (H : RefR g room T refused closed all S w) (hT : T ≤ all.length) :
    Calls Try.prog 17 #[.pointer (some ⟨g, 0, none⟩)] w fun e w' => ∃ v', e = .returned v' ∧ Rd eQ w' v' (waitsOf closed T all) ∧ RefR g room T refused true all (fun k => S k ∨ w.heap.size ≤ k) w' ∧ Only S w w' := by
  have HH := Lib.hid H
  go_enter Try.func17, Try.ntmps17
  go_wp2_with fail
  refine (refWaits_any g room T refused closed all S _ HH.out hT).mono ?_
  rintro e w2 ⟨v2, rfl, hr, nq, rfl⟩
  have hA := Obj1.framed.drewN HH.out nq
  obtain ⟨hB, oB⟩ := hA.set (cells' := fun v => #[.int .i64 room, .int .i64 (T : Int), .int .i64 refused, .bool true, v]) (by decide) 3 (.bool true) (fun _ => rfl)
  have c3 : w.cell? ⟨g, 3, none⟩ = some (.bool closed) := by obtain ⟨v, hg, _⟩ := HH.out; exact blk_cell hg 3
  have f3 : w.frozen? ⟨g, 3, none⟩ = false := by obtain ⟨v, hg, _⟩ := HH.out; exact blk_free hg 3
  have hlg : g < w.heap.size := by obtain ⟨v, hg, _⟩ := HH.out; exact heap_lt hg
  have hrB := hr _ (((Only.refl (fun k => k = g) w).drewN nq).tr oB)
  have HRB := Lib.hid hrB
  have HB := Lib.hid hB
  have HOB := Lib.hid oB
  clear hr hA hrB hB oB
  go_wp2_with fail
  go_ret
  exact ⟨_, rfl, HRB.out, Obj1.framed.mono _ _ _ HB.out (fun _ _ h => .inl h), ((Only.refl S w).drewN nq).tr (HOB.out.mono (fun k _ e => by subst e; exact HH.out.in_))⟩
set_option maxHeartbeats 1000000 in
theorem refAccept_shut (g : Nat) (room : Int) (T : Nat) (refused : Int) (all : List Qd) (S : Nat → Prop) (w : World) (H : RefR g room T refused true all S w) (e0 e1 next : Int) :
    Calls Try.prog 14 #[.pointer (some ⟨g, 0, none⟩), .agg #[.int .u64 e0, .int .u64 e1], .int .i64 next] w fun e w' => e = .returned (.tuple #[.int .i64 0, .int .i64 43]) ∧ Only (fun _ => False) w w' := by
  obtain ⟨v, hg, hown, hS, hv⟩ := H
  have c3 : w.cell? ⟨g, 3, none⟩ = some (.bool true) := blk_cell hg 3
  have hlg := heap_lt hg
  clear hg hown
  go_enter Try.func14, Try.ntmps14
  go_wp2_with fail
  go_ret2
  exact ⟨rfl, Only.alloc _ _ _⟩
set_option maxHeartbeats 1000000 in
theorem refAccept_full (g : Nat) (room : Int) (T : Nat) (refused : Int) (all : List Qd) (S : Nat → Prop) (w : World) (H : RefR g room T refused false all S w) (e0 e1 next : Int) (hf : room ≤ (all.length : Int) - T) (hr0 : 0 ≤ room) (hT : T ≤ all.length) (hl : all.length ≤ 1000000000000000) (hq : 0 ≤ refused) (hq2 : refused ≤ 1000000000000000) :
    Calls Try.prog 14 #[.pointer (some ⟨g, 0, none⟩), .agg #[.int .u64 e0, .int .u64 e1], .int .i64 next] w fun e w' => e = .returned (.tuple #[.int .i64 0, .int .i64 40]) ∧ RefR g room T (refused + 1) false all (fun k => S k ∨ w.heap.size ≤ k) w' ∧ Only S w w' := by
  have HH := Lib.hid H
  obtain ⟨v, hg, hown, hS, hv⟩ := H
  have hvl : ∃ ao cap, v = .slice ao all.length cap := by obtain ⟨_, ao, cap, rfl, _⟩ := hown; exact ⟨ao, cap, rfl⟩
  obtain ⟨ao, cap, rfl⟩ := hvl
  have c0 : w.cell? ⟨g, 0, none⟩ = some (.int .i64 room) := blk_cell hg 0
  have c1 : w.cell? ⟨g, 1, none⟩ = some (.int .i64 (T : Int)) := blk_cell hg 1
  have c2 : w.cell? ⟨g, 2, none⟩ = some (.int .i64 refused) := blk_cell hg 2
  have c3 : w.cell? ⟨g, 3, none⟩ = some (.bool false) := blk_cell hg 3
  have c4 : w.cell? ⟨g, 4, none⟩ = some (.slice ao all.length cap) := blk_cell hg 4
  have f2 : w.frozen? ⟨g, 2, none⟩ = false := blk_free hg 2
  have hlg := heap_lt hg
  clear hg hown hv
  have hw : IntKind.i64.wrap ((all.length : Int) - T) = (all.length : Int) - T := IntWalk.i64_in _ ⟨by omega, by omega⟩
  go_enter Try.func14, Try.ntmps14
  go_wp2_with fail
  go_quiet (fail)
  clear hw
  go_wp2_with fail
  go_ret2
  have hA := Obj1.framed.drewN (Obj1.framed.alloc HH.out (.cells #[.int .u64 e0, .int .u64 e1] 35)) nq
  obtain ⟨hB, oB⟩ := hA.set (cells' := fun v => #[.int .i64 room, .int .i64 (T : Int), .int .i64 (refused + 1), .bool false, v]) (by decide) 2 (.int .i64 (refused + 1)) (fun _ => rfl)
  exact ⟨rfl, Obj1.framed.mono _ _ _ hB (fun _ _ h => .inl h), ((Only.alloc S w _).drewN nq).tr (oB.mono (fun k _ e => by subst e; exact hS))⟩
set_option maxHeartbeats 1000000 in
theorem refAccept_ok (g : Nat) (room : Int) (T : Nat) (refused : Int) (all : List Qd) (S : Nat → Prop) (w : World) (H : RefR g room T refused false all S w) (e0 e1 next : Int) (hf : (all.length : Int) - T < room) (hr0 : 0 ≤ room) (hT : T ≤ all.length) (hl : all.length ≤ 8000000000000) :
    Calls Try.prog 14 #[.pointer (some ⟨g, 0, none⟩), .agg #[.int .u64 e0, .int .u64 e1], .int .i64 next] w fun e w' => e = .returned (.tuple #[.int .i64 next, .int .i64 0]) ∧ RefR g room T refused false (all ++ [(next, e0, e1)]) (fun k => S k ∨ w.heap.size ≤ k) w' ∧ Only S w w' := by
  obtain ⟨v, hg, hown, hS, hv⟩ := H
  have hvg := row_ne hg hown (by decide)
  have hvl : ∃ ao cap, v = .slice ao all.length cap := by obtain ⟨_, ao, cap, rfl, _⟩ := hown; exact ⟨ao, cap, rfl⟩
  obtain ⟨ao, cap, rfl⟩ := hvl
  have c0 : w.cell? ⟨g, 0, none⟩ = some (.int .i64 room) := blk_cell hg 0
  have c1 : w.cell? ⟨g, 1, none⟩ = some (.int .i64 (T : Int)) := blk_cell hg 1
  have c3 : w.cell? ⟨g, 3, none⟩ = some (.bool false) := blk_cell hg 3
  have c4 : w.cell? ⟨g, 4, none⟩ = some (.slice ao all.length cap) := blk_cell hg 4
  have f4 : w.frozen? ⟨g, 4, none⟩ = false := blk_free hg 4
  have hlg := heap_lt hg
  have HO := Lib.hid hown
  have HG := Lib.hid hg
  have hw : IntKind.i64.wrap ((all.length : Int) - T) = (all.length : Int) - T := IntWalk.i64_in _ ⟨by omega, by omega⟩
  clear hg hown
  go_enter Try.func14, Try.ntmps14
  go_wp2_with fail
  go_quiet (fail)
  clear hw
  go_wp2_with fail
  obtain ⟨W, hW⟩ : ∃ W, W = (w.alloc (.cells #[.int .u64 e0, .int .u64 e1] 35)).drewN nq := ⟨_, rfl⟩
  rw [← hW]
  have oW : Only (fun _ => False) w W := by rw [hW]; exact (Only.alloc _ w _).drewN nq
  have gW : W.heap[g]? = some (.cells #[.int .i64 room, .int .i64 (T : Int), .int .i64 refused, .bool false, .slice ao all.length cap] 66 (0, 0)) := by rw [hW]; exact heap_alloc HG.out
  have x0 : W.cell? ⟨w.heap.size, 0, none⟩ = some (.int .u64 e0) := by rw [hW]; simp
  have x1 : W.cell? ⟨w.heap.size, 1, none⟩ = some (.int .u64 e1) := by rw [hW]; simp
  have sW : w.heap.size < W.heap.size := by rw [hW]; simp
  have d4 : W.cell? ⟨g, 4, none⟩ = some (.slice ao all.length cap) := blk_cell gW 4
  have ff : W.frozen? ⟨g, 4, none⟩ = false := blk_free gW 4
  have hgW : g < W.heap.size := by omega
  have HOW := Lib.hid oW
  have HGW := Lib.hid gW
  have hoS : OwS eQ 39 S W (.slice ao all.length cap) all := ⟨HO.out.only oW (fun _ _ h => h), hv⟩
  have hrd : Rd eQ (W.alloc (.cells #[.int .i64 next, .int .u64 e0, .int .u64 e1] 39)) (.slice (some ⟨W.heap.size, 0, none⟩) 1 1) [(next, e0, e1)] := Rd.lit W #[.int .i64 next, .int .u64 e0, .int .u64 e1] 39 (0, 0) 1 1 [(next, e0, e1)] (by simp [Enc.all]) rfl (Nat.le_refl _) (by decide)
  have hga : g < (W.alloc (.cells #[.int .i64 next, .int .u64 e0, .int .u64 e1] 39)).drew.heap.size := by show g < (W.heap.push _).size; simp; omega
  have hb : (5 * (all.length + 1) + 2816) * 24 ≤ 1125899906842624 := by omega
  have hm : all.length + 1 ≤ maxLen := by unfold maxLen; omega
  clear hW gW oW c0 c1 c3 c4 f4
  generalize hR : w.heap.size = R at *
  have HRR := Lib.hid hR
  clear hR
  go_region_law (refine step_appendS (E := eQ) (by rfl) (.tmp 38) (.tmp 42) _ (by rfl) 39 24 eQ_slice S _ all (by rfl) (OwS.framed.alloc hoS _) _ [(next, e0, e1)] (by rfl) hrd (all.length + 1) (by simp) (by omega) hb hm g hga hvg ?_; intro b3 off3 cap3 w3 hown3 hO3 hk3 hf3)
  all_goals go_wp2_with fail
  all_goals
    go_ret2
    have oA : Only (fun k => S k ∨ w.heap.size ≤ k) w w3 := ((HOW.out.mono (fun _ _ h => h.elim)).tr ((Only.alloc _ W _).drew_)).tr (hO3.mono (fun k _ h => .inl (hv k h)))
    have gA : w3.heap[g]? = _ := hO3.heap (o := .cells #[.int .i64 room, .int .i64 (T : Int), .int .i64 refused, .bool false, .slice ao all.length cap] 66 (0, 0)) (heap_alloc HGW.out) hvg
    have hown4 : OwS eQ 39 (fun k => S k ∨ w.heap.size ≤ k) w3 _ _ := OwS.framed.widen hown3 (Nat.le_trans (by have := HRR.out; omega) (size_le_alloc W _))
    obtain ⟨hB, oB⟩ := Obj1.setSlice' (cells := fun v => #[.int .i64 room, .int .i64 (T : Int), .int .i64 refused, .bool false, v]) (S := fun k => S k ∨ w.heap.size ≤ k) gA (.inl hS) (by decide) 4 _ hown4 (fun _ _ => rfl)
    exact ⟨rfl, hB, (oA.tr (oB.mono (fun k _ e => by subst e; exact .inl hS))).fresh⟩
end Go.Proofs.Ytdpklmaldjohkaa
