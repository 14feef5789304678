/- owner: Step. -/
import Derived.Test.YtdlkblklfoagbaaOwnSend
import Derived.Deep.MidRow
import Derived.Deep.RegionHeld3
namespace Go.Proofs.Ytdlkblklfoagbaa
open Go.RowKit
set_option linter.unusedVariables false
set_option linter.unusedSimpArgs false

theorem results_cell_row_tmp {P : Program} {fn : Func} {p u : Tmp} {ty : TypeId} (h : fn.results = #[.cell p ty, .tmp u]) (tmps : Array Value) (w : World) (g : Nat) (t : TypeId) (cs : Array Value) (fr : Nat × Nat) (d : TypeDesc)
    (hp : tmps.getD p undef = .pointer (some ⟨g, 0, none⟩)) (hg : w.heap[g]? = some (.cells cs t fr))
    (hu : P.underlying ty = some d) (hd : (match d with | .struct _ | .array _ _ => true | _ => false) = true) (hi : (P.info? ty).map (·.size) = some cs.size) :
    (results fn tmps).run P w = .ok (.tuple #[.agg cs, tmps.getD u undef]) w := by
  rw [results_cell_tmp h, hp]
  simp [asAddr, run_loadVar_row w g t ty cs fr d hg hu hd hi, Result.andThen]
abbrev repO (tt tg : Int) (wk : Bool) (mp op dk dv x0 : Int) (x1 : Bool) (x2 : Int) (x3 : Bool) (x4 x5 : Int) (vp : Value) : Obj := .cells #[.int .i64 tt, .int .i64 tg, .bool wk, .int .i64 mp, .int .i64 op, .int .u64 dk, .int .u64 dv, .int .i64 x0, .bool x1, .int .u64 x2, .bool x3, .int .u64 x4, .int .u64 x5, vp] 44 (0, 0)
theorem line_head {w : World} {al : Option Addr} {L cl : Nat} {q : ReqD} {rest : List ReqD} (h : Rd eReq w (.slice al L cl) (q :: rest)) :
    ∃ lb lo, al = some ⟨lb, lo, none⟩ ∧ w.cell? ⟨lb, lo, none⟩ = some (.int .i64 q.1) ∧ w.cell? ⟨lb, lo + 1, none⟩ = some (.int .i64 q.2.1) ∧ w.cell? ⟨lb, lo + 2, none⟩ = some (.bool q.2.2.1) ∧ w.cell? ⟨lb, lo + 3, none⟩ = some (.int .i64 q.2.2.2.1) ∧ w.cell? ⟨lb, lo + 4, none⟩ = some (.int .i64 q.2.2.2.2.1) ∧ w.cell? ⟨lb, lo + 5, none⟩ = some (.int .u64 q.2.2.2.2.2.1) ∧ w.cell? ⟨lb, lo + 6, none⟩ = some (.int .u64 q.2.2.2.2.2.2) := by
  obtain ⟨_, a1, c1, he, _, _, hx⟩ := h
  obtain ⟨lb, lo, hab, hc⟩ := hx (by simp)
  have ha : al = a1 := by simp at he; exact he.1
  have := req_cells hc 0 (by simp)
  simp only [Nat.zero_mul, Nat.add_zero, List.getElem_cons_zero] at this
  exact ⟨lb, lo, ha.trans hab, this⟩
theorem slice_from1 (ao : Option Addr) (n cap : Nat) (h : 1 ≤ n) (W : World) :
    (Instr.slice 25 (.slice ao n cap) (some (.int .i64 1)) none none).run Try.prog W = .ok (.slice (if cap = 1 then ao else Option.map (fun x => x.add 7) ao) (n - 1) (cap - 1)) W := by
  have h1 : (0 : Int) ≤ 1 := by omega
  have h2 : (1 : Int) ≤ (n : Int) := by omega
  go_simp
theorem st_three {P : (Nat → Prop) → World → Prop} (hP : Framed P) {T : Nat → Prop} {w w1 : World} {A B C : Obj} (h : Upd P T w w1) (hs : w1.heap.size = w.heap.size) :
    Upd (Sep P (Locs [(w.heap.size + 1 + 1, C), (w.heap.size + 1, B), (w.heap.size, A)])) T w (((w1.alloc A).alloc B).alloc C) := by
  have h3 := (((h.imp fun _ h => Sep.nil h).loc hP A).loc hP B).loc hP C
  rw [show ((w1.alloc A).alloc B).heap.size = w.heap.size + 1 + 1 by simp [hs], show (w1.alloc A).heap.size = w.heap.size + 1 by simp [hs], hs] at h3
  exact h3
section
variable {P : (Nat → Prop) → World → Prop} {T : Nat → Prop} {w w1 : World} {pb qb rb : Nat} {tt tg mp op dk dv : Int} {wk : Bool} {A B : Obj}
abbrev resL (r : ResD) : List Value := [.int .i64 r.1, .bool r.2.1, .int .u64 r.2.2.1, .bool r.2.2.2.1, .int .u64 r.2.2.2.2.1, .int .u64 r.2.2.2.2.2]
theorem only_setCells (b : Nat) : ∀ (vs : List Value) (o : Nat) (w : World), Only (fun k => k = b) w (w.setCells b o vs)
  | [], _, _ => Only.refl _ _
  | v :: r, o, w => (Only.setCell (fun k => k = b) w b o v rfl).trans (only_setCells b r (o + 1) _) fun _ _ h => h
theorem set7 (r : ResD) (vp : Value) (h : w.heap[pb]? = some (repO tt tg wk mp op dk dv 0 false 0 false 0 0 vp)) : (w.setCells pb 7 (resL r)).heap[pb]? = some (repO tt tg wk mp op dk dv r.1 r.2.1 r.2.2.1 r.2.2.2.1 r.2.2.2.2.1 r.2.2.2.2.2 vp) :=
  blk_set (blk_set (blk_set (blk_set (blk_set (blk_set h 7 _) 8 _) 9 _) 10 _) 11 _) 12 _
theorem there7 (vp : Value) (h : w.heap[pb]? = some (repO tt tg wk mp op dk dv 0 false 0 false 0 0 vp)) : w.there pb 7 6 := fun j hj => by
  refine ⟨?_, by simp [World.frozen?, h]⟩
  rw [blk_cell h]
  rcases j with _ | _ | _ | _ | _ | _ | j <;> first | rfl | omega
theorem locs_pb (hP : Framed P) {C C' : Obj} (h : Upd (Sep P (Locs [(pb, C), (qb, B), (rb, A)])) T w w1) (hr : rb ≠ pb) (hq : qb ≠ pb) {w2 : World} (ho : Only (fun k => k = pb) w1 w2) (hc : w2.heap[pb]? = some C') :
    Upd (Sep P (Locs [(pb, C'), (qb, B), (rb, A)])) T w w2 := by
  have hqb := h.get (g := qb) (List.mem_cons_of_mem _ (List.mem_cons_self ..))
  have hrb := h.get (g := rb) (List.mem_cons_of_mem _ (List.mem_cons_of_mem _ (List.mem_cons_self ..)))
  refine h.locs hP (ho.mono fun k _ e => ⟨_, List.mem_cons_self .., e.symm⟩) fun p hp => ?_
  simp only [List.mem_cons, List.not_mem_nil, or_false] at hp
  rcases hp with rfl | rfl | rfl
  · exact ⟨hc, .inr ⟨_, List.mem_cons_self .., rfl⟩⟩
  · exact ⟨ho.heap hqb hq, .inr ⟨_, List.mem_cons_of_mem _ (List.mem_cons_self ..), rfl⟩⟩
  · exact ⟨ho.heap hrb hr, .inr ⟨_, List.mem_cons_of_mem _ (List.mem_cons_of_mem _ (List.mem_cons_self ..)), rfl⟩⟩
theorem locs_end (hP : Framed P) {C : Obj} (h : Upd (Sep P (Locs [(pb, C), (qb, B), (rb, A)])) T w w1) (cs : Array Value) : Upd P T w (w1.setRow rb cs) :=
  (h.locs hP (M := []) ((only_setRow _ rb cs).mono fun j _ e => ⟨_, List.mem_cons_of_mem _ (List.mem_cons_of_mem _ (List.mem_cons_self ..)), e.symm⟩) (fun p hp => by simp at hp)).drop hP
end
set_option maxRecDepth 100000 in
set_option maxHeartbeats 8000000 in
theorem step_wp {T : Nat → Prop} {w : World} {g : Nat} {sd n : Int} {ml : List MSh} {ss : List Sh} {rest : List ReqD} {en : Bool} {fr tg : Int} {i : Nat} {op dk dv : Int} (hT : OwnS g sd n ml ss ((fr, tg, true, (i : Int), op, dk, dv) :: rest) en T w) (h1 : i < ml.length) (h2 : i < ss.length) (G : OGood ml ss) {b : Nat} (hai : ml[i].1 = .plain b) :
    Calls Try.prog 12 #[.pointer (some ⟨g, 0, none⟩)] w fun e w' => ∃ vp, e = .returned (.tuple #[.agg #[.int .i64 fr, .int .i64 tg, .bool true, .int .i64 (i : Int), .int .i64 op, .int .u64 dk, .int .u64 dv, .int .i64 0, .bool false, .int .u64 0, .bool false, .int .u64 0, .int .u64 0, vp], .bool true]) ∧ Upd (Sep (OwnS g sd n ml ss rest en) (fun S w => OwS ePair 50 S w vp ss[i].1)) T w w' := by
  obtain ⟨vm, vl, hV⟩ := hT
  obtain ⟨⟨am, cm, rfl⟩, ⟨al, cl, rfl⟩⟩ := hV.shapes
  have HG := Lib.hid (show SGood false ml[i].2.2 ss[i] by have := G.good i h1 h2; rw [hai] at this; exact this)
  obtain ⟨sb, off, rfl, c1⟩ := hV.slot h1
  have hg := hV.obj.1
  have g2 : w.cell? ⟨g, 2, none⟩ = some (.slice (some ⟨sb, off, none⟩) ml.length cm) := blk_cell hg 2
  obtain ⟨lb, lo, rfl, q0, q1, q2, q3, q4, q5, q6⟩ := line_head hV.obj.2.2
  have HTL := Lib.hid (fun A (hA : Obj2 eSh eReq 83 72 37 (ownC sd n (.slice (some ⟨sb, off, none⟩) ml.length cm) (.slice (some ⟨lb, lo, none⟩) ((fr, tg, true, (i : Int), op, dk, dv) :: rest : List ReqD).length cl) en) g (.slice (some ⟨sb, off, none⟩) ml.length cm) (.slice (some ⟨lb, lo, none⟩) ((fr, tg, true, (i : Int), op, dk, dv) :: rest : List ReqD).length cl) (ml.map (·.1)) ((fr, tg, true, (i : Int), op, dk, dv) :: rest) A w) => hA.put2 (by decide) (by decide) hA.2.2.2.tail 3 rfl)
  obtain ⟨A0, hA0, hback0⟩ := hV.own
  have HU0 := Lib.hid (hback0 _ _ _ _ _ (HTL.out _ hA0))
  have g3 : w.cell? ⟨g, 3, none⟩ = some (.slice (some ⟨lb, lo, none⟩) ((fr, tg, true, (i : Int), op, dk, dv) :: rest : List ReqD).length cl) := blk_cell hg 3
  have f3 := frozen_of_row w g 3 _ _ hg
  have hgs : g < w.heap.size := heap_lt hg
  have hlbs : lb < w.heap.size := World.block_lt_of_cell? w _ q0
  have HAT := Lib.hid (show ∀ vl' A w, OwnV g sd n (.slice (some ⟨sb, off, none⟩) ml.length cm) vl' ml ss rest en A w → ∃ B, ShardS (.plain b) ml[i].2.2 ss[i] B w ∧ ∀ s' w', Upd (ShardS (.plain b) ml[i].2.2 s') B w w' → Upd (OwnV g sd n (.slice (some ⟨sb, off, none⟩) ml.length cm) vl' ml (ss.set i s') rest en) A w w' from fun vl' A w h => by
    have := h.at i h1 h2
    rwa [hai] at this)
  have HSL := Lib.hid (show ∀ vl' ss' A w, OwnV g sd n (.slice (some ⟨sb, off, none⟩) ml.length cm) vl' ml ss' rest en A w → w.cell? ⟨g, 2, none⟩ = some (.slice (some ⟨sb, off, none⟩) ml.length cm) ∧ w.cell? ⟨sb, off + i, none⟩ = some (.iface 96 (.pointer (some ⟨b, 0, none⟩))) from fun vl' ss' A w h => by
    obtain ⟨sb', off', he, hc⟩ := h.slot h1
    obtain ⟨rfl, rfl⟩ : sb = sb' ∧ off = off' := by simpa using he
    rw [hai] at hc
    exact ⟨blk_cell h.obj.1 2, hc⟩)
  rw [hai] at c1
  replace c1 : w.cell? ⟨sb, off + i, none⟩ = some (.iface 96 (.pointer (some ⟨b, 0, none⟩))) := c1
  have hcm := cm_book_pairs b
  have hi0 : (0 : Int) ≤ (i : Int) := by omega
  have hi1 : (i : Int) < (ml.length : Int) := by omega
  obtain ⟨L, hL⟩ : ∃ L, L = ((fr, tg, true, (i : Int), op, dk, dv) :: rest : List ReqD).length := ⟨_, rfl⟩
  have hL1 : 1 ≤ L := by rw [hL]; simp
  have hL0 : 0 < L := by omega
  have hL0i : (0 : Int) < (L : Int) := by omega
  have hLn : ((L : Int) == 0) = false := by simp; omega
  have hsl := slice_from1 (some ⟨lb, lo, none⟩) L cl hL1
  rw [← hL] at g3 HU0
  obtain ⟨a2, n2, c2, hvl2⟩ : ∃ a2 n2 c2, Value.slice a2 n2 c2 = Value.slice (if cl = 1 then (some ⟨lb, lo, none⟩ : Option Addr) else Option.map (fun x : Addr => x.add 7) (some (⟨lb, lo, none⟩ : Addr))) (L - 1) (cl - 1) := ⟨_, _, _, rfl⟩
  rw [← hvl2] at hsl
  have HU0' := Lib.hid (show Upd (OwnV g sd n (.slice (some ⟨sb, off, none⟩) ml.length cm) (.slice a2 n2 c2) ml ss rest en) T w (w.setCell ⟨g, 3, none⟩ (.slice a2 n2 c2)) by rw [hvl2]; exact HU0.out)
  clear hV hA0 hback0 HTL HU0 hg hai hL G hvl2
  have HKX := Lib.hid HSL.out
  go_enter Try.func12, Try.ntmps12
  go_wp2_with fail
  have HL3 := Lib.hid (st_three (A := repO 0 0 false 0 0 0 0 0 false 0 false 0 0 (.slice none 0 0)) (B := reqO fr tg true i op dk dv) (C := repO fr tg true i op dk dv 0 false 0 false 0 0 (.slice none 0 0)) OwnV.framed HU0'.out (by simp [World.setCell]))
  have HNE := Lib.hid (show w.heap.size ≠ w.heap.size + 1 + 1 ∧ w.heap.size + 1 ≠ w.heap.size + 1 + 1 by omega)
  generalize World.alloc (World.alloc (World.alloc _ _) _) _ = wa at *
  generalize w.heap.size + 1 + 1 = pb at *
  generalize w.heap.size + 1 = qb at *
  generalize w.heap.size = rb at *
  have HKP := Lib.hid (show ∀ (ss2 : List Sh) (C : Obj) W, Upd (Sep (OwnV g sd n (.slice (some ⟨sb, off, none⟩) ml.length cm) (.slice a2 n2 c2) ml ss rest en) (Locs [(pb, C), (qb, reqO fr tg true i op dk dv), (rb, repO 0 0 false 0 0 0 0 0 false 0 false 0 0 (.slice none 0 0))])) T w W → W.cell? ⟨g, 2, none⟩ = some (.slice (some ⟨sb, off, none⟩) ml.length cm) ∧ W.cell? ⟨sb, off + i, none⟩ = some (.iface 96 (.pointer (some ⟨b, 0, none⟩))) ∧ W.cell? ⟨qb, 3, none⟩ = some (.int .i64 (i : Int)) from fun ss2 C W h => by
    obtain ⟨_, h1⟩ := h.getL
    have hq := h.get (g := qb) (List.mem_cons_of_mem _ (List.mem_cons_self ..))
    exact ⟨(HSL.out _ _ _ _ h1).1, (HSL.out _ _ _ _ h1).2, blk_cell hq 3⟩)
  have HKP2 := Lib.hid (show ∀ (v : Value) (xs : List PairD) (ss2 : List Sh) (C : Obj) W, Upd (Sep (Sep (OwnV g sd n (.slice (some ⟨sb, off, none⟩) ml.length cm) (.slice a2 n2 c2) ml ss rest en) (fun S w => OwS ePair 50 S w v xs)) (Locs [(pb, C), (qb, reqO fr tg true i op dk dv), (rb, repO 0 0 false 0 0 0 0 0 false 0 false 0 0 (.slice none 0 0))])) T w W → W.cell? ⟨g, 2, none⟩ = some (.slice (some ⟨sb, off, none⟩) ml.length cm) ∧ W.cell? ⟨sb, off + i, none⟩ = some (.iface 96 (.pointer (some ⟨b, 0, none⟩))) ∧ W.cell? ⟨qb, 3, none⟩ = some (.int .i64 (i : Int)) from fun v xs ss2 C W h => HKP.out ss C W (h.imp fun _ h => h.imp (fun _ h => h.left OwnV.framed) fun _ h => h))
  refine wp_region_held_drew (S := fun W => W.cell? ⟨g, 2, none⟩ = some (.slice (some ⟨sb, off, none⟩) ml.length cm) ∧ W.cell? ⟨sb, off + i, none⟩ = some (.iface 96 (.pointer (some ⟨b, 0, none⟩))) ∧ W.cell? ⟨qb, 3, none⟩ = some (.int .i64 (i : Int))) (by kernel_rfl) ?_ (fun hHeld => ?_)
  · exact HKP.out ss _ _ (HL3.out.drewU (Sep.framed OwnV.framed Locs.framed))
  try simp only [Act.put, List.getElem_toArray, List.getElem_cons_succ, List.getElem_cons_zero, List.setIfInBounds_toArray, List.set_cons_zero, List.set_cons_succ]
  refine wpAnyH_take (i := 0) (v := ?vwp0) rfl (by kernel_rfl) (by kernel_rfl) (by kernel_rfl) (fun _ _ _ h => h) (Or.inl ⟨by rfl, ?hywp0⟩) (by assumption) ?restwp0
  case hywp0 =>
    intro w hSw
    try dsimp only at hSw
    go_simp
    all_goals with_reducible rfl
  simp only [Act.put, List.getElem_toArray, List.getElem_cons_succ, List.getElem_cons_zero, List.setIfInBounds_toArray, List.set_cons_zero, List.set_cons_succ]
  refine wpAnyH_take (i := 1) (v := ?vwp1) rfl (by kernel_rfl) (by kernel_rfl) (by kernel_rfl) (fun _ _ _ h => h) (Or.inl ⟨by rfl, ?hywp1⟩) (by assumption) ?restwp1
  case hywp1 =>
    intro w hSw
    try dsimp only at hSw
    go_simp
    all_goals with_reducible rfl
  simp only [Act.put, List.getElem_toArray, List.getElem_cons_succ, List.getElem_cons_zero, List.setIfInBounds_toArray, List.set_cons_zero, List.set_cons_succ]
  refine wpAnyH_take (i := 2) (v := ?vwp2) rfl (by kernel_rfl) (by kernel_rfl) (by kernel_rfl) (fun _ _ _ h => h) (Or.inl ⟨by rfl, ?hywp2⟩) (by assumption) ?restwp2
  case hywp2 =>
    intro w hSw
    try dsimp only at hSw
    go_simp
    all_goals with_reducible rfl
  simp only [Act.put, List.getElem_toArray, List.getElem_cons_succ, List.getElem_cons_zero, List.setIfInBounds_toArray, List.set_cons_zero, List.set_cons_succ]
  refine wpAnyH_take (i := 3) (v := ?vwp3) rfl (by kernel_rfl) (by kernel_rfl) (by kernel_rfl) (fun _ _ _ h => h) (Or.inl ⟨by rfl, ?hywp3⟩) (by assumption) ?restwp3
  case hywp3 =>
    intro w hSw
    try dsimp only at hSw
    go_simp
    all_goals with_reducible rfl
  simp only [Act.put, List.getElem_toArray, List.getElem_cons_succ, List.getElem_cons_zero, List.setIfInBounds_toArray, List.set_cons_zero, List.set_cons_succ]
  refine wpAnyH_take (i := 4) (v := ?vwp4) rfl (by kernel_rfl) (by kernel_rfl) (by kernel_rfl) (fun _ _ _ h => h) (Or.inl ⟨by rfl, ?hywp4⟩) (by assumption) ?restwp4
  case hywp4 =>
    intro w hSw
    try dsimp only at hSw
    go_simp
    all_goals with_reducible rfl
  simp only [Act.put, List.getElem_toArray, List.getElem_cons_succ, List.getElem_cons_zero, List.setIfInBounds_toArray, List.set_cons_zero, List.set_cons_succ]
  refine wpAnyH_take (i := 5) (v := ?vwp5) rfl (by kernel_rfl) (by kernel_rfl) (by kernel_rfl) (fun _ _ _ h => h) (Or.inl ⟨by rfl, ?hywp5⟩) (by assumption) ?restwp5
  case hywp5 =>
    intro w hSw
    try dsimp only at hSw
    go_simp
    all_goals with_reducible rfl
  simp only [Act.put, List.getElem_toArray, List.getElem_cons_succ, List.getElem_cons_zero, List.setIfInBounds_toArray, List.set_cons_zero, List.set_cons_succ]
  refine wpAnyH_take (i := 6) (v := ?vwp6) rfl (by kernel_rfl) (by kernel_rfl) (by kernel_rfl) (fun _ _ _ h => h) (Or.inl ⟨by rfl, ?hywp6⟩) (by assumption) ?restwp6
  case hywp6 =>
    intro w hSw
    try dsimp only at hSw
    go_simp
    all_goals with_reducible rfl
  simp only [Act.put, List.getElem_toArray, List.getElem_cons_succ, List.getElem_cons_zero, List.setIfInBounds_toArray, List.set_cons_zero, List.set_cons_succ]
  refine wpAnyH_take (i := 7) (v := ?vwp7) rfl (by kernel_rfl) (by kernel_rfl) (by kernel_rfl) (fun _ _ _ h => h) (Or.inl ⟨by rfl, ?hywp7⟩) (by assumption) ?restwp7
  case hywp7 =>
    intro w hSw
    try dsimp only at hSw
    go_simp
    all_goals with_reducible rfl
  simp only [Act.put, List.getElem_toArray, List.getElem_cons_succ, List.getElem_cons_zero, List.setIfInBounds_toArray, List.set_cons_zero, List.set_cons_succ]
  refine wpAnyH_take (i := 8) (v := ?vwp8) rfl (by kernel_rfl) (by kernel_rfl) (by kernel_rfl) (fun _ _ _ h => h) (Or.inl ⟨by rfl, ?hywp8⟩) (by assumption) ?restwp8
  case hywp8 =>
    intro w hSw
    try dsimp only at hSw
    go_simp
    all_goals with_reducible rfl
  simp only [Act.put, List.getElem_toArray, List.getElem_cons_succ, List.getElem_cons_zero, List.setIfInBounds_toArray, List.set_cons_zero, List.set_cons_succ]
  refine wpAnyH_ready (rs := [9]) (by kernel_rfl) (by simp) ?_
  refine AllReadyH.cons rfl (fun K hK => ?_) AllReadyH.nil
  go_simp
  obtain ⟨A, hA⟩ := (HL3.out.drewU (Sep.framed OwnV.framed Locs.framed)).getL
  obtain ⟨B, hB, -⟩ := HAT.out _ _ _ hA
  refine ((HL3.out.drewU (Sep.framed OwnV.framed Locs.framed)).callNew (Sep.framed OwnV.framed Locs.framed) (Yx := fun v S w => OwS ePair 50 S w v ss[i].1) (E := fun v e => e = .returned v) (fun _ => OwS.framed) (shPairs_plain hB HG.out)).mono ?_
  rintro e w1 ⟨vp, rfl, hN⟩
  obtain ⟨pa, pc, rfl⟩ : ∃ pa pc, vp = .slice pa ss[i].1.length pc := by
    obtain ⟨_, ⟨_, a, c, rfl, _⟩, _⟩ := hN.getR
    exact ⟨a, c, rfl⟩
  have HN := Lib.hid (show Upd (Sep (Sep (OwnV g sd n (.slice (some ⟨sb, off, none⟩) ml.length cm) (.slice a2 n2 c2) ml ss rest en) (fun S w => OwS ePair 50 S w (.slice pa ss[i].1.length pc) ss[i].1)) (Locs [(pb, repO fr tg true i op dk dv 0 false 0 false 0 0 (.slice none 0 0)), (qb, reqO fr tg true i op dk dv), (rb, repO 0 0 false 0 0 0 0 0 false 0 false 0 0 (.slice none 0 0))])) T w w1 from hN.imp fun _ h => (h.assoc.imp (fun _ h => h) fun _ h => h.swap).assoc')
  clear hN hA hB
  try go_wp2_with fail
  refine hK.out _ _ ?_ (fun hHeld => ?_)
  · exact HKP2.out _ _ ss _ _ HN.out
  clear hK K
  try simp only [Act.put, List.getElem_toArray, List.getElem_cons_succ, List.getElem_cons_zero, List.setIfInBounds_toArray, List.set_cons_zero, List.set_cons_succ]
  refine wpAnyH_take (i := 10) (v := ?vwp10) rfl (by kernel_rfl) (by kernel_rfl) (by kernel_rfl) (fun _ _ _ h => h) (Or.inl ⟨by rfl, ?hywp10⟩) (by assumption) ?restwp10
  case hywp10 =>
    intro w hSw
    try dsimp only at hSw
    go_simp
    all_goals with_reducible rfl
  simp only [Act.put, List.getElem_toArray, List.getElem_cons_succ, List.getElem_cons_zero, List.setIfInBounds_toArray, List.set_cons_zero, List.set_cons_succ]
  clear hHeld
  refine wpAnyH_ready (rs := [11]) (by kernel_rfl) (by simp) ?_
  refine AllReadyH.cons rfl (fun K hK => ?_) AllReadyH.nil
  have hpb := HN.out.get (g := pb) (List.mem_cons_self ..)
  have c13 : w1.cell? ⟨pb, 13, none⟩ = some (.slice none 0 0) := blk_cell hpb 13
  have f13 := frozen_of_row w1 pb 13 _ _ hpb
  have HN2 := Lib.hid (locs_pb (C' := repO fr tg true i op dk dv 0 false 0 false 0 0 (.slice pa ss[i].1.length pc)) (Sep.framed OwnV.framed OwS.framed) HN.out HNE.out.1 HNE.out.2 (Only.setCell (fun k => k = pb) w1 pb 13 (.slice pa ss[i].1.length pc) rfl) (blk_set hpb 13 _))
  clear hpb
  go_simp
  refine hK.out _ _ ?_ (fun hHeld => ?_)
  · exact HKP2.out _ _ ss _ _ HN2.out
  clear hK K hHeld c13 f13
  try simp only [Act.put, List.getElem_toArray, List.getElem_cons_succ, List.getElem_cons_zero, List.setIfInBounds_toArray, List.set_cons_zero, List.set_cons_succ]
  refine wpAnyH_done (by kernel_rfl) ?_ _
  have HPB := Lib.hid (HN2.out.get (g := pb) (List.mem_cons_self ..))
  have HRB := Lib.hid (HN2.out.get (g := rb) (List.mem_cons_of_mem _ (List.mem_cons_of_mem _ (List.mem_cons_self ..))))
  go_wp2_with (first | refine wpList_load_row rfl 44 (.tmp 5) rfl pb rfl 44 #[.int .i64 fr, .int .i64 tg, .bool true, .int .i64 (i : Int), .int .i64 op, .int .u64 dk, .int .u64 dv, .int .i64 0, .bool false, .int .u64 0, .bool false, .int .u64 0, .int .u64 0, .slice pa ss[i].1.length pc] (0, 0) _ HPB.out Try.underlying44 rfl (by kernel_rfl) ?_ | refine wpList_store_row rfl 44 (.tmp 2) (.tmp 69) rfl rb #[.int .i64 fr, .int .i64 tg, .bool true, .int .i64 (i : Int), .int .i64 op, .int .u64 dk, .int .u64 dv, .int .i64 0, .bool false, .int .u64 0, .bool false, .int .u64 0, .int .u64 0, .slice pa ss[i].1.length pc] rfl rfl 44 _ HRB.out (by kernel_rfl) rfl (by simp [Value.oneCell']) ?_)
  try simp only [Exit.inBlock, Exit.then]
  try go_wp2_with fail
  refine bodyPost_ret (results_cell_row_tmp rfl _ _ rb _ _ _ _ rfl (setRow_heap _ _ _ _ _ _ HRB.out) Try.underlying44 rfl (by kernel_rfl)) rfl ?_
  exact ⟨_, rfl, (locs_end (Sep.framed OwnV.framed OwS.framed) HN2.out _).imp fun _ h => h.imp (fun _ h => h.plain) fun _ h => h⟩
set_option maxRecDepth 100000 in
set_option maxHeartbeats 8000000 in
theorem step_wb {T : Nat → Prop} {w : World} {g : Nat} {sd n : Int} {ml : List MSh} {ss : List Sh} {rest : List ReqD} {en : Bool} {fr tg : Int} {i : Nat} {op dk dv : Int} (hT : OwnS g sd n ml ss ((fr, tg, true, (i : Int), op, dk, dv) :: rest) en T w) (h1 : i < ml.length) (h2 : i < ss.length) (G : OGood ml ss) {b0 b : Nat} (hai : ml[i].1 = .bound b0 b) :
    Calls Try.prog 12 #[.pointer (some ⟨g, 0, none⟩)] w fun e w' => ∃ vp, e = .returned (.tuple #[.agg #[.int .i64 fr, .int .i64 tg, .bool true, .int .i64 (i : Int), .int .i64 op, .int .u64 dk, .int .u64 dv, .int .i64 0, .bool false, .int .u64 0, .bool false, .int .u64 0, .int .u64 0, vp], .bool true]) ∧ Upd (Sep (OwnS g sd n ml ss rest en) (fun S w => OwS ePair 50 S w vp ss[i].1)) T w w' := by
  obtain ⟨vm, vl, hV⟩ := hT
  obtain ⟨⟨am, cm, rfl⟩, ⟨al, cl, rfl⟩⟩ := hV.shapes
  have HG := Lib.hid (show SGood true ml[i].2.2 ss[i] by have := G.good i h1 h2; rw [hai] at this; exact this)
  obtain ⟨sb, off, rfl, c1⟩ := hV.slot h1
  have hg := hV.obj.1
  have g2 : w.cell? ⟨g, 2, none⟩ = some (.slice (some ⟨sb, off, none⟩) ml.length cm) := blk_cell hg 2
  obtain ⟨lb, lo, rfl, q0, q1, q2, q3, q4, q5, q6⟩ := line_head hV.obj.2.2
  have HTL := Lib.hid (fun A (hA : Obj2 eSh eReq 83 72 37 (ownC sd n (.slice (some ⟨sb, off, none⟩) ml.length cm) (.slice (some ⟨lb, lo, none⟩) ((fr, tg, true, (i : Int), op, dk, dv) :: rest : List ReqD).length cl) en) g (.slice (some ⟨sb, off, none⟩) ml.length cm) (.slice (some ⟨lb, lo, none⟩) ((fr, tg, true, (i : Int), op, dk, dv) :: rest : List ReqD).length cl) (ml.map (·.1)) ((fr, tg, true, (i : Int), op, dk, dv) :: rest) A w) => hA.put2 (by decide) (by decide) hA.2.2.2.tail 3 rfl)
  obtain ⟨A0, hA0, hback0⟩ := hV.own
  have HU0 := Lib.hid (hback0 _ _ _ _ _ (HTL.out _ hA0))
  have g3 : w.cell? ⟨g, 3, none⟩ = some (.slice (some ⟨lb, lo, none⟩) ((fr, tg, true, (i : Int), op, dk, dv) :: rest : List ReqD).length cl) := blk_cell hg 3
  have f3 := frozen_of_row w g 3 _ _ hg
  have hgs : g < w.heap.size := heap_lt hg
  have hlbs : lb < w.heap.size := World.block_lt_of_cell? w _ q0
  have HAT := Lib.hid (show ∀ vl' A w, OwnV g sd n (.slice (some ⟨sb, off, none⟩) ml.length cm) vl' ml ss rest en A w → ∃ B, ShardS (.bound b0 b) ml[i].2.2 ss[i] B w ∧ ∀ s' w', Upd (ShardS (.bound b0 b) ml[i].2.2 s') B w w' → Upd (OwnV g sd n (.slice (some ⟨sb, off, none⟩) ml.length cm) vl' ml (ss.set i s') rest en) A w w' from fun vl' A w h => by
    have := h.at i h1 h2
    rwa [hai] at this)
  have HSL := Lib.hid (show ∀ vl' ss' A w, OwnV g sd n (.slice (some ⟨sb, off, none⟩) ml.length cm) vl' ml ss' rest en A w → w.cell? ⟨g, 2, none⟩ = some (.slice (some ⟨sb, off, none⟩) ml.length cm) ∧ w.cell? ⟨sb, off + i, none⟩ = some (.iface 99 (.pointer (some ⟨b0, 0, none⟩))) from fun vl' ss' A w h => by
    obtain ⟨sb', off', he, hc⟩ := h.slot h1
    obtain ⟨rfl, rfl⟩ : sb = sb' ∧ off = off' := by simpa using he
    rw [hai] at hc
    exact ⟨blk_cell h.obj.1 2, hc⟩)
  rw [hai] at c1
  replace c1 : w.cell? ⟨sb, off + i, none⟩ = some (.iface 99 (.pointer (some ⟨b0, 0, none⟩))) := c1
  have hi0 : (0 : Int) ≤ (i : Int) := by omega
  have hi1 : (i : Int) < (ml.length : Int) := by omega
  obtain ⟨L, hL⟩ : ∃ L, L = ((fr, tg, true, (i : Int), op, dk, dv) :: rest : List ReqD).length := ⟨_, rfl⟩
  have hL1 : 1 ≤ L := by rw [hL]; simp
  have hL0 : 0 < L := by omega
  have hL0i : (0 : Int) < (L : Int) := by omega
  have hLn : ((L : Int) == 0) = false := by simp; omega
  have hsl := slice_from1 (some ⟨lb, lo, none⟩) L cl hL1
  rw [← hL] at g3 HU0
  obtain ⟨a2, n2, c2, hvl2⟩ : ∃ a2 n2 c2, Value.slice a2 n2 c2 = Value.slice (if cl = 1 then (some ⟨lb, lo, none⟩ : Option Addr) else Option.map (fun x : Addr => x.add 7) (some (⟨lb, lo, none⟩ : Addr))) (L - 1) (cl - 1) := ⟨_, _, _, rfl⟩
  rw [← hvl2] at hsl
  have HU0' := Lib.hid (show Upd (OwnV g sd n (.slice (some ⟨sb, off, none⟩) ml.length cm) (.slice a2 n2 c2) ml ss rest en) T w (w.setCell ⟨g, 3, none⟩ (.slice a2 n2 c2)) by rw [hvl2]; exact HU0.out)
  clear hV hA0 hback0 HTL HU0 hg hai hL G hvl2
  have HKX := Lib.hid HSL.out
  go_enter Try.func12, Try.ntmps12
  go_wp2_with fail
  have HL3 := Lib.hid (st_three (A := repO 0 0 false 0 0 0 0 0 false 0 false 0 0 (.slice none 0 0)) (B := reqO fr tg true i op dk dv) (C := repO fr tg true i op dk dv 0 false 0 false 0 0 (.slice none 0 0)) OwnV.framed HU0'.out (by simp [World.setCell]))
  have HNE := Lib.hid (show w.heap.size ≠ w.heap.size + 1 + 1 ∧ w.heap.size + 1 ≠ w.heap.size + 1 + 1 by omega)
  generalize World.alloc (World.alloc (World.alloc _ _) _) _ = wa at *
  generalize w.heap.size + 1 + 1 = pb at *
  generalize w.heap.size + 1 = qb at *
  generalize w.heap.size = rb at *
  have HKP := Lib.hid (show ∀ (ss2 : List Sh) (C : Obj) W, Upd (Sep (OwnV g sd n (.slice (some ⟨sb, off, none⟩) ml.length cm) (.slice a2 n2 c2) ml ss rest en) (Locs [(pb, C), (qb, reqO fr tg true i op dk dv), (rb, repO 0 0 false 0 0 0 0 0 false 0 false 0 0 (.slice none 0 0))])) T w W → W.cell? ⟨g, 2, none⟩ = some (.slice (some ⟨sb, off, none⟩) ml.length cm) ∧ W.cell? ⟨sb, off + i, none⟩ = some (.iface 99 (.pointer (some ⟨b0, 0, none⟩))) ∧ W.cell? ⟨qb, 3, none⟩ = some (.int .i64 (i : Int)) ∧ W.cell? ⟨b0, 0, none⟩ = some (.pointer (some ⟨b, 0, none⟩)) from fun ss2 C W h => by
    obtain ⟨_, h1⟩ := h.getL
    have hq := h.get (g := qb) (List.mem_cons_of_mem _ (List.mem_cons_self ..))
    exact ⟨(HSL.out _ _ _ _ h1).1, (HSL.out _ _ _ _ h1).2, blk_cell hq 3, by
      obtain ⟨_, hB, -⟩ := HAT.out _ _ _ h1
      exact hB.ptr⟩)
  have HKP2 := Lib.hid (show ∀ (v : Value) (xs : List PairD) (ss2 : List Sh) (C : Obj) W, Upd (Sep (Sep (OwnV g sd n (.slice (some ⟨sb, off, none⟩) ml.length cm) (.slice a2 n2 c2) ml ss rest en) (fun S w => OwS ePair 50 S w v xs)) (Locs [(pb, C), (qb, reqO fr tg true i op dk dv), (rb, repO 0 0 false 0 0 0 0 0 false 0 false 0 0 (.slice none 0 0))])) T w W → W.cell? ⟨g, 2, none⟩ = some (.slice (some ⟨sb, off, none⟩) ml.length cm) ∧ W.cell? ⟨sb, off + i, none⟩ = some (.iface 99 (.pointer (some ⟨b0, 0, none⟩))) ∧ W.cell? ⟨qb, 3, none⟩ = some (.int .i64 (i : Int)) ∧ W.cell? ⟨b0, 0, none⟩ = some (.pointer (some ⟨b, 0, none⟩)) from fun v xs ss2 C W h => HKP.out ss C W (h.imp fun _ h => h.imp (fun _ h => h.left OwnV.framed) fun _ h => h))
  refine wp_region_held_drew (S := fun W => W.cell? ⟨g, 2, none⟩ = some (.slice (some ⟨sb, off, none⟩) ml.length cm) ∧ W.cell? ⟨sb, off + i, none⟩ = some (.iface 99 (.pointer (some ⟨b0, 0, none⟩))) ∧ W.cell? ⟨qb, 3, none⟩ = some (.int .i64 (i : Int)) ∧ W.cell? ⟨b0, 0, none⟩ = some (.pointer (some ⟨b, 0, none⟩))) (by kernel_rfl) ?_ (fun hHeld => ?_)
  · exact HKP.out ss _ _ (HL3.out.drewU (Sep.framed OwnV.framed Locs.framed))
  try simp only [Act.put, List.getElem_toArray, List.getElem_cons_succ, List.getElem_cons_zero, List.setIfInBounds_toArray, List.set_cons_zero, List.set_cons_succ]
  refine wpAnyH_take (i := 0) (v := ?vwb0) rfl (by kernel_rfl) (by kernel_rfl) (by kernel_rfl) (fun _ _ _ h => h) (Or.inl ⟨by rfl, ?hywb0⟩) (by assumption) ?restwb0
  case hywb0 =>
    intro w hSw
    try dsimp only at hSw
    go_simp
    all_goals with_reducible rfl
  simp only [Act.put, List.getElem_toArray, List.getElem_cons_succ, List.getElem_cons_zero, List.setIfInBounds_toArray, List.set_cons_zero, List.set_cons_succ]
  refine wpAnyH_take (i := 1) (v := ?vwb1) rfl (by kernel_rfl) (by kernel_rfl) (by kernel_rfl) (fun _ _ _ h => h) (Or.inl ⟨by rfl, ?hywb1⟩) (by assumption) ?restwb1
  case hywb1 =>
    intro w hSw
    try dsimp only at hSw
    go_simp
    all_goals with_reducible rfl
  simp only [Act.put, List.getElem_toArray, List.getElem_cons_succ, List.getElem_cons_zero, List.setIfInBounds_toArray, List.set_cons_zero, List.set_cons_succ]
  refine wpAnyH_take (i := 2) (v := ?vwb2) rfl (by kernel_rfl) (by kernel_rfl) (by kernel_rfl) (fun _ _ _ h => h) (Or.inl ⟨by rfl, ?hywb2⟩) (by assumption) ?restwb2
  case hywb2 =>
    intro w hSw
    try dsimp only at hSw
    go_simp
    all_goals with_reducible rfl
  simp only [Act.put, List.getElem_toArray, List.getElem_cons_succ, List.getElem_cons_zero, List.setIfInBounds_toArray, List.set_cons_zero, List.set_cons_succ]
  refine wpAnyH_take (i := 3) (v := ?vwb3) rfl (by kernel_rfl) (by kernel_rfl) (by kernel_rfl) (fun _ _ _ h => h) (Or.inl ⟨by rfl, ?hywb3⟩) (by assumption) ?restwb3
  case hywb3 =>
    intro w hSw
    try dsimp only at hSw
    go_simp
    all_goals with_reducible rfl
  simp only [Act.put, List.getElem_toArray, List.getElem_cons_succ, List.getElem_cons_zero, List.setIfInBounds_toArray, List.set_cons_zero, List.set_cons_succ]
  refine wpAnyH_take (i := 4) (v := ?vwb4) rfl (by kernel_rfl) (by kernel_rfl) (by kernel_rfl) (fun _ _ _ h => h) (Or.inl ⟨by rfl, ?hywb4⟩) (by assumption) ?restwb4
  case hywb4 =>
    intro w hSw
    try dsimp only at hSw
    go_simp
    all_goals with_reducible rfl
  simp only [Act.put, List.getElem_toArray, List.getElem_cons_succ, List.getElem_cons_zero, List.setIfInBounds_toArray, List.set_cons_zero, List.set_cons_succ]
  refine wpAnyH_take (i := 5) (v := ?vwb5) rfl (by kernel_rfl) (by kernel_rfl) (by kernel_rfl) (fun _ _ _ h => h) (Or.inl ⟨by rfl, ?hywb5⟩) (by assumption) ?restwb5
  case hywb5 =>
    intro w hSw
    try dsimp only at hSw
    go_simp
    all_goals with_reducible rfl
  simp only [Act.put, List.getElem_toArray, List.getElem_cons_succ, List.getElem_cons_zero, List.setIfInBounds_toArray, List.set_cons_zero, List.set_cons_succ]
  refine wpAnyH_take (i := 6) (v := ?vwb6) rfl (by kernel_rfl) (by kernel_rfl) (by kernel_rfl) (fun _ _ _ h => h) (Or.inl ⟨by rfl, ?hywb6⟩) (by assumption) ?restwb6
  case hywb6 =>
    intro w hSw
    try dsimp only at hSw
    go_simp
    all_goals with_reducible rfl
  simp only [Act.put, List.getElem_toArray, List.getElem_cons_succ, List.getElem_cons_zero, List.setIfInBounds_toArray, List.set_cons_zero, List.set_cons_succ]
  refine wpAnyH_take (i := 7) (v := ?vwb7) rfl (by kernel_rfl) (by kernel_rfl) (by kernel_rfl) (fun _ _ _ h => h) (Or.inl ⟨by rfl, ?hywb7⟩) (by assumption) ?restwb7
  case hywb7 =>
    intro w hSw
    try dsimp only at hSw
    go_simp
    all_goals with_reducible rfl
  simp only [Act.put, List.getElem_toArray, List.getElem_cons_succ, List.getElem_cons_zero, List.setIfInBounds_toArray, List.set_cons_zero, List.set_cons_succ]
  refine wpAnyH_take (i := 8) (v := ?vwb8) rfl (by kernel_rfl) (by kernel_rfl) (by kernel_rfl) (fun _ _ _ h => h) (Or.inl ⟨by rfl, ?hywb8⟩) (by assumption) ?restwb8
  case hywb8 =>
    intro w hSw
    try dsimp only at hSw
    go_simp
    all_goals with_reducible rfl
  simp only [Act.put, List.getElem_toArray, List.getElem_cons_succ, List.getElem_cons_zero, List.setIfInBounds_toArray, List.set_cons_zero, List.set_cons_succ]
  refine wpAnyH_ready (rs := [9]) (by kernel_rfl) (by simp) ?_
  refine AllReadyH.cons rfl (fun K hK => ?_) AllReadyH.nil
  go_simp
  rw [cm_lru_n b0 b _ hHeld.2.2.2 "Pairs" 58 (by kernel_rfl) (by kernel_rfl)]
  go_wp2_with fail
  obtain ⟨A, hA⟩ := (HL3.out.drewU (Sep.framed OwnV.framed Locs.framed)).getL
  obtain ⟨B, hB, -⟩ := HAT.out _ _ _ hA
  refine ((HL3.out.drewU (Sep.framed OwnV.framed Locs.framed)).callNew (Sep.framed OwnV.framed Locs.framed) (Yx := fun v S w => OwS ePair 50 S w v ss[i].1) (E := fun v e => e = .returned v) (fun _ => OwS.framed) (shPairs_bound hB HG.out)).mono ?_
  rintro e w1 ⟨vp, rfl, hN⟩
  obtain ⟨pa, pc, rfl⟩ : ∃ pa pc, vp = .slice pa ss[i].1.length pc := by
    obtain ⟨_, ⟨_, a, c, rfl, _⟩, _⟩ := hN.getR
    exact ⟨a, c, rfl⟩
  have HN := Lib.hid (show Upd (Sep (Sep (OwnV g sd n (.slice (some ⟨sb, off, none⟩) ml.length cm) (.slice a2 n2 c2) ml ss rest en) (fun S w => OwS ePair 50 S w (.slice pa ss[i].1.length pc) ss[i].1)) (Locs [(pb, repO fr tg true i op dk dv 0 false 0 false 0 0 (.slice none 0 0)), (qb, reqO fr tg true i op dk dv), (rb, repO 0 0 false 0 0 0 0 0 false 0 false 0 0 (.slice none 0 0))])) T w w1 from hN.imp fun _ h => (h.assoc.imp (fun _ h => h) fun _ h => h.swap).assoc')
  clear hN hA hB
  try go_wp2_with fail
  refine hK.out _ _ ?_ (fun hHeld => ?_)
  · exact HKP2.out _ _ ss _ _ HN.out
  clear hK K
  try simp only [Act.put, List.getElem_toArray, List.getElem_cons_succ, List.getElem_cons_zero, List.setIfInBounds_toArray, List.set_cons_zero, List.set_cons_succ]
  refine wpAnyH_take (i := 10) (v := ?vwb10) rfl (by kernel_rfl) (by kernel_rfl) (by kernel_rfl) (fun _ _ _ h => h) (Or.inl ⟨by rfl, ?hywb10⟩) (by assumption) ?restwb10
  case hywb10 =>
    intro w hSw
    try dsimp only at hSw
    go_simp
    all_goals with_reducible rfl
  simp only [Act.put, List.getElem_toArray, List.getElem_cons_succ, List.getElem_cons_zero, List.setIfInBounds_toArray, List.set_cons_zero, List.set_cons_succ]
  clear hHeld
  refine wpAnyH_ready (rs := [11]) (by kernel_rfl) (by simp) ?_
  refine AllReadyH.cons rfl (fun K hK => ?_) AllReadyH.nil
  have hpb := HN.out.get (g := pb) (List.mem_cons_self ..)
  have c13 : w1.cell? ⟨pb, 13, none⟩ = some (.slice none 0 0) := blk_cell hpb 13
  have f13 := frozen_of_row w1 pb 13 _ _ hpb
  have HN2 := Lib.hid (locs_pb (C' := repO fr tg true i op dk dv 0 false 0 false 0 0 (.slice pa ss[i].1.length pc)) (Sep.framed OwnV.framed OwS.framed) HN.out HNE.out.1 HNE.out.2 (Only.setCell (fun k => k = pb) w1 pb 13 (.slice pa ss[i].1.length pc) rfl) (blk_set hpb 13 _))
  clear hpb
  go_simp
  refine hK.out _ _ ?_ (fun hHeld => ?_)
  · exact HKP2.out _ _ ss _ _ HN2.out
  clear hK K hHeld c13 f13
  try simp only [Act.put, List.getElem_toArray, List.getElem_cons_succ, List.getElem_cons_zero, List.setIfInBounds_toArray, List.set_cons_zero, List.set_cons_succ]
  refine wpAnyH_done (by kernel_rfl) ?_ _
  have HPB := Lib.hid (HN2.out.get (g := pb) (List.mem_cons_self ..))
  have HRB := Lib.hid (HN2.out.get (g := rb) (List.mem_cons_of_mem _ (List.mem_cons_of_mem _ (List.mem_cons_self ..))))
  go_wp2_with (first | refine wpList_load_row rfl 44 (.tmp 5) rfl pb rfl 44 #[.int .i64 fr, .int .i64 tg, .bool true, .int .i64 (i : Int), .int .i64 op, .int .u64 dk, .int .u64 dv, .int .i64 0, .bool false, .int .u64 0, .bool false, .int .u64 0, .int .u64 0, .slice pa ss[i].1.length pc] (0, 0) _ HPB.out Try.underlying44 rfl (by kernel_rfl) ?_ | refine wpList_store_row rfl 44 (.tmp 2) (.tmp 69) rfl rb #[.int .i64 fr, .int .i64 tg, .bool true, .int .i64 (i : Int), .int .i64 op, .int .u64 dk, .int .u64 dv, .int .i64 0, .bool false, .int .u64 0, .bool false, .int .u64 0, .int .u64 0, .slice pa ss[i].1.length pc] rfl rfl 44 _ HRB.out (by kernel_rfl) rfl (by simp [Value.oneCell']) ?_)
  try simp only [Exit.inBlock, Exit.then]
  try go_wp2_with fail
  refine bodyPost_ret (results_cell_row_tmp rfl _ _ rb _ _ _ _ rfl (setRow_heap _ _ _ _ _ _ HRB.out) Try.underlying44 rfl (by kernel_rfl)) rfl ?_
  exact ⟨_, rfl, (locs_end (Sep.framed OwnV.framed OwS.framed) HN2.out _).imp fun _ h => h.imp (fun _ h => h.plain) fun _ h => h⟩
set_option maxRecDepth 100000 in
set_option maxHeartbeats 8000000 in
theorem step_dp {T : Nat → Prop} {w : World} {g : Nat} {sd n : Int} {ml : List MSh} {ss : List Sh} {rest : List ReqD} {en : Bool} {fr tg : Int} {i : Nat} {op dk dv : Int} (hT : OwnS g sd n ml ss ((fr, tg, false, (i : Int), op, dk, dv) :: rest) en T w) (h1 : i < ml.length) (h2 : i < ss.length) (G : OGood ml ss) {b : Nat} (hai : ml[i].1 = .plain b) {r : ResD} {s' : Sh} (hd : shP false ml[i].2.2 ss[i] op dk dv = (r, s')) :
    Calls Try.prog 12 #[.pointer (some ⟨g, 0, none⟩)] w fun e w' => e = .returned (.tuple #[.agg #[.int .i64 fr, .int .i64 tg, .bool false, .int .i64 (i : Int), .int .i64 op, .int .u64 dk, .int .u64 dv, .int .i64 r.1, .bool r.2.1, .int .u64 r.2.2.1, .bool r.2.2.2.1, .int .u64 r.2.2.2.2.1, .int .u64 r.2.2.2.2.2, .slice none 0 0], .bool true]) ∧ Upd (OwnS g sd n ml (ss.set i s') rest en) T w w' := by
  obtain ⟨vm, vl, hV⟩ := hT
  obtain ⟨⟨am, cm, rfl⟩, ⟨al, cl, rfl⟩⟩ := hV.shapes
  have HG := Lib.hid (show SGood false ml[i].2.2 ss[i] by have := G.good i h1 h2; rw [hai] at this; exact this)
  obtain ⟨sb, off, rfl, c1⟩ := hV.slot h1
  have hg := hV.obj.1
  have g2 : w.cell? ⟨g, 2, none⟩ = some (.slice (some ⟨sb, off, none⟩) ml.length cm) := blk_cell hg 2
  obtain ⟨lb, lo, rfl, q0, q1, q2, q3, q4, q5, q6⟩ := line_head hV.obj.2.2
  have HTL := Lib.hid (fun A (hA : Obj2 eSh eReq 83 72 37 (ownC sd n (.slice (some ⟨sb, off, none⟩) ml.length cm) (.slice (some ⟨lb, lo, none⟩) ((fr, tg, false, (i : Int), op, dk, dv) :: rest : List ReqD).length cl) en) g (.slice (some ⟨sb, off, none⟩) ml.length cm) (.slice (some ⟨lb, lo, none⟩) ((fr, tg, false, (i : Int), op, dk, dv) :: rest : List ReqD).length cl) (ml.map (·.1)) ((fr, tg, false, (i : Int), op, dk, dv) :: rest) A w) => hA.put2 (by decide) (by decide) hA.2.2.2.tail 3 rfl)
  obtain ⟨A0, hA0, hback0⟩ := hV.own
  have HU0 := Lib.hid (hback0 _ _ _ _ _ (HTL.out _ hA0))
  have g3 : w.cell? ⟨g, 3, none⟩ = some (.slice (some ⟨lb, lo, none⟩) ((fr, tg, false, (i : Int), op, dk, dv) :: rest : List ReqD).length cl) := blk_cell hg 3
  have f3 := frozen_of_row w g 3 _ _ hg
  have hgs : g < w.heap.size := heap_lt hg
  have hlbs : lb < w.heap.size := World.block_lt_of_cell? w _ q0
  have HAT := Lib.hid (show ∀ vl' A w, OwnV g sd n (.slice (some ⟨sb, off, none⟩) ml.length cm) vl' ml ss rest en A w → ∃ B, ShardS (.plain b) ml[i].2.2 ss[i] B w ∧ ∀ s' w', Upd (ShardS (.plain b) ml[i].2.2 s') B w w' → Upd (OwnV g sd n (.slice (some ⟨sb, off, none⟩) ml.length cm) vl' ml (ss.set i s') rest en) A w w' from fun vl' A w h => by
    have := h.at i h1 h2
    rwa [hai] at this)
  have HSL := Lib.hid (show ∀ vl' ss' A w, OwnV g sd n (.slice (some ⟨sb, off, none⟩) ml.length cm) vl' ml ss' rest en A w → w.cell? ⟨g, 2, none⟩ = some (.slice (some ⟨sb, off, none⟩) ml.length cm) ∧ w.cell? ⟨sb, off + i, none⟩ = some (.iface 96 (.pointer (some ⟨b, 0, none⟩))) from fun vl' ss' A w h => by
    obtain ⟨sb', off', he, hc⟩ := h.slot h1
    obtain ⟨rfl, rfl⟩ : sb = sb' ∧ off = off' := by simpa using he
    rw [hai] at hc
    exact ⟨blk_cell h.obj.1 2, hc⟩)
  rw [hai] at c1
  replace c1 : w.cell? ⟨sb, off + i, none⟩ = some (.iface 96 (.pointer (some ⟨b, 0, none⟩))) := c1
  have HD := Lib.hid (show shP false ml[i].2.2 ss[i] op dk dv = (r, s') from hd)
  have hcm := cm_book_do b op dk dv
  have hi0 : (0 : Int) ≤ (i : Int) := by omega
  have hi1 : (i : Int) < (ml.length : Int) := by omega
  obtain ⟨L, hL⟩ : ∃ L, L = ((fr, tg, false, (i : Int), op, dk, dv) :: rest : List ReqD).length := ⟨_, rfl⟩
  have hL1 : 1 ≤ L := by rw [hL]; simp
  have hL0 : 0 < L := by omega
  have hL0i : (0 : Int) < (L : Int) := by omega
  have hLn : ((L : Int) == 0) = false := by simp; omega
  have hsl := slice_from1 (some ⟨lb, lo, none⟩) L cl hL1
  rw [← hL] at g3 HU0
  obtain ⟨a2, n2, c2, hvl2⟩ : ∃ a2 n2 c2, Value.slice a2 n2 c2 = Value.slice (if cl = 1 then (some ⟨lb, lo, none⟩ : Option Addr) else Option.map (fun x : Addr => x.add 7) (some (⟨lb, lo, none⟩ : Addr))) (L - 1) (cl - 1) := ⟨_, _, _, rfl⟩
  rw [← hvl2] at hsl
  have HU0' := Lib.hid (show Upd (OwnV g sd n (.slice (some ⟨sb, off, none⟩) ml.length cm) (.slice a2 n2 c2) ml ss rest en) T w (w.setCell ⟨g, 3, none⟩ (.slice a2 n2 c2)) by rw [hvl2]; exact HU0.out)
  clear hV hA0 hback0 HTL HU0 hg hai hL G hvl2 hd
  have HKX := Lib.hid HSL.out
  go_enter Try.func12, Try.ntmps12
  go_wp2_with fail
  have HL3 := Lib.hid (st_three (A := repO 0 0 false 0 0 0 0 0 false 0 false 0 0 (.slice none 0 0)) (B := reqO fr tg false i op dk dv) (C := repO fr tg false i op dk dv 0 false 0 false 0 0 (.slice none 0 0)) OwnV.framed HU0'.out (by simp [World.setCell]))
  have HNE := Lib.hid (show w.heap.size ≠ w.heap.size + 1 + 1 ∧ w.heap.size + 1 ≠ w.heap.size + 1 + 1 by omega)
  generalize World.alloc (World.alloc (World.alloc _ _) _) _ = wa at *
  generalize w.heap.size + 1 + 1 = pb at *
  generalize w.heap.size + 1 = qb at *
  generalize w.heap.size = rb at *
  have HKP := Lib.hid (show ∀ (ss2 : List Sh) (C : Obj) W, Upd (Sep (OwnV g sd n (.slice (some ⟨sb, off, none⟩) ml.length cm) (.slice a2 n2 c2) ml ss2 rest en) (Locs [(pb, C), (qb, reqO fr tg false i op dk dv), (rb, repO 0 0 false 0 0 0 0 0 false 0 false 0 0 (.slice none 0 0))])) T w W → W.cell? ⟨g, 2, none⟩ = some (.slice (some ⟨sb, off, none⟩) ml.length cm) ∧ W.cell? ⟨sb, off + i, none⟩ = some (.iface 96 (.pointer (some ⟨b, 0, none⟩))) ∧ W.cell? ⟨qb, 3, none⟩ = some (.int .i64 (i : Int)) ∧ W.cell? ⟨qb, 4, none⟩ = some (.int .i64 op) ∧ W.cell? ⟨qb, 5, none⟩ = some (.int .u64 dk) ∧ W.cell? ⟨qb, 6, none⟩ = some (.int .u64 dv) from fun ss2 C W h => by
    obtain ⟨_, h1⟩ := h.getL
    have hq := h.get (g := qb) (List.mem_cons_of_mem _ (List.mem_cons_self ..))
    exact ⟨(HSL.out _ _ _ _ h1).1, (HSL.out _ _ _ _ h1).2, blk_cell hq 3, blk_cell hq 4, blk_cell hq 5, blk_cell hq 6⟩)
  refine wp_region_held_drew (S := fun W => W.cell? ⟨g, 2, none⟩ = some (.slice (some ⟨sb, off, none⟩) ml.length cm) ∧ W.cell? ⟨sb, off + i, none⟩ = some (.iface 96 (.pointer (some ⟨b, 0, none⟩))) ∧ W.cell? ⟨qb, 3, none⟩ = some (.int .i64 (i : Int)) ∧ W.cell? ⟨qb, 4, none⟩ = some (.int .i64 op) ∧ W.cell? ⟨qb, 5, none⟩ = some (.int .u64 dk) ∧ W.cell? ⟨qb, 6, none⟩ = some (.int .u64 dv)) (by kernel_rfl) ?_ (fun hHeld => ?_)
  · exact HKP.out ss _ _ (HL3.out.drewU (Sep.framed OwnV.framed Locs.framed))
  try simp only [Act.put, List.getElem_toArray, List.getElem_cons_succ, List.getElem_cons_zero, List.setIfInBounds_toArray, List.set_cons_zero, List.set_cons_succ]
  refine wpAnyH_take (i := 0) (v := ?vdp0) rfl (by kernel_rfl) (by kernel_rfl) (by kernel_rfl) (fun _ _ _ h => h) (Or.inl ⟨by rfl, ?hydp0⟩) (by assumption) ?restdp0
  case hydp0 =>
    intro w hSw
    try dsimp only at hSw
    go_simp
    all_goals with_reducible rfl
  simp only [Act.put, List.getElem_toArray, List.getElem_cons_succ, List.getElem_cons_zero, List.setIfInBounds_toArray, List.set_cons_zero, List.set_cons_succ]
  refine wpAnyH_take (i := 1) (v := ?vdp1) rfl (by kernel_rfl) (by kernel_rfl) (by kernel_rfl) (fun _ _ _ h => h) (Or.inl ⟨by rfl, ?hydp1⟩) (by assumption) ?restdp1
  case hydp1 =>
    intro w hSw
    try dsimp only at hSw
    go_simp
    all_goals with_reducible rfl
  simp only [Act.put, List.getElem_toArray, List.getElem_cons_succ, List.getElem_cons_zero, List.setIfInBounds_toArray, List.set_cons_zero, List.set_cons_succ]
  refine wpAnyH_take (i := 2) (v := ?vdp2) rfl (by kernel_rfl) (by kernel_rfl) (by kernel_rfl) (fun _ _ _ h => h) (Or.inl ⟨by rfl, ?hydp2⟩) (by assumption) ?restdp2
  case hydp2 =>
    intro w hSw
    try dsimp only at hSw
    go_simp
    all_goals with_reducible rfl
  simp only [Act.put, List.getElem_toArray, List.getElem_cons_succ, List.getElem_cons_zero, List.setIfInBounds_toArray, List.set_cons_zero, List.set_cons_succ]
  refine wpAnyH_take (i := 3) (v := ?vdp3) rfl (by kernel_rfl) (by kernel_rfl) (by kernel_rfl) (fun _ _ _ h => h) (Or.inl ⟨by rfl, ?hydp3⟩) (by assumption) ?restdp3
  case hydp3 =>
    intro w hSw
    try dsimp only at hSw
    go_simp
    all_goals with_reducible rfl
  simp only [Act.put, List.getElem_toArray, List.getElem_cons_succ, List.getElem_cons_zero, List.setIfInBounds_toArray, List.set_cons_zero, List.set_cons_succ]
  refine wpAnyH_take (i := 4) (v := ?vdp4) rfl (by kernel_rfl) (by kernel_rfl) (by kernel_rfl) (fun _ _ _ h => h) (Or.inl ⟨by rfl, ?hydp4⟩) (by assumption) ?restdp4
  case hydp4 =>
    intro w hSw
    try dsimp only at hSw
    go_simp
    all_goals with_reducible rfl
  simp only [Act.put, List.getElem_toArray, List.getElem_cons_succ, List.getElem_cons_zero, List.setIfInBounds_toArray, List.set_cons_zero, List.set_cons_succ]
  refine wpAnyH_take (i := 5) (v := ?vdp5) rfl (by kernel_rfl) (by kernel_rfl) (by kernel_rfl) (fun _ _ _ h => h) (Or.inl ⟨by rfl, ?hydp5⟩) (by assumption) ?restdp5
  case hydp5 =>
    intro w hSw
    try dsimp only at hSw
    go_simp
    all_goals with_reducible rfl
  simp only [Act.put, List.getElem_toArray, List.getElem_cons_succ, List.getElem_cons_zero, List.setIfInBounds_toArray, List.set_cons_zero, List.set_cons_succ]
  refine wpAnyH_take (i := 6) (v := ?vdp6) rfl (by kernel_rfl) (by kernel_rfl) (by kernel_rfl) (fun _ _ _ h => h) (Or.inl ⟨by rfl, ?hydp6⟩) (by assumption) ?restdp6
  case hydp6 =>
    intro w hSw
    try dsimp only at hSw
    go_simp
    all_goals with_reducible rfl
  simp only [Act.put, List.getElem_toArray, List.getElem_cons_succ, List.getElem_cons_zero, List.setIfInBounds_toArray, List.set_cons_zero, List.set_cons_succ]
  refine wpAnyH_take (i := 7) (v := ?vdp7) rfl (by kernel_rfl) (by kernel_rfl) (by kernel_rfl) (fun _ _ _ h => h) (Or.inl ⟨by rfl, ?hydp7⟩) (by assumption) ?restdp7
  case hydp7 =>
    intro w hSw
    try dsimp only at hSw
    go_simp
    all_goals with_reducible rfl
  simp only [Act.put, List.getElem_toArray, List.getElem_cons_succ, List.getElem_cons_zero, List.setIfInBounds_toArray, List.set_cons_zero, List.set_cons_succ]
  refine wpAnyH_take (i := 8) (v := ?vdp8) rfl (by kernel_rfl) (by kernel_rfl) (by kernel_rfl) (fun _ _ _ h => h) (Or.inl ⟨by rfl, ?hydp8⟩) (by assumption) ?restdp8
  case hydp8 =>
    intro w hSw
    try dsimp only at hSw
    go_simp
    all_goals with_reducible rfl
  simp only [Act.put, List.getElem_toArray, List.getElem_cons_succ, List.getElem_cons_zero, List.setIfInBounds_toArray, List.set_cons_zero, List.set_cons_succ]
  refine wpAnyH_take (i := 9) (v := ?vdp9) rfl (by kernel_rfl) (by kernel_rfl) (by kernel_rfl) (fun _ _ _ h => h) (Or.inl ⟨by rfl, ?hydp9⟩) (by assumption) ?restdp9
  case hydp9 =>
    intro w hSw
    try dsimp only at hSw
    go_simp
    all_goals with_reducible rfl
  simp only [Act.put, List.getElem_toArray, List.getElem_cons_succ, List.getElem_cons_zero, List.setIfInBounds_toArray, List.set_cons_zero, List.set_cons_succ]
  refine wpAnyH_take (i := 10) (v := ?vdp10) rfl (by kernel_rfl) (by kernel_rfl) (by kernel_rfl) (fun _ _ _ h => h) (Or.inl ⟨by rfl, ?hydp10⟩) (by assumption) ?restdp10
  case hydp10 =>
    intro w hSw
    try dsimp only at hSw
    go_simp
    all_goals with_reducible rfl
  simp only [Act.put, List.getElem_toArray, List.getElem_cons_succ, List.getElem_cons_zero, List.setIfInBounds_toArray, List.set_cons_zero, List.set_cons_succ]
  refine wpAnyH_take (i := 11) (v := ?vdp11) rfl (by kernel_rfl) (by kernel_rfl) (by kernel_rfl) (fun _ _ _ h => h) (Or.inl ⟨by rfl, ?hydp11⟩) (by assumption) ?restdp11
  case hydp11 =>
    intro w hSw
    try dsimp only at hSw
    go_simp
    all_goals with_reducible rfl
  simp only [Act.put, List.getElem_toArray, List.getElem_cons_succ, List.getElem_cons_zero, List.setIfInBounds_toArray, List.set_cons_zero, List.set_cons_succ]
  refine wpAnyH_take (i := 12) (v := ?vdp12) rfl (by kernel_rfl) (by kernel_rfl) (by kernel_rfl) (fun _ _ _ h => h) (Or.inl ⟨by rfl, ?hydp12⟩) (by assumption) ?restdp12
  case hydp12 =>
    intro w hSw
    try dsimp only at hSw
    go_simp
    all_goals with_reducible rfl
  simp only [Act.put, List.getElem_toArray, List.getElem_cons_succ, List.getElem_cons_zero, List.setIfInBounds_toArray, List.set_cons_zero, List.set_cons_succ]
  refine wpAnyH_take (i := 13) (v := ?vdp13) rfl (by kernel_rfl) (by kernel_rfl) (by kernel_rfl) (fun _ _ _ h => h) (Or.inl ⟨by rfl, ?hydp13⟩) (by assumption) ?restdp13
  case hydp13 =>
    intro w hSw
    try dsimp only at hSw
    go_simp
    all_goals with_reducible rfl
  simp only [Act.put, List.getElem_toArray, List.getElem_cons_succ, List.getElem_cons_zero, List.setIfInBounds_toArray, List.set_cons_zero, List.set_cons_succ]
  refine wpAnyH_take (i := 14) (v := ?vdp14) rfl (by kernel_rfl) (by kernel_rfl) (by kernel_rfl) (fun _ _ _ h => h) (Or.inl ⟨by rfl, ?hydp14⟩) (by assumption) ?restdp14
  case hydp14 =>
    intro w hSw
    try dsimp only at hSw
    go_simp
    all_goals with_reducible rfl
  simp only [Act.put, List.getElem_toArray, List.getElem_cons_succ, List.getElem_cons_zero, List.setIfInBounds_toArray, List.set_cons_zero, List.set_cons_succ]
  refine wpAnyH_take (i := 15) (v := ?vdp15) rfl (by kernel_rfl) (by kernel_rfl) (by kernel_rfl) (fun _ _ _ h => h) (Or.inl ⟨by rfl, ?hydp15⟩) (by assumption) ?restdp15
  case hydp15 =>
    intro w hSw
    try dsimp only at hSw
    go_simp
    all_goals with_reducible rfl
  simp only [Act.put, List.getElem_toArray, List.getElem_cons_succ, List.getElem_cons_zero, List.setIfInBounds_toArray, List.set_cons_zero, List.set_cons_succ]
  refine wpAnyH_take (i := 16) (v := ?vdp16) rfl (by kernel_rfl) (by kernel_rfl) (by kernel_rfl) (fun _ _ _ h => h) (Or.inl ⟨by rfl, ?hydp16⟩) (by assumption) ?restdp16
  case hydp16 =>
    intro w hSw
    try dsimp only at hSw
    go_simp
    all_goals with_reducible rfl
  simp only [Act.put, List.getElem_toArray, List.getElem_cons_succ, List.getElem_cons_zero, List.setIfInBounds_toArray, List.set_cons_zero, List.set_cons_succ]
  refine wpAnyH_take (i := 17) (v := ?vdp17) rfl (by kernel_rfl) (by kernel_rfl) (by kernel_rfl) (fun _ _ _ h => h) (Or.inl ⟨by rfl, ?hydp17⟩) (by assumption) ?restdp17
  case hydp17 =>
    intro w hSw
    try dsimp only at hSw
    go_simp
    all_goals with_reducible rfl
  simp only [Act.put, List.getElem_toArray, List.getElem_cons_succ, List.getElem_cons_zero, List.setIfInBounds_toArray, List.set_cons_zero, List.set_cons_succ]
  refine wpAnyH_ready (rs := [18]) (by kernel_rfl) (by simp) ?_
  refine AllReadyH.cons rfl (fun K hK => ?_) AllReadyH.nil
  go_simp
  refine ((HL3.out.drewU (Sep.framed OwnV.framed Locs.framed)).via Locs.framed (P' := OwnV g sd n (.slice (some ⟨sb, off, none⟩) ml.length cm) (.slice a2 n2 c2) ml (ss.set i s') rest en) OwnV.framed fun A hA => by
    obtain ⟨B, hB, hb⟩ := HAT.out _ A _ hA
    exact (shDo_plain hB HG.out HD.out).mono fun e w' ⟨he, hu⟩ => ⟨he, hb _ _ hu⟩).mono ?_
  rintro e w1 ⟨rfl, hU1⟩
  have HU1 := Lib.hid hU1
  clear hU1
  try go_wp2_with fail
  refine hK.out _ _ ?_ (fun hHeld => ?_)
  · exact HKP.out _ _ _ HU1.out
  clear hK K
  try simp only [Act.put, List.getElem_toArray, List.getElem_cons_succ, List.getElem_cons_zero, List.setIfInBounds_toArray, List.set_cons_zero, List.set_cons_succ]
  refine wpAnyH_take (i := 19) (v := ?vdp19) rfl (by kernel_rfl) (by kernel_rfl) (by kernel_rfl) (fun _ _ _ h => h) (Or.inl ⟨by rfl, ?hydp19⟩) (by assumption) ?restdp19
  case hydp19 =>
    intro w hSw
    try dsimp only at hSw
    go_simp
    all_goals with_reducible rfl
  simp only [Act.put, List.getElem_toArray, List.getElem_cons_succ, List.getElem_cons_zero, List.setIfInBounds_toArray, List.set_cons_zero, List.set_cons_succ]
  clear hHeld
  refine wpAnyH_ready (rs := [20]) (by kernel_rfl) (by simp) ?_
  refine AllReadyH.cons rfl (fun K hK => ?_) AllReadyH.nil
  rw [if_pos (by rfl)]
  have hpb := HU1.out.get (g := pb) (List.mem_cons_self ..)
  have HU2 := Lib.hid (locs_pb (C' := repO fr tg false i op dk dv r.1 r.2.1 r.2.2.1 r.2.2.2.1 r.2.2.2.2.1 r.2.2.2.2.2 (.slice none 0 0)) OwnV.framed HU1.out HNE.out.1 HNE.out.2 (only_setCells pb (resL r) 7 w1) (set7 r _ hpb))
  refine wp_store_mid 41 (.tmp 68) (.tmp 67) rfl pb 7 #[.int .i64 r.1, .bool r.2.1, .int .u64 r.2.2.1, .bool r.2.2.2.1, .int .u64 r.2.2.2.2.1, .int .u64 r.2.2.2.2.2] rfl rfl (there7 _ hpb) (by kernel_rfl) (res_one _ _ _ _ _ _) ?_
  clear hpb
  refine hK.out _ _ ?_ (fun hHeld => ?_)
  · exact HKP.out _ _ _ HU2.out
  clear hK K hHeld
  try simp only [Act.put, List.getElem_toArray, List.getElem_cons_succ, List.getElem_cons_zero, List.setIfInBounds_toArray, List.set_cons_zero, List.set_cons_succ]
  refine wpAnyH_done (by kernel_rfl) ?_ _
  have HPB := Lib.hid (HU2.out.get (g := pb) (List.mem_cons_self ..))
  have HRB := Lib.hid (HU2.out.get (g := rb) (List.mem_cons_of_mem _ (List.mem_cons_of_mem _ (List.mem_cons_self ..))))
  go_wp2_with (first | refine wpList_load_row rfl 44 (.tmp 5) rfl pb rfl 44 #[.int .i64 fr, .int .i64 tg, .bool false, .int .i64 (i : Int), .int .i64 op, .int .u64 dk, .int .u64 dv, .int .i64 r.1, .bool r.2.1, .int .u64 r.2.2.1, .bool r.2.2.2.1, .int .u64 r.2.2.2.2.1, .int .u64 r.2.2.2.2.2, .slice none 0 0] (0, 0) _ HPB.out Try.underlying44 rfl (by kernel_rfl) ?_ | refine wpList_store_row rfl 44 (.tmp 2) (.tmp 69) rfl rb #[.int .i64 fr, .int .i64 tg, .bool false, .int .i64 (i : Int), .int .i64 op, .int .u64 dk, .int .u64 dv, .int .i64 r.1, .bool r.2.1, .int .u64 r.2.2.1, .bool r.2.2.2.1, .int .u64 r.2.2.2.2.1, .int .u64 r.2.2.2.2.2, .slice none 0 0] rfl rfl 44 _ HRB.out (by kernel_rfl) rfl (by simp [Value.oneCell']) ?_)
  try simp only [Exit.inBlock, Exit.then]
  try go_wp2_with fail
  refine bodyPost_ret (results_cell_row_tmp rfl _ _ rb _ _ _ _ rfl (setRow_heap _ _ _ _ _ _ HRB.out) Try.underlying44 rfl (by kernel_rfl)) rfl ?_
  exact ⟨rfl, (locs_end OwnV.framed HU2.out _).imp fun _ h => h.plain⟩
set_option maxRecDepth 100000 in
set_option maxHeartbeats 8000000 in
theorem step_db {T : Nat → Prop} {w : World} {g : Nat} {sd n : Int} {ml : List MSh} {ss : List Sh} {rest : List ReqD} {en : Bool} {fr tg : Int} {i : Nat} {op dk dv : Int} (hT : OwnS g sd n ml ss ((fr, tg, false, (i : Int), op, dk, dv) :: rest) en T w) (h1 : i < ml.length) (h2 : i < ss.length) (G : OGood ml ss) {b0 b : Nat} (hai : ml[i].1 = .bound b0 b) {r : ResD} {s' : Sh} (hd : shP true ml[i].2.2 ss[i] op dk dv = (r, s')) :
    Calls Try.prog 12 #[.pointer (some ⟨g, 0, none⟩)] w fun e w' => e = .returned (.tuple #[.agg #[.int .i64 fr, .int .i64 tg, .bool false, .int .i64 (i : Int), .int .i64 op, .int .u64 dk, .int .u64 dv, .int .i64 r.1, .bool r.2.1, .int .u64 r.2.2.1, .bool r.2.2.2.1, .int .u64 r.2.2.2.2.1, .int .u64 r.2.2.2.2.2, .slice none 0 0], .bool true]) ∧ Upd (OwnS g sd n ml (ss.set i s') rest en) T w w' := by
  obtain ⟨vm, vl, hV⟩ := hT
  obtain ⟨⟨am, cm, rfl⟩, ⟨al, cl, rfl⟩⟩ := hV.shapes
  have HG := Lib.hid (show SGood true ml[i].2.2 ss[i] by have := G.good i h1 h2; rw [hai] at this; exact this)
  obtain ⟨sb, off, rfl, c1⟩ := hV.slot h1
  have hg := hV.obj.1
  have g2 : w.cell? ⟨g, 2, none⟩ = some (.slice (some ⟨sb, off, none⟩) ml.length cm) := blk_cell hg 2
  obtain ⟨lb, lo, rfl, q0, q1, q2, q3, q4, q5, q6⟩ := line_head hV.obj.2.2
  have HTL := Lib.hid (fun A (hA : Obj2 eSh eReq 83 72 37 (ownC sd n (.slice (some ⟨sb, off, none⟩) ml.length cm) (.slice (some ⟨lb, lo, none⟩) ((fr, tg, false, (i : Int), op, dk, dv) :: rest : List ReqD).length cl) en) g (.slice (some ⟨sb, off, none⟩) ml.length cm) (.slice (some ⟨lb, lo, none⟩) ((fr, tg, false, (i : Int), op, dk, dv) :: rest : List ReqD).length cl) (ml.map (·.1)) ((fr, tg, false, (i : Int), op, dk, dv) :: rest) A w) => hA.put2 (by decide) (by decide) hA.2.2.2.tail 3 rfl)
  obtain ⟨A0, hA0, hback0⟩ := hV.own
  have HU0 := Lib.hid (hback0 _ _ _ _ _ (HTL.out _ hA0))
  have g3 : w.cell? ⟨g, 3, none⟩ = some (.slice (some ⟨lb, lo, none⟩) ((fr, tg, false, (i : Int), op, dk, dv) :: rest : List ReqD).length cl) := blk_cell hg 3
  have f3 := frozen_of_row w g 3 _ _ hg
  have hgs : g < w.heap.size := heap_lt hg
  have hlbs : lb < w.heap.size := World.block_lt_of_cell? w _ q0
  have HAT := Lib.hid (show ∀ vl' A w, OwnV g sd n (.slice (some ⟨sb, off, none⟩) ml.length cm) vl' ml ss rest en A w → ∃ B, ShardS (.bound b0 b) ml[i].2.2 ss[i] B w ∧ ∀ s' w', Upd (ShardS (.bound b0 b) ml[i].2.2 s') B w w' → Upd (OwnV g sd n (.slice (some ⟨sb, off, none⟩) ml.length cm) vl' ml (ss.set i s') rest en) A w w' from fun vl' A w h => by
    have := h.at i h1 h2
    rwa [hai] at this)
  have HSL := Lib.hid (show ∀ vl' ss' A w, OwnV g sd n (.slice (some ⟨sb, off, none⟩) ml.length cm) vl' ml ss' rest en A w → w.cell? ⟨g, 2, none⟩ = some (.slice (some ⟨sb, off, none⟩) ml.length cm) ∧ w.cell? ⟨sb, off + i, none⟩ = some (.iface 99 (.pointer (some ⟨b0, 0, none⟩))) from fun vl' ss' A w h => by
    obtain ⟨sb', off', he, hc⟩ := h.slot h1
    obtain ⟨rfl, rfl⟩ : sb = sb' ∧ off = off' := by simpa using he
    rw [hai] at hc
    exact ⟨blk_cell h.obj.1 2, hc⟩)
  rw [hai] at c1
  replace c1 : w.cell? ⟨sb, off + i, none⟩ = some (.iface 99 (.pointer (some ⟨b0, 0, none⟩))) := c1
  have HD := Lib.hid (show shP true ml[i].2.2 ss[i] op dk dv = (r, s') from hd)
  have hcm := cm_lru_do b0 op dk dv
  have hi0 : (0 : Int) ≤ (i : Int) := by omega
  have hi1 : (i : Int) < (ml.length : Int) := by omega
  obtain ⟨L, hL⟩ : ∃ L, L = ((fr, tg, false, (i : Int), op, dk, dv) :: rest : List ReqD).length := ⟨_, rfl⟩
  have hL1 : 1 ≤ L := by rw [hL]; simp
  have hL0 : 0 < L := by omega
  have hL0i : (0 : Int) < (L : Int) := by omega
  have hLn : ((L : Int) == 0) = false := by simp; omega
  have hsl := slice_from1 (some ⟨lb, lo, none⟩) L cl hL1
  rw [← hL] at g3 HU0
  obtain ⟨a2, n2, c2, hvl2⟩ : ∃ a2 n2 c2, Value.slice a2 n2 c2 = Value.slice (if cl = 1 then (some ⟨lb, lo, none⟩ : Option Addr) else Option.map (fun x : Addr => x.add 7) (some (⟨lb, lo, none⟩ : Addr))) (L - 1) (cl - 1) := ⟨_, _, _, rfl⟩
  rw [← hvl2] at hsl
  have HU0' := Lib.hid (show Upd (OwnV g sd n (.slice (some ⟨sb, off, none⟩) ml.length cm) (.slice a2 n2 c2) ml ss rest en) T w (w.setCell ⟨g, 3, none⟩ (.slice a2 n2 c2)) by rw [hvl2]; exact HU0.out)
  clear hV hA0 hback0 HTL HU0 hg hai hL G hvl2 hd
  have HKX := Lib.hid HSL.out
  go_enter Try.func12, Try.ntmps12
  go_wp2_with fail
  have HL3 := Lib.hid (st_three (A := repO 0 0 false 0 0 0 0 0 false 0 false 0 0 (.slice none 0 0)) (B := reqO fr tg false i op dk dv) (C := repO fr tg false i op dk dv 0 false 0 false 0 0 (.slice none 0 0)) OwnV.framed HU0'.out (by simp [World.setCell]))
  have HNE := Lib.hid (show w.heap.size ≠ w.heap.size + 1 + 1 ∧ w.heap.size + 1 ≠ w.heap.size + 1 + 1 by omega)
  generalize World.alloc (World.alloc (World.alloc _ _) _) _ = wa at *
  generalize w.heap.size + 1 + 1 = pb at *
  generalize w.heap.size + 1 = qb at *
  generalize w.heap.size = rb at *
  have HKP := Lib.hid (show ∀ (ss2 : List Sh) (C : Obj) W, Upd (Sep (OwnV g sd n (.slice (some ⟨sb, off, none⟩) ml.length cm) (.slice a2 n2 c2) ml ss2 rest en) (Locs [(pb, C), (qb, reqO fr tg false i op dk dv), (rb, repO 0 0 false 0 0 0 0 0 false 0 false 0 0 (.slice none 0 0))])) T w W → W.cell? ⟨g, 2, none⟩ = some (.slice (some ⟨sb, off, none⟩) ml.length cm) ∧ W.cell? ⟨sb, off + i, none⟩ = some (.iface 99 (.pointer (some ⟨b0, 0, none⟩))) ∧ W.cell? ⟨qb, 3, none⟩ = some (.int .i64 (i : Int)) ∧ W.cell? ⟨qb, 4, none⟩ = some (.int .i64 op) ∧ W.cell? ⟨qb, 5, none⟩ = some (.int .u64 dk) ∧ W.cell? ⟨qb, 6, none⟩ = some (.int .u64 dv) from fun ss2 C W h => by
    obtain ⟨_, h1⟩ := h.getL
    have hq := h.get (g := qb) (List.mem_cons_of_mem _ (List.mem_cons_self ..))
    exact ⟨(HSL.out _ _ _ _ h1).1, (HSL.out _ _ _ _ h1).2, blk_cell hq 3, blk_cell hq 4, blk_cell hq 5, blk_cell hq 6⟩)
  refine wp_region_held_drew (S := fun W => W.cell? ⟨g, 2, none⟩ = some (.slice (some ⟨sb, off, none⟩) ml.length cm) ∧ W.cell? ⟨sb, off + i, none⟩ = some (.iface 99 (.pointer (some ⟨b0, 0, none⟩))) ∧ W.cell? ⟨qb, 3, none⟩ = some (.int .i64 (i : Int)) ∧ W.cell? ⟨qb, 4, none⟩ = some (.int .i64 op) ∧ W.cell? ⟨qb, 5, none⟩ = some (.int .u64 dk) ∧ W.cell? ⟨qb, 6, none⟩ = some (.int .u64 dv)) (by kernel_rfl) ?_ (fun hHeld => ?_)
  · exact HKP.out ss _ _ (HL3.out.drewU (Sep.framed OwnV.framed Locs.framed))
  try simp only [Act.put, List.getElem_toArray, List.getElem_cons_succ, List.getElem_cons_zero, List.setIfInBounds_toArray, List.set_cons_zero, List.set_cons_succ]
  refine wpAnyH_take (i := 0) (v := ?vdb0) rfl (by kernel_rfl) (by kernel_rfl) (by kernel_rfl) (fun _ _ _ h => h) (Or.inl ⟨by rfl, ?hydb0⟩) (by assumption) ?restdb0
  case hydb0 =>
    intro w hSw
    try dsimp only at hSw
    go_simp
    all_goals with_reducible rfl
  simp only [Act.put, List.getElem_toArray, List.getElem_cons_succ, List.getElem_cons_zero, List.setIfInBounds_toArray, List.set_cons_zero, List.set_cons_succ]
  refine wpAnyH_take (i := 1) (v := ?vdb1) rfl (by kernel_rfl) (by kernel_rfl) (by kernel_rfl) (fun _ _ _ h => h) (Or.inl ⟨by rfl, ?hydb1⟩) (by assumption) ?restdb1
  case hydb1 =>
    intro w hSw
    try dsimp only at hSw
    go_simp
    all_goals with_reducible rfl
  simp only [Act.put, List.getElem_toArray, List.getElem_cons_succ, List.getElem_cons_zero, List.setIfInBounds_toArray, List.set_cons_zero, List.set_cons_succ]
  refine wpAnyH_take (i := 2) (v := ?vdb2) rfl (by kernel_rfl) (by kernel_rfl) (by kernel_rfl) (fun _ _ _ h => h) (Or.inl ⟨by rfl, ?hydb2⟩) (by assumption) ?restdb2
  case hydb2 =>
    intro w hSw
    try dsimp only at hSw
    go_simp
    all_goals with_reducible rfl
  simp only [Act.put, List.getElem_toArray, List.getElem_cons_succ, List.getElem_cons_zero, List.setIfInBounds_toArray, List.set_cons_zero, List.set_cons_succ]
  refine wpAnyH_take (i := 3) (v := ?vdb3) rfl (by kernel_rfl) (by kernel_rfl) (by kernel_rfl) (fun _ _ _ h => h) (Or.inl ⟨by rfl, ?hydb3⟩) (by assumption) ?restdb3
  case hydb3 =>
    intro w hSw
    try dsimp only at hSw
    go_simp
    all_goals with_reducible rfl
  simp only [Act.put, List.getElem_toArray, List.getElem_cons_succ, List.getElem_cons_zero, List.setIfInBounds_toArray, List.set_cons_zero, List.set_cons_succ]
  refine wpAnyH_take (i := 4) (v := ?vdb4) rfl (by kernel_rfl) (by kernel_rfl) (by kernel_rfl) (fun _ _ _ h => h) (Or.inl ⟨by rfl, ?hydb4⟩) (by assumption) ?restdb4
  case hydb4 =>
    intro w hSw
    try dsimp only at hSw
    go_simp
    all_goals with_reducible rfl
  simp only [Act.put, List.getElem_toArray, List.getElem_cons_succ, List.getElem_cons_zero, List.setIfInBounds_toArray, List.set_cons_zero, List.set_cons_succ]
  refine wpAnyH_take (i := 5) (v := ?vdb5) rfl (by kernel_rfl) (by kernel_rfl) (by kernel_rfl) (fun _ _ _ h => h) (Or.inl ⟨by rfl, ?hydb5⟩) (by assumption) ?restdb5
  case hydb5 =>
    intro w hSw
    try dsimp only at hSw
    go_simp
    all_goals with_reducible rfl
  simp only [Act.put, List.getElem_toArray, List.getElem_cons_succ, List.getElem_cons_zero, List.setIfInBounds_toArray, List.set_cons_zero, List.set_cons_succ]
  refine wpAnyH_take (i := 6) (v := ?vdb6) rfl (by kernel_rfl) (by kernel_rfl) (by kernel_rfl) (fun _ _ _ h => h) (Or.inl ⟨by rfl, ?hydb6⟩) (by assumption) ?restdb6
  case hydb6 =>
    intro w hSw
    try dsimp only at hSw
    go_simp
    all_goals with_reducible rfl
  simp only [Act.put, List.getElem_toArray, List.getElem_cons_succ, List.getElem_cons_zero, List.setIfInBounds_toArray, List.set_cons_zero, List.set_cons_succ]
  refine wpAnyH_take (i := 7) (v := ?vdb7) rfl (by kernel_rfl) (by kernel_rfl) (by kernel_rfl) (fun _ _ _ h => h) (Or.inl ⟨by rfl, ?hydb7⟩) (by assumption) ?restdb7
  case hydb7 =>
    intro w hSw
    try dsimp only at hSw
    go_simp
    all_goals with_reducible rfl
  simp only [Act.put, List.getElem_toArray, List.getElem_cons_succ, List.getElem_cons_zero, List.setIfInBounds_toArray, List.set_cons_zero, List.set_cons_succ]
  refine wpAnyH_take (i := 8) (v := ?vdb8) rfl (by kernel_rfl) (by kernel_rfl) (by kernel_rfl) (fun _ _ _ h => h) (Or.inl ⟨by rfl, ?hydb8⟩) (by assumption) ?restdb8
  case hydb8 =>
    intro w hSw
    try dsimp only at hSw
    go_simp
    all_goals with_reducible rfl
  simp only [Act.put, List.getElem_toArray, List.getElem_cons_succ, List.getElem_cons_zero, List.setIfInBounds_toArray, List.set_cons_zero, List.set_cons_succ]
  refine wpAnyH_take (i := 9) (v := ?vdb9) rfl (by kernel_rfl) (by kernel_rfl) (by kernel_rfl) (fun _ _ _ h => h) (Or.inl ⟨by rfl, ?hydb9⟩) (by assumption) ?restdb9
  case hydb9 =>
    intro w hSw
    try dsimp only at hSw
    go_simp
    all_goals with_reducible rfl
  simp only [Act.put, List.getElem_toArray, List.getElem_cons_succ, List.getElem_cons_zero, List.setIfInBounds_toArray, List.set_cons_zero, List.set_cons_succ]
  refine wpAnyH_take (i := 10) (v := ?vdb10) rfl (by kernel_rfl) (by kernel_rfl) (by kernel_rfl) (fun _ _ _ h => h) (Or.inl ⟨by rfl, ?hydb10⟩) (by assumption) ?restdb10
  case hydb10 =>
    intro w hSw
    try dsimp only at hSw
    go_simp
    all_goals with_reducible rfl
  simp only [Act.put, List.getElem_toArray, List.getElem_cons_succ, List.getElem_cons_zero, List.setIfInBounds_toArray, List.set_cons_zero, List.set_cons_succ]
  refine wpAnyH_take (i := 11) (v := ?vdb11) rfl (by kernel_rfl) (by kernel_rfl) (by kernel_rfl) (fun _ _ _ h => h) (Or.inl ⟨by rfl, ?hydb11⟩) (by assumption) ?restdb11
  case hydb11 =>
    intro w hSw
    try dsimp only at hSw
    go_simp
    all_goals with_reducible rfl
  simp only [Act.put, List.getElem_toArray, List.getElem_cons_succ, List.getElem_cons_zero, List.setIfInBounds_toArray, List.set_cons_zero, List.set_cons_succ]
  refine wpAnyH_take (i := 12) (v := ?vdb12) rfl (by kernel_rfl) (by kernel_rfl) (by kernel_rfl) (fun _ _ _ h => h) (Or.inl ⟨by rfl, ?hydb12⟩) (by assumption) ?restdb12
  case hydb12 =>
    intro w hSw
    try dsimp only at hSw
    go_simp
    all_goals with_reducible rfl
  simp only [Act.put, List.getElem_toArray, List.getElem_cons_succ, List.getElem_cons_zero, List.setIfInBounds_toArray, List.set_cons_zero, List.set_cons_succ]
  refine wpAnyH_take (i := 13) (v := ?vdb13) rfl (by kernel_rfl) (by kernel_rfl) (by kernel_rfl) (fun _ _ _ h => h) (Or.inl ⟨by rfl, ?hydb13⟩) (by assumption) ?restdb13
  case hydb13 =>
    intro w hSw
    try dsimp only at hSw
    go_simp
    all_goals with_reducible rfl
  simp only [Act.put, List.getElem_toArray, List.getElem_cons_succ, List.getElem_cons_zero, List.setIfInBounds_toArray, List.set_cons_zero, List.set_cons_succ]
  refine wpAnyH_take (i := 14) (v := ?vdb14) rfl (by kernel_rfl) (by kernel_rfl) (by kernel_rfl) (fun _ _ _ h => h) (Or.inl ⟨by rfl, ?hydb14⟩) (by assumption) ?restdb14
  case hydb14 =>
    intro w hSw
    try dsimp only at hSw
    go_simp
    all_goals with_reducible rfl
  simp only [Act.put, List.getElem_toArray, List.getElem_cons_succ, List.getElem_cons_zero, List.setIfInBounds_toArray, List.set_cons_zero, List.set_cons_succ]
  refine wpAnyH_take (i := 15) (v := ?vdb15) rfl (by kernel_rfl) (by kernel_rfl) (by kernel_rfl) (fun _ _ _ h => h) (Or.inl ⟨by rfl, ?hydb15⟩) (by assumption) ?restdb15
  case hydb15 =>
    intro w hSw
    try dsimp only at hSw
    go_simp
    all_goals with_reducible rfl
  simp only [Act.put, List.getElem_toArray, List.getElem_cons_succ, List.getElem_cons_zero, List.setIfInBounds_toArray, List.set_cons_zero, List.set_cons_succ]
  refine wpAnyH_take (i := 16) (v := ?vdb16) rfl (by kernel_rfl) (by kernel_rfl) (by kernel_rfl) (fun _ _ _ h => h) (Or.inl ⟨by rfl, ?hydb16⟩) (by assumption) ?restdb16
  case hydb16 =>
    intro w hSw
    try dsimp only at hSw
    go_simp
    all_goals with_reducible rfl
  simp only [Act.put, List.getElem_toArray, List.getElem_cons_succ, List.getElem_cons_zero, List.setIfInBounds_toArray, List.set_cons_zero, List.set_cons_succ]
  refine wpAnyH_take (i := 17) (v := ?vdb17) rfl (by kernel_rfl) (by kernel_rfl) (by kernel_rfl) (fun _ _ _ h => h) (Or.inl ⟨by rfl, ?hydb17⟩) (by assumption) ?restdb17
  case hydb17 =>
    intro w hSw
    try dsimp only at hSw
    go_simp
    all_goals with_reducible rfl
  simp only [Act.put, List.getElem_toArray, List.getElem_cons_succ, List.getElem_cons_zero, List.setIfInBounds_toArray, List.set_cons_zero, List.set_cons_succ]
  refine wpAnyH_ready (rs := [18]) (by kernel_rfl) (by simp) ?_
  refine AllReadyH.cons rfl (fun K hK => ?_) AllReadyH.nil
  go_simp
  refine ((HL3.out.drewU (Sep.framed OwnV.framed Locs.framed)).via Locs.framed (P' := OwnV g sd n (.slice (some ⟨sb, off, none⟩) ml.length cm) (.slice a2 n2 c2) ml (ss.set i s') rest en) OwnV.framed fun A hA => by
    obtain ⟨B, hB, hb⟩ := HAT.out _ A _ hA
    exact (shDo_bound hB HG.out HD.out).mono fun e w' ⟨he, hu⟩ => ⟨he, hb _ _ hu⟩).mono ?_
  rintro e w1 ⟨rfl, hU1⟩
  have HU1 := Lib.hid hU1
  clear hU1
  try go_wp2_with fail
  refine hK.out _ _ ?_ (fun hHeld => ?_)
  · exact HKP.out _ _ _ HU1.out
  clear hK K
  try simp only [Act.put, List.getElem_toArray, List.getElem_cons_succ, List.getElem_cons_zero, List.setIfInBounds_toArray, List.set_cons_zero, List.set_cons_succ]
  refine wpAnyH_take (i := 19) (v := ?vdb19) rfl (by kernel_rfl) (by kernel_rfl) (by kernel_rfl) (fun _ _ _ h => h) (Or.inl ⟨by rfl, ?hydb19⟩) (by assumption) ?restdb19
  case hydb19 =>
    intro w hSw
    try dsimp only at hSw
    go_simp
    all_goals with_reducible rfl
  simp only [Act.put, List.getElem_toArray, List.getElem_cons_succ, List.getElem_cons_zero, List.setIfInBounds_toArray, List.set_cons_zero, List.set_cons_succ]
  clear hHeld
  refine wpAnyH_ready (rs := [20]) (by kernel_rfl) (by simp) ?_
  refine AllReadyH.cons rfl (fun K hK => ?_) AllReadyH.nil
  rw [if_pos (by rfl)]
  have hpb := HU1.out.get (g := pb) (List.mem_cons_self ..)
  have HU2 := Lib.hid (locs_pb (C' := repO fr tg false i op dk dv r.1 r.2.1 r.2.2.1 r.2.2.2.1 r.2.2.2.2.1 r.2.2.2.2.2 (.slice none 0 0)) OwnV.framed HU1.out HNE.out.1 HNE.out.2 (only_setCells pb (resL r) 7 w1) (set7 r _ hpb))
  refine wp_store_mid 41 (.tmp 68) (.tmp 67) rfl pb 7 #[.int .i64 r.1, .bool r.2.1, .int .u64 r.2.2.1, .bool r.2.2.2.1, .int .u64 r.2.2.2.2.1, .int .u64 r.2.2.2.2.2] rfl rfl (there7 _ hpb) (by kernel_rfl) (res_one _ _ _ _ _ _) ?_
  clear hpb
  refine hK.out _ _ ?_ (fun hHeld => ?_)
  · exact HKP.out _ _ _ HU2.out
  clear hK K hHeld
  try simp only [Act.put, List.getElem_toArray, List.getElem_cons_succ, List.getElem_cons_zero, List.setIfInBounds_toArray, List.set_cons_zero, List.set_cons_succ]
  refine wpAnyH_done (by kernel_rfl) ?_ _
  have HPB := Lib.hid (HU2.out.get (g := pb) (List.mem_cons_self ..))
  have HRB := Lib.hid (HU2.out.get (g := rb) (List.mem_cons_of_mem _ (List.mem_cons_of_mem _ (List.mem_cons_self ..))))
  go_wp2_with (first | refine wpList_load_row rfl 44 (.tmp 5) rfl pb rfl 44 #[.int .i64 fr, .int .i64 tg, .bool false, .int .i64 (i : Int), .int .i64 op, .int .u64 dk, .int .u64 dv, .int .i64 r.1, .bool r.2.1, .int .u64 r.2.2.1, .bool r.2.2.2.1, .int .u64 r.2.2.2.2.1, .int .u64 r.2.2.2.2.2, .slice none 0 0] (0, 0) _ HPB.out Try.underlying44 rfl (by kernel_rfl) ?_ | refine wpList_store_row rfl 44 (.tmp 2) (.tmp 69) rfl rb #[.int .i64 fr, .int .i64 tg, .bool false, .int .i64 (i : Int), .int .i64 op, .int .u64 dk, .int .u64 dv, .int .i64 r.1, .bool r.2.1, .int .u64 r.2.2.1, .bool r.2.2.2.1, .int .u64 r.2.2.2.2.1, .int .u64 r.2.2.2.2.2, .slice none 0 0] rfl rfl 44 _ HRB.out (by kernel_rfl) rfl (by simp [Value.oneCell']) ?_)
  try simp only [Exit.inBlock, Exit.then]
  try go_wp2_with fail
  refine bodyPost_ret (results_cell_row_tmp rfl _ _ rb _ _ _ _ rfl (setRow_heap _ _ _ _ _ _ HRB.out) Try.underlying44 rfl (by kernel_rfl)) rfl ?_
  exact ⟨rfl, (locs_end OwnV.framed HU2.out _).imp fun _ h => h.plain⟩
end Go.Proofs.Ytdlkblklfoagbaa
