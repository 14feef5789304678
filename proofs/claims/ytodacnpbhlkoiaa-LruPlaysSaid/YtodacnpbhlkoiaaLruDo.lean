/- lru: Do, no key is driven out. -/
import Derived.Test.YtodacnpbhlkoiaaLruEvict
namespace Go.Proofs.Ytodacnpbhlkoiaa
open Go.RowKit
set_option linter.unusedVariables false
set_option linter.unusedSimpArgs false

def LPost (g b : Nat) (cap : Int) (S : Nat → Prop) (w : World) (r : ResD × (List PairD × List Int)) (e : Ending) (w' : World) : Prop :=
  e = .returned (.agg #[.int .i64 r.1.1, .bool r.1.2.1, .int .u64 r.1.2.2.1, .bool r.1.2.2.2.1, .int .u64 r.1.2.2.2.2.1, .int .u64 r.1.2.2.2.2.2]) ∧ Upd (LruS g b cap r.2) S w w'
/-- the answer's block is written, and all blocks of the call's own are dropped -/
theorem lru_fin {g b : Nat} {cap : Int} {s : List PairD × List Int} {S : Nat → Prop} {w w1 : World} {L : List (Nat × Obj)} (h : Upd (Sep (LruS g b cap s) (Locs L)) S w w1) {k : Nat} {o : Obj} (hk : (k, o) ∈ L) (cs : Array Value) : Upd (LruS g b cap s) S w (w1.setRow k cs) :=
  (h.locs LruS.framed (M := []) ((only_setRow w1 k cs).mono fun j _ e => ⟨_, hk, e.symm⟩) (fun p hp => by simp at hp)).drop LruS.framed

set_option maxRecDepth 100000 in
set_option maxHeartbeats 2000000 in
theorem lru_none (g b : Nat) (cap : Int) (s : List PairD × List Int) (S : Nat → Prop) (op key val x0 x2 : Int) (x1 : Bool) (ys : List PairD) (w : World) (H : LruS g b cap s S w) (G : LGood cap s) (hd : doP cap s.1 op key val = ((x0, x1, x2, false, 0, 0), ys))
    (hc : x0 = 2 ∨ x0 = 0 ∧ op = 1 ∨ x0 = 0 ∧ op = 0 ∧ x1 = false) :
    Calls Try.prog 11 #[.pointer (some ⟨g, 0, none⟩), .int .i64 op, .int .u64 key, .int .u64 val] w (LPost g b cap S w ((x0, x1, x2, false, 0, 0), (ys, s.2))) := by
  have c0 := H.ptr
  have hl := World.block_lt_of_cell? w _ c0
  have HU := Lib.hid ((Upd.start LruS.framed H).loc LruS.framed (resO 0 false 0 false 0 0))
  have HG := Lib.hid G
  have HD := Lib.hid hd
  clear H G hd
  rcases hc with rfl | ⟨rfl, rfl⟩ | ⟨rfl, rfl, rfl⟩
  all_goals
    go_enter Try.func11, Try.ntmps11
    go_wp2_with fail
    refine (HU.out.via Locs.framed LruS.framed fun A hA => LruS.doF_ hA HG.out.good HD.out).mono ?_
    rintro e w1 ⟨rfl, hU1⟩
    have h8 := hU1.get (g := w.heap.size) (List.mem_cons_self ..)
    have HU2 := Lib.hid (fun o => hU1.loc LruS.framed o)
    have H8 := Lib.hid h8
    clear HU hU1 h8
    dsimp only
    go_wp2_with (refine wpList_store_row rfl 35 (.tmp 8) (.tmp 65) rfl w.heap.size _ rfl rfl 35 _ (heap_alloc H8.out) (by kernel_rfl) rfl (res_one _ _ _ _ _ _) ?_)
    try simp only [Exit.inBlock, Exit.then]
    refine bodyPost_ret (results_cell_row rfl _ _ w.heap.size _ _ _ _ rfl (setRow_heap _ _ _ _ _ _ (heap_alloc H8.out)) Try.underlying35 rfl (by kernel_rfl)) rfl ?_
    exact ⟨rfl, lru_fin (HU2.out _) (List.mem_cons_of_mem _ (List.mem_cons_self ..)) _⟩

set_option maxRecDepth 100000 in
set_option maxHeartbeats 2000000 in
theorem lru_touch (g b : Nat) (cap : Int) (s : List PairD × List Int) (S : Nat → Prop) (op key val x2 : Int) (x1 : Bool) (ys : List PairD) (w : World) (H : LruS g b cap s S w) (G : LGood cap s) (hd : doP cap s.1 op key val = ((0, x1, x2, false, 0, 0), ys))
    (hc : op = 2 ∨ op = 4 ∨ op = 0 ∧ x1 = true) :
    Calls Try.prog 11 #[.pointer (some ⟨g, 0, none⟩), .int .i64 op, .int .u64 key, .int .u64 val] w (LPost g b cap S w ((0, x1, x2, false, 0, 0), (ys, key :: dropK s.2 key))) := by
  have c0 := H.ptr
  have hl := World.block_lt_of_cell? w _ c0
  have HU := Lib.hid ((Upd.start LruS.framed H).loc LruS.framed (resO 0 false 0 false 0 0))
  have HG := Lib.hid G
  have HN := Lib.hid (show s.2.length ≤ 1000 by have := G.len; have := G.good.len; have := G.good.hi; omega)
  have HD := Lib.hid hd
  clear H G hd
  rcases hc with rfl | rfl | ⟨rfl, rfl⟩
  all_goals
    go_enter Try.func11, Try.ntmps11
    go_wp2_with fail
    refine (HU.out.via Locs.framed LruS.framed fun A hA => LruS.doF_ hA HG.out.good HD.out).mono ?_
    rintro e w1 ⟨rfl, hU1⟩
    have HU2 := Lib.hid (fun o => hU1.loc LruS.framed o)
    clear HU hU1
    dsimp only
    go_wp2_with fail
    refine ((HU2.out _).via Locs.framed LruS.framed fun A hA => LruS.touch_ hA HN.out key).mono ?_
    rintro e w2 ⟨rfl, hU2⟩
    have H8 := Lib.hid (hU2.get (g := w.heap.size) (List.mem_cons_of_mem _ (List.mem_singleton_self _)))
    have h9 := hU2.get (g := w1.heap.size) (List.mem_cons_self ..)
    obtain ⟨e0, e1, e2, e3, e4, e5⟩ := res_cells h9
    have HU3 := Lib.hid hU2
    clear HU2 hU2 h9
    go_wp2_with (refine wpList_store_row rfl 35 (.tmp 8) (.tmp 65) rfl w.heap.size _ rfl rfl 35 _ H8.out (by kernel_rfl) rfl (res_one _ _ _ _ _ _) ?_)
    try simp only [Exit.inBlock, Exit.then]
    refine bodyPost_ret (results_cell_row rfl _ _ w.heap.size _ _ _ _ rfl (setRow_heap _ _ _ _ _ _ H8.out) Try.underlying35 rfl (by kernel_rfl)) rfl ?_
    exact ⟨rfl, lru_fin HU3.out (List.mem_cons_of_mem _ (List.mem_cons_self ..)) _⟩

set_option maxRecDepth 100000 in
set_option maxHeartbeats 2000000 in
theorem lru_drop (g b : Nat) (cap : Int) (s : List PairD × List Int) (S : Nat → Prop) (key val x2 : Int) (x1 : Bool) (ys : List PairD) (w : World) (H : LruS g b cap s S w) (G : LGood cap s) (hd : doP cap s.1 3 key val = ((0, x1, x2, false, 0, 0), ys)) :
    Calls Try.prog 11 #[.pointer (some ⟨g, 0, none⟩), .int .i64 3, .int .u64 key, .int .u64 val] w (LPost g b cap S w ((0, x1, x2, false, 0, 0), (ys, dropK s.2 key))) := by
  have c0 := H.ptr
  have hl := World.block_lt_of_cell? w _ c0
  have HU := Lib.hid ((Upd.start LruS.framed H).loc LruS.framed (resO 0 false 0 false 0 0))
  have HG := Lib.hid G
  have HD := Lib.hid hd
  clear H G hd
  skip
  all_goals
    go_enter Try.func11, Try.ntmps11
    go_wp2_with fail
    refine (HU.out.via Locs.framed LruS.framed fun A hA => LruS.doF_ hA HG.out.good HD.out).mono ?_
    rintro e w1 ⟨rfl, hU1⟩
    have HU2 := Lib.hid (fun o => hU1.loc LruS.framed o)
    clear HU hU1
    dsimp only
    go_wp2_with fail
    refine ((HU2.out _).via Locs.framed LruS.framed fun A hA => LruS.drop_ hA key).mono ?_
    rintro e w2 ⟨rfl, hU2⟩
    have H8 := Lib.hid (hU2.get (g := w.heap.size) (List.mem_cons_of_mem _ (List.mem_singleton_self _)))
    have h9 := hU2.get (g := w1.heap.size) (List.mem_cons_self ..)
    obtain ⟨e0, e1, e2, e3, e4, e5⟩ := res_cells h9
    have HU3 := Lib.hid hU2
    clear HU2 hU2 h9
    go_wp2_with (refine wpList_store_row rfl 35 (.tmp 8) (.tmp 65) rfl w.heap.size _ rfl rfl 35 _ H8.out (by kernel_rfl) rfl (res_one _ _ _ _ _ _) ?_)
    try simp only [Exit.inBlock, Exit.then]
    refine bodyPost_ret (results_cell_row rfl _ _ w.heap.size _ _ _ _ rfl (setRow_heap _ _ _ _ _ _ H8.out) Try.underlying35 rfl (by kernel_rfl)) rfl ?_
    exact ⟨rfl, lru_fin HU3.out (List.mem_cons_of_mem _ (List.mem_cons_self ..)) _⟩
end Go.Proofs.Ytodacnpbhlkoiaa
