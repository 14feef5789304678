/- book: Do, a value is set; a book that is full. -/
import Derived.Test.YtodacnpbhlkoiaaBookDo3
namespace Go.Proofs.Ytodacnpbhlkoiaa
open Go.RowKit
set_option linter.unusedVariables false
set_option linter.unusedSimpArgs false

theorem do_fin2 {b : Nat} {cap : Int} {S : Nat → Prop} {w w2 : World} {v' : Value} {ys : List PairD} {m : Nat} (hb2 : w2.heap[b]? = some (.cells #[.int .i64 cap, v'] 69 (0, 0))) (hSb : S b) (hbl : b < w.heap.size)
    (how : OwS ePair 46 (fun k => (S k ∧ k < w.heap.size) ∨ m ≤ k) w2 v' ys) (hm : w.heap.size < m) (ho : Only (fun k => (S k ∧ k < w.heap.size) ∨ w.heap.size ≤ k) w w2) (cs : Array Value) :
    BookS b cap ys (fun k => S k ∨ w.heap.size ≤ k) (w2.setRow w.heap.size cs) ∧ Only S w (w2.setRow w.heap.size cs) := by
  have B2 : BookS b cap ys (fun k => (S k ∧ k < w.heap.size) ∨ m ≤ k) w2 := ⟨v', hb2, how.1, .inl ⟨hSb, hbl⟩, how.2⟩
  have o3 := only_setRow w2 w.heap.size cs
  refine ⟨BookS.framed.mono _ _ _ (BookS.framed.only _ _ _ _ B2 o3 fun k _ h e => by omega) fun k _ h => ?_, ?_⟩
  · rcases h with h | h
    · exact .inl h.1
    · exact .inr (by omega)
  · refine (ho.trans o3 (fun j hj e => .inr (by omega))).mono fun k hk h => ?_
    rcases h with h | h
    · exact h.1
    · omega

theorem setval_fin {b : Nat} {cap : Int} {xs : List PairD} {S : Nat → Prop} {key : Int} {w w1 W2 : World} {g off c : Nat} {old : Int} (A : At b cap xs S key w g off c old) (HO : Only (fun _ => False) w w1) (o2 : Only (fun k => w1.heap.size ≤ k) w1 W2) (hl8 : w.heap.size < w1.heap.size) (nv : Int) (cs : Array Value) :
    BookS b cap (xs.set (posP xs key) (key, nv)) (fun k => S k ∨ w.heap.size ≤ k) ((W2.setCell ⟨g, off + posP xs key * 2 + 1, none⟩ (.int .u64 nv)).setRow w.heap.size cs) ∧ Only S w ((W2.setCell ⟨g, off + posP xs key * 2 + 1, none⟩ (.int .u64 nv)).setRow w.heap.size cs) := by
  have hg0 := World.block_lt_of_cell? w _ A.val
  dsimp only at hg0
  have hb0 := heap_lt A.hb
  have hb2 := heap_setCell_far (o2.heap (HO.heap A.hb (fun h => h)) (fun h => by omega)) g (off + posP xs key * 2 + 1) (.int .u64 nv) (fun h => A.hne h.symm)
  have hw2 := ((A.hw.only HO (fun _ _ h => h)).only o2 (fun k hk h => by
    obtain rfl : g = k := by simpa [Value.ownBlock] using hk
    omega)).setVal (posP xs key) A.lt key nv (A.kk A.lt)
  refine do_fin2 (S := S) (m := w.heap.size + 1) hb2 A.hS hb0 ⟨hw2, fun k hk => .inl ?_⟩ (by omega) ?_ cs
  · obtain rfl : g = k := by simpa [Value.ownBlock] using hk
    exact ⟨A.hgS, hg0⟩
  · exact (HO.wide.trans o2 (fun k hk h => by have := HO.size; omega)).trans (Only.setCell (fun k => k = g) W2 g _ _ rfl) fun k hk e => .inl ⟨by rw [e]; exact A.hgS, by omega⟩

set_option maxRecDepth 100000 in
set_option maxHeartbeats 2000000 in
theorem do_full (b : Nat) (cap : Int) (xs : List PairD) (S : Nat → Prop) (op key val : Int) (w : World) (H : BookS b cap xs S w) (G : Good cap xs) (hop : op = 2 ∨ op = 4) (hf : hasP xs key = false) (hlen : (xs.length : Int) = cap) :
    Calls Try.prog 16 #[.pointer (some ⟨b, 0, none⟩), .int .i64 op, .int .u64 key, .int .u64 val] w (DoPost b S cap w (resE 40, xs)) := by
  have H0 := Lib.hid H
  have HB := Lib.hid (BookS.framed.alloc H0.out (.cells #[.int .i64 0, .bool false, .int .u64 0, .bool false, .int .u64 0, .int .u64 0] 35))
  have HFI := Lib.hid (find_any b cap xs S key _ HB.out G.rising (by have := G.len; have := G.hi; omega))
  rw [hf] at HFI
  obtain ⟨v, hg, hown, hS, hvS⟩ := H
  obtain ⟨_, ao, c, rfl, _⟩ := hown
  have HG := Lib.hid hg
  have hb0 := heap_lt hg
  have he : ((xs.length : Int) == cap) = true := by simpa using hlen
  clear hf hg hvS hlen G
  rcases hop with rfl | rfl
  all_goals
    go_enter Try.func16, Try.ntmps16
    go_wp2_with fail
    refine HFI.out.mono ?_
    rintro e w1 ⟨rfl, ho⟩
    have HR8 := Lib.hid (ho.heap (heap_alloc_new w _) (fun h => h))
    have HO := Lib.hid ((Only.alloc (fun _ => False) w _).tr ho)
    have hg1 := HO.out.heap HG.out (fun h => h)
    have c0 := cells_of_heap hg1 0 (.int .i64 cap) rfl
    have c1 := cells_of_heap hg1 1 (.slice ao xs.length c) rfl
    have hlb := heap_lt hg1
    clear ho hg1
    go_wp2_with fail
    go_quiet (fail)
    go_wp2_with (refine wpList_store_row rfl 35 (.tmp 8) (.tmp 73) rfl w.heap.size _ rfl rfl 35 _ (heap_alloc (w := w1) HR8.out) (by kernel_rfl) rfl (res_one _ _ _ _ _ _) ?_)
    refine bodyPost_ret (results_cell_row rfl _ _ w.heap.size _ _ _ _ rfl (setRow_heap _ _ _ _ _ _ (heap_alloc (w := w1) HR8.out)) Try.underlying35 rfl (by kernel_rfl)) rfl ?_
    exact ⟨rfl, do_ro H0.out (only_row ((HO.out.tr (Only.alloc _ _ _)).drewN _).wide _ _ (.inr (Nat.le_refl _)))⟩

set_option maxRecDepth 100000 in
set_option maxHeartbeats 2000000 in
theorem do_add_yes (b : Nat) (cap : Int) (xs : List PairD) (S : Nat → Prop) (key val : Int) (w : World) (H : BookS b cap xs S w) (G : Good cap xs) (hf : hasP xs key = true) :
    Calls Try.prog 16 #[.pointer (some ⟨b, 0, none⟩), .int .i64 4, .int .u64 key, .int .u64 val] w (DoPost b S cap w (resF true (add64 (oldP xs key) val), xs.set (posP xs key) (key, add64 (oldP xs key) val))) := by
  obtain ⟨g, off, c, old, A⟩ := at_of H G.rising hf
  have HB := Lib.hid (BookS.framed.alloc H (.cells #[.int .i64 0, .bool false, .int .u64 0, .bool false, .int .u64 0, .int .u64 0] 35))
  have HFI := Lib.hid (find_any b cap xs S key _ HB.out G.rising (by have := G.len; have := G.hi; omega))
  rw [hf] at HFI
  rw [A.oldv]
  have HA := Lib.hid A
  have hlen : xs.length ≤ 1000 := by have := G.len; have := G.hi; omega
  clear H G hf A
  go_enter Try.func16, Try.ntmps16
  go_wp2_with fail
  refine HFI.out.mono ?_
  rintro e w1 ⟨rfl, ho⟩
  have HR8 := Lib.hid (ho.heap (heap_alloc_new w _) (fun h => h))
  have HO := Lib.hid ((Only.alloc (fun _ => False) w _).tr ho)
  have A1 := HA.out.on HO.out
  have c1 := cells_of_heap A1.hb 1 (.slice (some ⟨g, off, none⟩) xs.length c) rfl
  have c2 := A1.val
  have hp := A1.lt
  have hlb := heap_lt A1.hb
  have hlg := World.block_lt_of_cell? w1 _ A1.val
  dsimp only at hlg
  have hgb : ¬ g = b := A1.hne
  have HA1 := Lib.hid A1
  have hl8 := heap_lt HR8.out
  have hg0 := World.block_lt_of_cell? w _ HA.out.val
  dsimp only at hg0
  have hb0 := heap_lt HA.out.hb
  have fz := A1.frz
  clear ho A1
  obtain ⟨p, hpe⟩ : ∃ p, p = posP xs key := ⟨_, rfl⟩
  rw [← hpe] at c2 hp fz ⊢
  clear HFI
  have HPE := Lib.hid hpe
  clear hpe
  have hi0 : (0 : Int) ≤ (p : Int) := by omega
  have hi1 : (p : Int) < (xs.length : Int) := by omega
  go_wp2_with fail
  go_quiet (fail)
  go_upto_region 21 with (fail)
  obtain ⟨W2, hW2⟩ : ∃ W2, W2 = ((w1.alloc (.cells #[.int .i64 0, .bool true, .int .u64 old, .bool false, .int .u64 0, .int .u64 0] 35)).drewN nq).setCell ⟨w1.heap.size, 2, none⟩ (.int .u64 (IntKind.u64.wrap (old + val))) := ⟨_, rfl⟩
  have hr11' : W2.heap[w1.heap.size]? = some (.cells #[.int .i64 0, .bool true, .int .u64 (IntKind.u64.wrap (old + val)), .bool false, .int .u64 0, .int .u64 0] 35 (0, 0)) := by
    rw [hW2]; exact heap_setCell_same ((w1.alloc (.cells #[.int .i64 0, .bool true, .int .u64 old, .bool false, .int .u64 0, .int .u64 0] 35)).drewN nq) w1.heap.size 2 _ _ _ (heap_alloc_new w1 _)
  have hr8' : W2.heap[w.heap.size]? = some (.cells #[.int .i64 0, .bool false, .int .u64 0, .bool false, .int .u64 0, .int .u64 0] 35 (0, 0)) := by
    rw [hW2]; exact heap_setCell_far (w := (w1.alloc (.cells #[.int .i64 0, .bool true, .int .u64 old, .bool false, .int .u64 0, .int .u64 0] 35)).drewN nq) (heap_alloc (w := w1) HR8.out) _ _ _ (by omega)
  have o2 : Only (fun k => w1.heap.size ≤ k) w1 W2 := by
    rw [hW2]; exact ((Only.alloc _ _ _).drewN nq).tr (Only.setCell _ _ _ _ _ (Nat.le_refl _))
  have hfin := fun cs => setval_fin HA.out HO.out o2 hl8 (IntKind.u64.wrap (old + val)) cs
  rw [← HPE.out] at hfin
  obtain ⟨W3, hW3⟩ : ∃ W3, W3 = W2.setCell ⟨g, off + p * 2 + 1, none⟩ (.int .u64 (IntKind.u64.wrap (old + val))) := ⟨_, rfl⟩
  have hr11 := heap_setCell_far hr11' g (off + p * 2 + 1) (.int .u64 (IntKind.u64.wrap (old + val))) (by omega)
  have hr8 := heap_setCell_far hr8' g (off + p * 2 + 1) (.int .u64 (IntKind.u64.wrap (old + val))) (by omega)
  rw [← hW3] at hr11 hr8 hfin
  rw [← hW2, ← hW3]
  have e0 := cells_of_heap hr11 0 (.int .i64 0) rfl
  have e1 := cells_of_heap hr11 1 (.bool true) rfl
  have e2 := cells_of_heap hr11 2 (.int .u64 (IntKind.u64.wrap (old + val))) rfl
  have e3 := cells_of_heap hr11 3 (.bool false) rfl
  have e4 := cells_of_heap hr11 4 (.int .u64 0) rfl
  have e5 := cells_of_heap hr11 5 (.int .u64 0) rfl
  have HF3 := Lib.hid hfin
  have HR83 := Lib.hid hr8
  clear hW2 hW3 hr11 hr8 hr11' hr8' hfin o2 c1 c2 fz
  go_wp2_with (refine wpList_store_row rfl 35 (.tmp 8) (.tmp 105) rfl w.heap.size _ rfl rfl 35 _ HR83.out (by kernel_rfl) rfl (res_one _ _ _ _ _ _) ?_)
  refine bodyPost_ret (results_cell_row rfl _ _ w.heap.size _ _ _ _ rfl (setRow_heap _ _ _ _ _ _ HR83.out) Try.underlying35 rfl (by kernel_rfl)) rfl ?_
  exact ⟨rfl, by have h := HF3.out #[.int .i64 0, .bool true, .int .u64 (IntKind.u64.wrap (old + val)), .bool false, .int .u64 0, .int .u64 0]; rw [HPE.out] at h; exact h⟩

set_option maxRecDepth 100000 in
set_option maxHeartbeats 2000000 in
theorem do_put_yes (b : Nat) (cap : Int) (xs : List PairD) (S : Nat → Prop) (key val : Int) (w : World) (H : BookS b cap xs S w) (G : Good cap xs) (hf : hasP xs key = true) :
    Calls Try.prog 16 #[.pointer (some ⟨b, 0, none⟩), .int .i64 2, .int .u64 key, .int .u64 val] w (DoPost b S cap w (resF true (oldP xs key), xs.set (posP xs key) (key, val))) := by
  obtain ⟨g, off, c, old, A⟩ := at_of H G.rising hf
  have HB := Lib.hid (BookS.framed.alloc H (.cells #[.int .i64 0, .bool false, .int .u64 0, .bool false, .int .u64 0, .int .u64 0] 35))
  have HFI := Lib.hid (find_any b cap xs S key _ HB.out G.rising (by have := G.len; have := G.hi; omega))
  rw [hf] at HFI
  rw [A.oldv]
  have HA := Lib.hid A
  have hlen : xs.length ≤ 1000 := by have := G.len; have := G.hi; omega
  clear H G hf A
  go_enter Try.func16, Try.ntmps16
  go_wp2_with fail
  refine HFI.out.mono ?_
  rintro e w1 ⟨rfl, ho⟩
  have HR8 := Lib.hid (ho.heap (heap_alloc_new w _) (fun h => h))
  have HO := Lib.hid ((Only.alloc (fun _ => False) w _).tr ho)
  have A1 := HA.out.on HO.out
  have c1 := cells_of_heap A1.hb 1 (.slice (some ⟨g, off, none⟩) xs.length c) rfl
  have c2 := A1.val
  have hp := A1.lt
  have hlb := heap_lt A1.hb
  have hlg := World.block_lt_of_cell? w1 _ A1.val
  dsimp only at hlg
  have hgb : ¬ g = b := A1.hne
  have HA1 := Lib.hid A1
  have hl8 := heap_lt HR8.out
  have hg0 := World.block_lt_of_cell? w _ HA.out.val
  dsimp only at hg0
  have hb0 := heap_lt HA.out.hb
  have fz := A1.frz
  clear ho A1
  obtain ⟨p, hpe⟩ : ∃ p, p = posP xs key := ⟨_, rfl⟩
  rw [← hpe] at c2 hp fz ⊢
  clear HFI
  have HPE := Lib.hid hpe
  clear hpe
  have hi0 : (0 : Int) ≤ (p : Int) := by omega
  have hi1 : (p : Int) < (xs.length : Int) := by omega
  go_wp2_with fail
  go_quiet (fail)
  go_upto_region 21 with (fail)
  obtain ⟨W2, hW2⟩ : ∃ W2, W2 = (w1.alloc (.cells #[.int .i64 0, .bool true, .int .u64 old, .bool false, .int .u64 0, .int .u64 0] 35)).drewN nq := ⟨_, rfl⟩
  have hr11' : W2.heap[w1.heap.size]? = some (.cells #[.int .i64 0, .bool true, .int .u64 (old), .bool false, .int .u64 0, .int .u64 0] 35 (0, 0)) := by
    rw [hW2]; exact heap_alloc_new w1 _
  have hr8' : W2.heap[w.heap.size]? = some (.cells #[.int .i64 0, .bool false, .int .u64 0, .bool false, .int .u64 0, .int .u64 0] 35 (0, 0)) := by
    rw [hW2]; exact heap_alloc (w := w1) HR8.out
  have o2 : Only (fun k => w1.heap.size ≤ k) w1 W2 := by
    rw [hW2]; exact (Only.alloc _ _ _).drewN nq
  have hfin := fun cs => setval_fin HA.out HO.out o2 hl8 (val) cs
  rw [← HPE.out] at hfin
  obtain ⟨W3, hW3⟩ : ∃ W3, W3 = W2.setCell ⟨g, off + p * 2 + 1, none⟩ (.int .u64 (val)) := ⟨_, rfl⟩
  have hr11 := heap_setCell_far hr11' g (off + p * 2 + 1) (.int .u64 (val)) (by omega)
  have hr8 := heap_setCell_far hr8' g (off + p * 2 + 1) (.int .u64 (val)) (by omega)
  rw [← hW3] at hr11 hr8 hfin
  rw [← hW2, ← hW3]
  have e0 := cells_of_heap hr11 0 (.int .i64 0) rfl
  have e1 := cells_of_heap hr11 1 (.bool true) rfl
  have e2 := cells_of_heap hr11 2 (.int .u64 (old)) rfl
  have e3 := cells_of_heap hr11 3 (.bool false) rfl
  have e4 := cells_of_heap hr11 4 (.int .u64 0) rfl
  have e5 := cells_of_heap hr11 5 (.int .u64 0) rfl
  have HF3 := Lib.hid hfin
  have HR83 := Lib.hid hr8
  clear hW2 hW3 hr11 hr8 hr11' hr8' hfin o2 c1 c2 fz
  go_wp2_with (refine wpList_store_row rfl 35 (.tmp 8) (.tmp 105) rfl w.heap.size _ rfl rfl 35 _ HR83.out (by kernel_rfl) rfl (res_one _ _ _ _ _ _) ?_)
  refine bodyPost_ret (results_cell_row rfl _ _ w.heap.size _ _ _ _ rfl (setRow_heap _ _ _ _ _ _ HR83.out) Try.underlying35 rfl (by kernel_rfl)) rfl ?_
  exact ⟨rfl, by have h := HF3.out #[.int .i64 0, .bool true, .int .u64 (old), .bool false, .int .u64 0, .int .u64 0]; rw [HPE.out] at h; exact h⟩

end Go.Proofs.Ytodacnpbhlkoiaa
