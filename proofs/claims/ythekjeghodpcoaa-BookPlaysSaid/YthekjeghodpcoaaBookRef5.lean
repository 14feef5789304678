/- book: the document's Do, put of a new key. -/
import Derived.Test.YthekjeghodpcoaaBookRef4
namespace Go.Proofs.Ythekjeghodpcoaa
open Go.RowKit
set_option linter.unusedVariables false
set_option linter.unusedSimpArgs false

theorem ref_fin2 {b : Nat} {cap : Int} {S : Nat → Prop} {w w2 : World} {v' : Value} {ys : List PairD} {m : Nat} (hb2 : w2.heap[b]? = some (.cells #[.int .i64 cap, v'] 47 (0, 0))) (hSb : S b) (hbl : b < w.heap.size)
    (how : OwS ePair 39 (fun k => (S k ∧ k < w.heap.size) ∨ m ≤ k) w2 v' ys) (hm : w.heap.size < m) (ho : Only (fun k => (S k ∧ k < w.heap.size) ∨ w.heap.size ≤ k) w w2) (cs : Array Value) :
    RefS b cap ys (fun k => S k ∨ w.heap.size ≤ k) (w2.setRow w.heap.size cs) ∧ Only S w (w2.setRow w.heap.size cs) := by
  have B2 : RefS b cap ys (fun k => (S k ∧ k < w.heap.size) ∨ m ≤ k) w2 := ⟨v', hb2, how.1, .inl ⟨hSb, hbl⟩, how.2⟩
  have o3 := only_setRow w2 w.heap.size cs
  refine ⟨RefS.framed.mono _ _ _ (RefS.framed.only _ _ _ _ B2 o3 fun k _ h e => by omega) fun k _ h => ?_, ?_⟩
  · rcases h with h | h
    · exact .inl h.1
    · exact .inr (by omega)
  · refine (ho.trans o3 (fun j hj e => .inr (by omega))).mono fun k hk h => ?_
    rcases h with h | h
    · exact h.1
    · omega

set_option maxRecDepth 100000 in
set_option maxHeartbeats 2000000 in
theorem refPut_no (x : Nat) (cap : Int) (L : List PairD) (S : Nat → Prop) (key val : Int) (w : World) (H : RefS x cap L S w) (hL : L.length ≤ 16) (hh : hasP L key = false) (hfull : ¬ cap ≤ (L.length : Int)) :
    Calls Try.prog 15 #[.pointer (some ⟨x, 0, none⟩), .int .i64 2, .int .u64 key, .int .u64 val] w (RefPost x S cap w (resF false 0) (L ++ [(key, val)])) := by
  have HPL := Lib.hid (place_any x cap L S key _ (RefS.framed.alloc H (.cells #[.int .i64 0, .bool false, .int .u64 0, .bool false, .int .u64 0, .int .u64 0] 30)) hL)
  have hp : placeP L key = -1 := by unfold placeP; rw [hh]; rfl
  rw [hp] at HPL
  clear hp
  obtain ⟨v, hg, hown, hS, hvS⟩ := H
  obtain ⟨_, ao, cap2, rfl, _, _, _⟩ := id hown.rd
  have HNE := Lib.hid (row_ne hg hown (by decide))
  have HVS := Lib.hid hvS
  have HSX := Lib.hid hS
  have HW := Lib.hid (show OwS ePair 39 (fun k => (Value.slice ao L.length cap2).ownBlock = some k) w (.slice ao L.length cap2) L from ⟨hown, fun _ h => h⟩)
  have HG := Lib.hid hg
  clear hg hown hS hvS hh
  go_enter Try.func15, Try.ntmps15
  go_wp2_with fail
  refine HPL.out.mono ?_
  rintro e w1 ⟨rfl, ho⟩
  have hr8 := ho.heap (heap_alloc_new w _) (fun h => h)
  have hgx := ho.heap (heap_alloc HG.out) (fun h => h)
  have HR8 := Lib.hid hr8
  have HGX := Lib.hid hgx
  have c0 := cells_of_heap hgx 0 _ rfl
  have c1 := cells_of_heap hgx 1 _ rfl
  have HO := Lib.hid ((Only.alloc (fun _ => False) w _).tr ho)
  have HW1 := Lib.hid (OwS.framed.only _ _ _ _ HW.out HO.out (fun _ _ _ h => h))
  have hxl : x < w1.heap.size := heap_lt hgx
  clear hr8 ho hgx
  go_wp2_with fail
  go_quiet (fail)
  obtain ⟨wd, hwd⟩ : ∃ wd, wd = w1.drewN nq := ⟨_, rfl⟩
  rw [← hwd]
  have hgd : wd.heap[x]? = some (.cells #[.int .i64 cap, .slice ao L.length cap2] 47 (0, 0)) := by rw [hwd]; exact HGX.out
  have HGD := Lib.hid hgd
  have HRD8 := Lib.hid (show wd.heap[w.heap.size]? = some (.cells #[.int .i64 0, .bool false, .int .u64 0, .bool false, .int .u64 0, .int .u64 0] 30 (0, 0)) by rw [hwd]; exact HR8.out)
  have HOD := Lib.hid (show Only (fun _ => False) w wd by rw [hwd]; exact HO.out.drewN nq)
  have HWD := Lib.hid (OwS.framed.only _ _ _ _ HW.out HOD.out (fun _ _ _ h => h))
  clear hwd c0 c1 hxl HO HW1 HR8 HGX
  have c0 := cells_of_heap hgd 0 _ rfl
  have c1 := cells_of_heap hgd 1 _ rfl
  have hxl : x < wd.heap.size := heap_lt hgd
  clear hgd
  have HWA := Lib.hid (OwS.framed.alloc (OwS.framed.alloc HWD.out (.cells #[.int .i64 0, .bool false, .int .u64 0, .bool false, .int .u64 0, .int .u64 0] 30)) (.cells #[.int .u64 key, .int .u64 val] 39))
  have HRD := Lib.hid (Rd.lit2 (E := ePair) wd (.cells #[.int .i64 0, .bool false, .int .u64 0, .bool false, .int .u64 0, .int .u64 0] 30) #[.int .u64 key, .int .u64 val] 39 (0, 0) 1 1 [(key, val)] rfl rfl (by simp) (by simp [maxLen]))
  go_wp2_with (at_builtin; refine wl_appendS (E := ePair) rfl _ (.tmp 80) _ rfl 39 16 ePair_slice (fun k => (Value.slice ao L.length cap2).ownBlock = some k) _ L rfl HWA.out _ [(key, val)] rfl HRD.out (by simp only [List.length_cons, List.length_nil]; omega) (by unfold maxLen; simp only [List.length_cons, List.length_nil]; omega) ?_)
  intro v5 w5 h5 hO5
  obtain ⟨_, ao5, c5, rfl, _⟩ := id h5.1
  have hln : (L ++ [((key, val) : PairD)]).length = L.length + 1 := by simp
  rw [hln] at h5 ⊢
  clear hln
  have hx5 := hO5.heap (heap_alloc (p := .cells #[.int .u64 key, .int .u64 val] 39) (heap_alloc (p := .cells #[.int .i64 0, .bool false, .int .u64 0, .bool false, .int .u64 0, .int .u64 0] 30) HGD.out)) HNE.out
  have hwl : w.heap.size < wd.heap.size := heap_lt HRD8.out
  have hown : ∀ k, (Value.slice ao L.length cap2).ownBlock = some k → k < w.heap.size := fun k hk => (HW.out.1.lt hk).2
  have h85 := hO5.heap (heap_alloc (p := .cells #[.int .u64 key, .int .u64 val] 39) (heap_alloc (p := .cells #[.int .i64 0, .bool false, .int .u64 0, .bool false, .int .u64 0, .int .u64 0] 30) HRD8.out)) (fun h => by have := hown _ h; omega)
  have h125 := hO5.heap (heap_alloc (p := .cells #[.int .u64 key, .int .u64 val] 39) (heap_alloc_new wd (.cells #[.int .i64 0, .bool false, .int .u64 0, .bool false, .int .u64 0, .int .u64 0] 30))) (fun h => by have := hown _ h; omega)
  have hx0 := heap_lt HG.out
  have e1 := cells_of_heap hx5 1 _ rfl
  have fx : ∀ i, w5.frozen? ⟨x, i, none⟩ = false := fun i => by simp [World.frozen?, hx5]
  have r8 := heap_setCell_far h85 x 1 (.slice ao5 (L.length + 1) c5) (by omega)
  have r12 := heap_setCell_far h125 x 1 (.slice ao5 (L.length + 1) c5) (by omega)
  have rx := blk_set hx5 1 (.slice ao5 (L.length + 1) c5)
  obtain ⟨b0, b1, b2, b3, b4, b5⟩ := res_cells r12
  have hO5' : Only (fun k => (S k ∧ k < w.heap.size) ∨ w.heap.size ≤ k) w w5 := ((HOD.out.wide.tr (Only.alloc _ _ _)).tr (Only.alloc _ _ _)).trans hO5 fun k hk h => .inl ⟨HVS.out k h, hown k h⟩
  have HFIN := Lib.hid (fun cs => ref_fin2 (S := S) (m := w.heap.size + 1) (w := w) rx HSX.out hx0 ⟨h5.1.only (Only.setCell (fun k => k = x) w5 x 1 _ rfl) (fun k hk e => row_ne hx5 h5.1 (by decide) (by rw [hk, e])), fun k hk => by
      rcases h5.2 k hk with h | h
      · exact .inl ⟨HVS.out k h, hown k h⟩
      · refine .inr ?_
        omega⟩ (by omega) (hO5'.trans (Only.setCell (fun k => k = x) w5 x 1 _ rfl) fun k hk e => .inl ⟨by rw [e]; exact HSX.out, by omega⟩) cs)
  have R8 := Lib.hid r8
  have hl5 : x < w5.heap.size := heap_lt hx5
  clear h5 hO5 hx5 h85 h125 r8 r12 rx hO5' hown HWA HRD HWD HOD c0 c1
  go_wp2_with (refine wpList_store_row rfl 30 (.tmp 8) (.tmp 92) rfl w.heap.size _ rfl rfl 30 _ R8.out (by kernel_rfl) rfl (res_one _ _ _ _ _ _) ?_)
  refine bodyPost_ret (results_cell_row rfl _ _ w.heap.size _ _ _ _ rfl (setRow_heap _ _ _ _ _ _ R8.out) Try.underlying30 rfl (by kernel_rfl)) rfl ?_
  exact ⟨rfl, HFIN.out _⟩
end Go.Proofs.Ythekjeghodpcoaa
