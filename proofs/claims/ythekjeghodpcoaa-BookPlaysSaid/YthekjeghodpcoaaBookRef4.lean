/- book: the document's Do, add to a key that is there. -/
import Derived.Test.YthekjeghodpcoaaBookRef3
namespace Go.Proofs.Ythekjeghodpcoaa
open Go.RowKit
set_option linter.unusedVariables false
set_option linter.unusedSimpArgs false

set_option maxRecDepth 100000 in
set_option maxHeartbeats 2000000 in
theorem refAdd_yes (x : Nat) (cap : Int) (L : List PairD) (S : Nat → Prop) (key val : Int) (w : World) (H : RefS x cap L S w) (hL : L.length ≤ 16) (p : Nat) (hp : p < L.length) (hpl : placeP L key = p) (hk : L[p].1 = key) :
    Calls Try.prog 15 #[.pointer (some ⟨x, 0, none⟩), .int .i64 4, .int .u64 key, .int .u64 val] w (RefPost x S cap w (resF true (add64 L[p].2 val)) (L.set p (key, add64 L[p].2 val))) := by
  have H0 := Lib.hid H
  have HPL := Lib.hid (place_any x cap L S key _ (RefS.framed.alloc H (.cells #[.int .i64 0, .bool false, .int .u64 0, .bool false, .int .u64 0, .int .u64 0] 30)) hL)
  rw [hpl] at HPL
  clear hpl
  obtain ⟨v, hg, hown, hS, hvS⟩ := H
  have hgne := row_ne hg hown (by decide)
  obtain ⟨_, ao, cap2, rfl, _, _, hx⟩ := id hown.rd
  obtain ⟨sb, off, rfl, hc⟩ := hx (by omega)
  obtain ⟨g', off', hgo, _, hcell⟩ := hown.at_ p hp
  obtain ⟨rfl, rfl⟩ : sb = g' ∧ off = off' := by simpa using hgo
  have hfz := (hcell 1 (by decide)).2
  rw [← Nat.add_assoc] at hfz
  have HFZ := Lib.hid (show w.frozen? ⟨sb, off + p * 2 + 1, none⟩ = false from hfz)
  obtain ⟨_, k1⟩ := pair_cells hc p hp
  have HK1 := Lib.hid k1
  have hpi0 : (0 : Int) ≤ (p : Int) := by omega
  have hpi1 : (p : Int) < (L.length : Int) := by omega
  have HSB := Lib.hid (show sb < w.heap.size from (hown.lt rfl).2)
  have HSX := Lib.hid (show x ≠ sb from fun e => hgne (by simp [Value.ownBlock, e]))
  have HG := Lib.hid hg
  have HFIN := Lib.hid (fun w1 W2 HO o2 hl8 cs => ref_setfin (w1 := w1) (W2 := W2) (nv := add64 (L[p]'hp).2 val) H0.out hg HO hp hk o2 hl8 cs)
  clear hg hown hS hvS hx hc k1 hgne hfz hcell hgo hk
  generalize L[p].2 = old at *
  unfold add64 at *
  go_enter Try.func15, Try.ntmps15
  go_wp2_with fail
  refine HPL.out.mono ?_
  rintro e w1 ⟨rfl, ho⟩
  have hr8 := ho.heap (heap_alloc_new w _) (fun h => h)
  have hgx := ho.heap (heap_alloc HG.out) (fun h => h)
  have HR8 := Lib.hid hr8
  have HGX := Lib.hid hgx
  have c0 := cells_of_heap hgx 0 _ rfl
  have c1 := cells_of_heap hgx 1 _ rfl
  have HO := Lib.hid ((Only.alloc (fun _ => False) w _).tr ho)
  have hsw := HO.out.size
  have d1 : w1.cell? ⟨sb, off + p * 2 + 1, none⟩ = some (.int .u64 old) := (World.cell?_of_block (w := w) (w' := w1) (a := ⟨sb, off + p * 2 + 1, none⟩) (HO.out.block sb HSB.out (fun h => h))).trans HK1.out
  have f1 : w1.frozen? ⟨sb, off + p * 2 + 1, none⟩ = false := (World.frozen?_of_block (w := w) (w' := w1) (a := ⟨sb, off + p * 2 + 1, none⟩) (HO.out.block sb HSB.out (fun h => h))).trans HFZ.out
  have hxl : x < w1.heap.size := heap_lt hgx
  have hsl : sb < w1.heap.size := by have := HSB.out; omega
  clear hr8 ho hgx
  go_wp2_with fail
  refine wp_region_noPanic ?_
  refine wp_region_held_drew (S := fun _ => True) (by kernel_rfl) ?_ (fun hHeld => ?_)
  · exact trivial
  try simp only [Act.put, List.getElem_toArray, List.getElem_cons_succ, List.getElem_cons_zero, List.setIfInBounds_toArray, List.set_cons_zero, List.set_cons_succ]
  refine wpAnyH_take (i := 0) (v := ?v0) rfl (by kernel_rfl) (by kernel_rfl) (by kernel_rfl) (fun _ _ _ h => h) (Or.inl ⟨by rfl, ?hy0⟩) (by assumption) ?rest0
  case hy0 =>
    intro w hSw
    try dsimp only at hSw
    go_simp
    all_goals with_reducible rfl
  simp only [Act.put, List.getElem_toArray, List.getElem_cons_succ, List.getElem_cons_zero, List.setIfInBounds_toArray, List.set_cons_zero, List.set_cons_succ]
  refine wpAnyH_take (i := 1) (v := ?v1) rfl (by kernel_rfl) (by kernel_rfl) (by kernel_rfl) (fun _ _ _ h => h) (Or.inl ⟨by rfl, ?hy1⟩) (by assumption) ?rest1
  case hy1 =>
    intro w hSw
    try dsimp only at hSw
    go_simp
    all_goals with_reducible rfl
  simp only [Act.put, List.getElem_toArray, List.getElem_cons_succ, List.getElem_cons_zero, List.setIfInBounds_toArray, List.set_cons_zero, List.set_cons_succ]
  refine wpAnyH_take (i := 2) (v := ?v2) rfl (by kernel_rfl) (by kernel_rfl) (by kernel_rfl) (fun _ _ _ h => h) (Or.inl ⟨by rfl, ?hy2⟩) (by assumption) ?rest2
  case hy2 =>
    intro w hSw
    try dsimp only at hSw
    go_simp
    all_goals with_reducible rfl
  simp only [Act.put, List.getElem_toArray, List.getElem_cons_succ, List.getElem_cons_zero, List.setIfInBounds_toArray, List.set_cons_zero, List.set_cons_succ]
  refine wpAnyH_take (i := 3) (v := undef) rfl (by kernel_rfl) (by kernel_rfl) (by kernel_rfl) (fun _ _ _ h => h) (Or.inr ⟨by rfl, rfl⟩) (by assumption) ?_
  simp only [Act.put, List.getElem_toArray, List.getElem_cons_succ, List.getElem_cons_zero, List.setIfInBounds_toArray, List.set_cons_zero, List.set_cons_succ]
  refine wpAnyH_take (i := 4) (v := undef) rfl (by kernel_rfl) (by kernel_rfl) (by kernel_rfl) (fun _ _ _ h => h) (Or.inr ⟨by rfl, rfl⟩) (by assumption) ?_
  simp only [Act.put, List.getElem_toArray, List.getElem_cons_succ, List.getElem_cons_zero, List.setIfInBounds_toArray, List.set_cons_zero, List.set_cons_succ]
  refine wpAnyH_take (i := 5) (v := undef) rfl (by kernel_rfl) (by kernel_rfl) (by kernel_rfl) (fun _ _ _ h => h) (Or.inr ⟨by rfl, rfl⟩) (by assumption) ?_
  simp only [Act.put, List.getElem_toArray, List.getElem_cons_succ, List.getElem_cons_zero, List.setIfInBounds_toArray, List.set_cons_zero, List.set_cons_succ]
  refine wpAnyH_take (i := 6) (v := undef) rfl (by kernel_rfl) (by kernel_rfl) (by kernel_rfl) (fun _ _ _ h => h) (Or.inr ⟨by rfl, rfl⟩) (by assumption) ?_
  simp only [Act.put, List.getElem_toArray, List.getElem_cons_succ, List.getElem_cons_zero, List.setIfInBounds_toArray, List.set_cons_zero, List.set_cons_succ]
  refine wpAnyH_take (i := 7) (v := undef) rfl (by kernel_rfl) (by kernel_rfl) (by kernel_rfl) (fun _ _ _ h => h) (Or.inr ⟨by rfl, rfl⟩) (by assumption) ?_
  simp only [Act.put, List.getElem_toArray, List.getElem_cons_succ, List.getElem_cons_zero, List.setIfInBounds_toArray, List.set_cons_zero, List.set_cons_succ]
  refine wpAnyH_take (i := 8) (v := undef) rfl (by kernel_rfl) (by kernel_rfl) (by kernel_rfl) (fun _ _ _ h => h) (Or.inr ⟨by rfl, rfl⟩) (by assumption) ?_
  simp only [Act.put, List.getElem_toArray, List.getElem_cons_succ, List.getElem_cons_zero, List.setIfInBounds_toArray, List.set_cons_zero, List.set_cons_succ]
  refine wpAnyH_take (i := 9) (v := undef) rfl (by kernel_rfl) (by kernel_rfl) (by kernel_rfl) (fun _ _ _ h => h) (Or.inr ⟨by rfl, rfl⟩) (by assumption) ?_
  simp only [Act.put, List.getElem_toArray, List.getElem_cons_succ, List.getElem_cons_zero, List.setIfInBounds_toArray, List.set_cons_zero, List.set_cons_succ]
  refine wpAnyH_take (i := 10) (v := undef) rfl (by kernel_rfl) (by kernel_rfl) (by kernel_rfl) (fun _ _ _ h => h) (Or.inr ⟨by rfl, rfl⟩) (by assumption) ?_
  simp only [Act.put, List.getElem_toArray, List.getElem_cons_succ, List.getElem_cons_zero, List.setIfInBounds_toArray, List.set_cons_zero, List.set_cons_succ]
  refine wpAnyH_take (i := 11) (v := undef) rfl (by kernel_rfl) (by kernel_rfl) (by kernel_rfl) (fun _ _ _ h => h) (Or.inr ⟨by rfl, rfl⟩) (by assumption) ?_
  simp only [Act.put, List.getElem_toArray, List.getElem_cons_succ, List.getElem_cons_zero, List.setIfInBounds_toArray, List.set_cons_zero, List.set_cons_succ]
  refine wpAnyH_take (i := 12) (v := undef) rfl (by kernel_rfl) (by kernel_rfl) (by kernel_rfl) (fun _ _ _ h => h) (Or.inr ⟨by rfl, rfl⟩) (by assumption) ?_
  simp only [Act.put, List.getElem_toArray, List.getElem_cons_succ, List.getElem_cons_zero, List.setIfInBounds_toArray, List.set_cons_zero, List.set_cons_succ]
  refine wpAnyH_take (i := 13) (v := ?v13) rfl (by kernel_rfl) (by kernel_rfl) (by kernel_rfl) (fun _ _ _ h => h) (Or.inl ⟨by rfl, ?hy13⟩) (by assumption) ?rest13
  case hy13 =>
    intro w hSw
    try dsimp only at hSw
    go_simp
    all_goals with_reducible rfl
  simp only [Act.put, List.getElem_toArray, List.getElem_cons_succ, List.getElem_cons_zero, List.setIfInBounds_toArray, List.set_cons_zero, List.set_cons_succ]
  refine wpAnyH_take (i := 14) (v := ?v14) rfl (by kernel_rfl) (by kernel_rfl) (by kernel_rfl) (fun _ _ _ h => h) (Or.inl ⟨by rfl, ?hy14⟩) (by assumption) ?rest14
  case hy14 =>
    intro w hSw
    try dsimp only at hSw
    go_simp
    all_goals with_reducible rfl
  simp only [Act.put, List.getElem_toArray, List.getElem_cons_succ, List.getElem_cons_zero, List.setIfInBounds_toArray, List.set_cons_zero, List.set_cons_succ]
  refine wpAnyH_done (by kernel_rfl) ?_ _
  refine NoPanic.normal ?_
  have HH := Lib.hid (show (((w1.setCell ⟨sb, off + p * 2 + 1, none⟩ (.int .u64 (IntKind.u64.wrap (old + val)))).alloc (.cells #[.int .i64 0, .bool true, .int .u64 (IntKind.u64.wrap (old + val)), .bool false, .int .u64 0, .int .u64 0] 30)).drew).heap[w.heap.size]? = some (.cells #[.int .i64 0, .bool false, .int .u64 0, .bool false, .int .u64 0, .int .u64 0] 30 (0, 0)) from
    heap_alloc (w := w1.setCell ⟨sb, off + p * 2 + 1, none⟩ (.int .u64 (IntKind.u64.wrap (old + val)))) (heap_setCell_far HR8.out _ _ _ (by have := HSB.out; omega)))
  have HLT := Lib.hid (heap_lt HR8.out)
  go_wp2_with (refine wpList_store_row rfl 30 (.tmp 8) (.tmp 92) rfl w.heap.size _ rfl rfl 30 _ HH.out (by kernel_rfl) rfl (res_one _ _ _ _ _ _) ?_)
  refine bodyPost_ret (results_cell_row rfl _ _ w.heap.size _ _ _ _ rfl (setRow_heap _ _ _ _ _ _ HH.out) Try.underlying30 rfl (by kernel_rfl)) rfl ?_
  exact ⟨rfl, HFIN.out w1 _ HO.out ((Only.alloc _ _ _).drew_.mono fun k _ h => h) HLT.out _⟩
end Go.Proofs.Ythekjeghodpcoaa
