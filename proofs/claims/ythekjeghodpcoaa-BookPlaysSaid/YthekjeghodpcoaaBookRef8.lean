/- book: the document's Do, delete of a key that is there (under way). -/
import Derived.Test.YthekjeghodpcoaaBookRef7
namespace Go.Proofs.Ythekjeghodpcoaa
open Go.RowKit
set_option linter.unusedVariables false
set_option linter.unusedSimpArgs false

set_option maxRecDepth 100000 in
set_option maxHeartbeats 2000000 in
theorem refDel_yes (x : Nat) (cap : Int) (L : List PairD) (S : Nat → Prop) (key val : Int) (w : World) (H : RefS x cap L S w) (hL : L.length ≤ 16) (p : Nat) (hp : p < L.length) (hpl : placeP L key = p) :
    Calls Try.prog 15 #[.pointer (some ⟨x, 0, none⟩), .int .i64 3, .int .u64 key, .int .u64 val] w (RefPost x S cap w (resF true L[p].2) (L.eraseIdx p)) := by
  have H0 := Lib.hid H
  have HPL := Lib.hid (place_any x cap L S key _ (RefS.framed.alloc H (.cells #[.int .i64 0, .bool false, .int .u64 0, .bool false, .int .u64 0, .int .u64 0] 30)) hL)
  rw [hpl] at HPL
  clear hpl
  obtain ⟨v, hg, hown, hS, hvS⟩ := H
  have hgne := row_ne hg hown (by decide)
  obtain ⟨_, ao, cap2, rfl, _, _, hx⟩ := id hown.rd
  obtain ⟨sb, off, rfl, hc⟩ := hx (by omega)
  obtain ⟨g', off', hgo, _, hcell⟩ := hown.at_ p hp
  obtain ⟨rfl, rfl⟩ : sb = g' ∧ off = off' := by simpa using hgo
  have hfz := (hcell 1 (by decide)).2
  rw [← Nat.add_assoc] at hfz
  have HFZ := Lib.hid (show w.frozen? ⟨sb, off + p * 2 + 1, none⟩ = false from hfz)
  obtain ⟨_, k1⟩ := pair_cells hc p hp
  have HK1 := Lib.hid k1
  have hpi0 : (0 : Int) ≤ (p : Int) := by omega
  have hpi1 : (p : Int) < (L.length : Int) := by omega
  have HSB := Lib.hid (show sb < w.heap.size from (hown.lt rfl).2)
  have HRDL := Lib.hid hown.rd
  have HSX := Lib.hid (show x ≠ sb from fun e => hgne (by simp [Value.ownBlock, e]))
  have HG := Lib.hid hg
  clear hg hown hS hvS hx hc k1 hgne hfz hcell hgo
  obtain ⟨old, hold⟩ : ∃ old, old = L[p].2 := ⟨_, rfl⟩
  rw [← hold] at HK1 ⊢
  clear hold
  go_enter Try.func15, Try.ntmps15
  go_wp2_with fail
  refine HPL.out.mono ?_
  rintro e w1 ⟨rfl, ho⟩
  have hr8 := ho.heap (heap_alloc_new w _) (fun h => h)
  have hgx := ho.heap (heap_alloc HG.out) (fun h => h)
  have HR8 := Lib.hid hr8
  have HGX := Lib.hid hgx
  have c0 := cells_of_heap hgx 0 _ rfl
  have c1 := cells_of_heap hgx 1 _ rfl
  have HO := Lib.hid ((Only.alloc (fun _ => False) w _).tr ho)
  have hsw := HO.out.size
  have d1 : w1.cell? ⟨sb, off + p * 2 + 1, none⟩ = some (.int .u64 old) := (World.cell?_of_block (w := w) (w' := w1) (a := ⟨sb, off + p * 2 + 1, none⟩) (HO.out.block sb HSB.out (fun h => h))).trans HK1.out
  have f1 : w1.frozen? ⟨sb, off + p * 2 + 1, none⟩ = false := (World.frozen?_of_block (w := w) (w' := w1) (a := ⟨sb, off + p * 2 + 1, none⟩) (HO.out.block sb HSB.out (fun h => h))).trans HFZ.out
  have hxl : x < w1.heap.size := heap_lt hgx
  have hsl : sb < w1.heap.size := by have := HSB.out; omega
  clear hr8 ho hgx
  go_wp2_with fail
  refine wp_region_noPanic ?_
  refine wp_region_held_drew (S := fun _ => True) (by kernel_rfl) ?_ (fun hHeld => ?_)
  · exact trivial
  try simp only [Act.put, List.getElem_toArray, List.getElem_cons_succ, List.getElem_cons_zero, List.setIfInBounds_toArray, List.set_cons_zero, List.set_cons_succ]
  refine wpAnyH_take (i := 0) (v := ?v0) rfl (by kernel_rfl) (by kernel_rfl) (by kernel_rfl) (fun _ _ _ h => h) (Or.inl ⟨by rfl, ?hy0⟩) (by assumption) ?rest0
  case hy0 =>
    intro w hSw
    try dsimp only at hSw
    go_simp
    all_goals with_reducible rfl
  simp only [Act.put, List.getElem_toArray, List.getElem_cons_succ, List.getElem_cons_zero, List.setIfInBounds_toArray, List.set_cons_zero, List.set_cons_succ]
  refine wpAnyH_take (i := 1) (v := ?v1) rfl (by kernel_rfl) (by kernel_rfl) (by kernel_rfl) (fun _ _ _ h => h) (Or.inl ⟨by rfl, ?hy1⟩) (by assumption) ?rest1
  case hy1 =>
    intro w hSw
    try dsimp only at hSw
    go_simp
    all_goals with_reducible rfl
  simp only [Act.put, List.getElem_toArray, List.getElem_cons_succ, List.getElem_cons_zero, List.setIfInBounds_toArray, List.set_cons_zero, List.set_cons_succ]
  refine wpAnyH_take (i := 2) (v := ?v2) rfl (by kernel_rfl) (by kernel_rfl) (by kernel_rfl) (fun _ _ _ h => h) (Or.inl ⟨by rfl, ?hy2⟩) (by assumption) ?rest2
  case hy2 =>
    intro w hSw
    try dsimp only at hSw
    go_simp
    all_goals with_reducible rfl
  simp only [Act.put, List.getElem_toArray, List.getElem_cons_succ, List.getElem_cons_zero, List.setIfInBounds_toArray, List.set_cons_zero, List.set_cons_succ]
  refine wpAnyH_take (i := 3) (v := undef) rfl (by kernel_rfl) (by kernel_rfl) (by kernel_rfl) (fun _ _ _ h => h) (Or.inr ⟨by rfl, rfl⟩) (by assumption) ?_
  simp only [Act.put, List.getElem_toArray, List.getElem_cons_succ, List.getElem_cons_zero, List.setIfInBounds_toArray, List.set_cons_zero, List.set_cons_succ]
  refine wpAnyH_take (i := 4) (v := undef) rfl (by kernel_rfl) (by kernel_rfl) (by kernel_rfl) (fun _ _ _ h => h) (Or.inr ⟨by rfl, rfl⟩) (by assumption) ?_
  simp only [Act.put, List.getElem_toArray, List.getElem_cons_succ, List.getElem_cons_zero, List.setIfInBounds_toArray, List.set_cons_zero, List.set_cons_succ]
  refine wpAnyH_take (i := 5) (v := undef) rfl (by kernel_rfl) (by kernel_rfl) (by kernel_rfl) (fun _ _ _ h => h) (Or.inr ⟨by rfl, rfl⟩) (by assumption) ?_
  simp only [Act.put, List.getElem_toArray, List.getElem_cons_succ, List.getElem_cons_zero, List.setIfInBounds_toArray, List.set_cons_zero, List.set_cons_succ]
  refine wpAnyH_take (i := 6) (v := undef) rfl (by kernel_rfl) (by kernel_rfl) (by kernel_rfl) (fun _ _ _ h => h) (Or.inr ⟨by rfl, rfl⟩) (by assumption) ?_
  simp only [Act.put, List.getElem_toArray, List.getElem_cons_succ, List.getElem_cons_zero, List.setIfInBounds_toArray, List.set_cons_zero, List.set_cons_succ]
  refine wpAnyH_take (i := 7) (v := undef) rfl (by kernel_rfl) (by kernel_rfl) (by kernel_rfl) (fun _ _ _ h => h) (Or.inr ⟨by rfl, rfl⟩) (by assumption) ?_
  simp only [Act.put, List.getElem_toArray, List.getElem_cons_succ, List.getElem_cons_zero, List.setIfInBounds_toArray, List.set_cons_zero, List.set_cons_succ]
  refine wpAnyH_take (i := 8) (v := undef) rfl (by kernel_rfl) (by kernel_rfl) (by kernel_rfl) (fun _ _ _ h => h) (Or.inr ⟨by rfl, rfl⟩) (by assumption) ?_
  simp only [Act.put, List.getElem_toArray, List.getElem_cons_succ, List.getElem_cons_zero, List.setIfInBounds_toArray, List.set_cons_zero, List.set_cons_succ]
  refine wpAnyH_take (i := 9) (v := undef) rfl (by kernel_rfl) (by kernel_rfl) (by kernel_rfl) (fun _ _ _ h => h) (Or.inr ⟨by rfl, rfl⟩) (by assumption) ?_
  simp only [Act.put, List.getElem_toArray, List.getElem_cons_succ, List.getElem_cons_zero, List.setIfInBounds_toArray, List.set_cons_zero, List.set_cons_succ]
  refine wpAnyH_take (i := 10) (v := undef) rfl (by kernel_rfl) (by kernel_rfl) (by kernel_rfl) (fun _ _ _ h => h) (Or.inr ⟨by rfl, rfl⟩) (by assumption) ?_
  simp only [Act.put, List.getElem_toArray, List.getElem_cons_succ, List.getElem_cons_zero, List.setIfInBounds_toArray, List.set_cons_zero, List.set_cons_succ]
  refine wpAnyH_take (i := 11) (v := undef) rfl (by kernel_rfl) (by kernel_rfl) (by kernel_rfl) (fun _ _ _ h => h) (Or.inr ⟨by rfl, rfl⟩) (by assumption) ?_
  simp only [Act.put, List.getElem_toArray, List.getElem_cons_succ, List.getElem_cons_zero, List.setIfInBounds_toArray, List.set_cons_zero, List.set_cons_succ]
  refine wpAnyH_take (i := 12) (v := undef) rfl (by kernel_rfl) (by kernel_rfl) (by kernel_rfl) (fun _ _ _ h => h) (Or.inr ⟨by rfl, rfl⟩) (by assumption) ?_
  simp only [Act.put, List.getElem_toArray, List.getElem_cons_succ, List.getElem_cons_zero, List.setIfInBounds_toArray, List.set_cons_zero, List.set_cons_succ]
  refine wpAnyH_take (i := 13) (v := ?v13) rfl (by kernel_rfl) (by kernel_rfl) (by kernel_rfl) (fun _ _ _ h => h) (Or.inl ⟨by rfl, ?hy13⟩) (by assumption) ?rest13
  case hy13 =>
    intro w hSw
    try dsimp only at hSw
    go_simp
    all_goals with_reducible rfl
  simp only [Act.put, List.getElem_toArray, List.getElem_cons_succ, List.getElem_cons_zero, List.setIfInBounds_toArray, List.set_cons_zero, List.set_cons_succ]
  refine wpAnyH_take (i := 14) (v := ?v14) rfl (by kernel_rfl) (by kernel_rfl) (by kernel_rfl) (fun _ _ _ h => h) (Or.inl ⟨by rfl, ?hy14⟩) (by assumption) ?rest14
  case hy14 =>
    intro w hSw
    try dsimp only at hSw
    go_simp
    all_goals with_reducible rfl
  simp only [Act.put, List.getElem_toArray, List.getElem_cons_succ, List.getElem_cons_zero, List.setIfInBounds_toArray, List.set_cons_zero, List.set_cons_succ]
  refine wpAnyH_done (by kernel_rfl) ?_ _
  refine NoPanic.normal ?_
  obtain ⟨wd, hwd⟩ : ∃ wd, wd = w1.drew := ⟨_, rfl⟩
  rw [← hwd]
  have HGD := Lib.hid (show wd.heap[x]? = some (.cells #[.int .i64 cap, .slice (some ⟨sb, off, none⟩) L.length cap2] 47 (0, 0)) by rw [hwd]; exact HGX.out)
  have HRD8 := Lib.hid (show wd.heap[w.heap.size]? = some (.cells #[.int .i64 0, .bool false, .int .u64 0, .bool false, .int .u64 0, .int .u64 0] 30 (0, 0)) by rw [hwd]; exact HR8.out)
  have HOD := Lib.hid (show Only (fun _ => False) w wd by rw [hwd]; exact HO.out.drew_)
  have HRDd := Lib.hid (HRDL.out.only HOD.out)
  clear d1 f1 hwd c0 c1 hxl hsl hsw HO HGX HR8 HRDL
  go_wp2_with fail
  go_loopw [13, 14] (fun t13 t14 wr => ∃ (k n c : Nat) (lo : Option Addr), k ≤ L.length ∧ t14 = .int .i64 k ∧ t13 = .slice lo n c ∧ Hid (OwS ePair 39 (fun k => wd.heap.size ≤ k) wr (.slice lo n c) ((L.take k).eraseIdx p)) ∧ Hid (Only (fun _ => False) wd wr)) (fun _ t14 _ => L.length - (intOf t14).toNat)
  case atStart => exact ⟨0, 0, 0, none, Nat.zero_le _, rfl, rfl, Lib.hid (by simpa using OwS.nil _ _), Lib.hid (Only.refl _ _)⟩
  case round =>
    obtain ⟨k, ln, lc, lo, hk, rfl, rfl, HLO, HOR⟩ := hrel
    have hgr := HOR.out.heap HGD.out (fun h => h)
    have c1 := cells_of_heap hgr 1 _ rfl
    have hxr : x < wr.heap.size := heap_lt hgr
    by_cases hlt : k < L.length
    · obtain ⟨_, ao', cap', hao, _, _, hx⟩ := HRDd.out.only HOR.out
      obtain ⟨rfl, _, rfl⟩ : (some ⟨sb, off, none⟩ : Option Addr) = ao' ∧ L.length = L.length ∧ cap2 = cap' := by simpa using hao
      obtain ⟨sb', off', hso, hc⟩ := hx (by omega)
      obtain ⟨rfl, rfl⟩ : sb = sb' ∧ off = off' := by simpa using hso
      obtain ⟨d0, d1⟩ := pair_cells hc k hlt
      have HST := Lib.hid (erase_step p hlt)
      have hi0 : (0 : Int) ≤ (k : Int) := by omega
      have hi1 : (k : Int) < (L.length : Int) := by omega
      clear hc hx hao hso hgr
      obtain ⟨p0, p1, hpe⟩ : ∃ p0 p1, L[k] = ((p0, p1) : PairD) := ⟨_, _, rfl⟩
      rw [hpe] at d0 d1 HST
      by_cases hkp : k = p
      · have HE := Lib.hid (show (L.take (k + 1)).eraseIdx p = (L.take k).eraseIdx p by rw [HST.out, if_pos hkp, List.append_nil])
        have hq : ((k : Int) != (p : Int)) = false := by simp; omega
        clear HST hpe d0 d1
        go_wp2_with fail
        go_roundw
        case rel => exact ⟨k + 1, ln, lc, lo, by omega, by go_num, rfl, by rw [HE.out]; exact HLO, HOR⟩
        case measure => simp [intOf]; omega
      · have HE := Lib.hid (show (L.take (k + 1)).eraseIdx p = (L.take k).eraseIdx p ++ [(p0, p1)] by rw [HST.out, if_neg hkp])
        have hq : ((k : Int) != (p : Int)) = true := by simp; omega
        have HEL := Lib.hid (erase_len (L := L) k p)
        have HOA := Lib.hid (OwS.framed.alloc HLO.out (.cells #[.int .u64 p0, .int .u64 p1] 39))
        have HRL := Lib.hid (Rd.lit (E := ePair) wr #[.int .u64 p0, .int .u64 p1] 39 (0, 0) 1 1 [(p0, p1)] rfl rfl (by simp) (by simp [maxLen]))
        clear HST hpe
        go_wp2_with (at_builtin; refine wl_appendS (E := ePair) rfl _ (.tmp 115) _ rfl 39 16 ePair_slice (fun k => wd.heap.size ≤ k) _ ((L.take k).eraseIdx p) rfl HOA.out _ [(p0, p1)] rfl HRL.out (by have := HEL.out; simp only [List.length_cons, List.length_nil]; omega) (by have := HEL.out; unfold maxLen; simp only [List.length_cons, List.length_nil]; omega) ?_)
        intro v5 w5 h5 hO5
        obtain ⟨_, ao5, c5, rfl, _⟩ := id h5.1
        have HO5 := Lib.hid ((HOR.out.tr (Only.alloc _ _ _)).trans hO5 fun k hk h => by omega)
        have hsz := HOR.out.size
        have H5 := Lib.hid (OwS.framed.mono _ (fun k => wd.heap.size ≤ k) _ h5 fun k _ h => by
          rcases h with h | h
          · exact h
          · omega)
        clear h5 hO5 hsz d0 d1 c1 hxr
        go_wp2_with fail
        go_roundw
        case rel => exact ⟨k + 1, _, c5, ao5, by omega, by go_num, rfl, by rw [HE.out]; exact H5, HO5⟩
        case measure => simp [intOf]; omega
    · have hE : (L.take k).eraseIdx p = L.eraseIdx p := by rw [List.take_of_length_le (by omega)]
      have hown := HLO.out
      rw [hE] at hown
      have hSx : S x := Obj1.in_ H0.out
      have hr8 := HOR.out.heap HRD8.out (fun h => h)
      have hwl : w.heap.size < wd.heap.size := heap_lt HRD8.out
      have hx0 := heap_lt HG.out
      have r8 := heap_setCell_far hr8 x 1 (.slice lo ln lc) (by omega)
      have rx := blk_set hgr 1 (.slice lo ln lc)
      have fx : ∀ i, wr.frozen? ⟨x, i, none⟩ = false := fun i => by simp [World.frozen?, hgr]
      have HFIN := Lib.hid (fun cs => ref_fin2 (S := S) (m := w.heap.size + 1) (w := w) rx hSx hx0 ⟨hown.1.only (Only.setCell (fun k => k = x) wr x 1 _ rfl) (fun k hk e => row_ne hgr hown.1 (by decide) (by rw [hk, e])), fun k hk => by
          have h : wd.heap.size ≤ k := hown.2 k hk
          exact .inr (by omega)⟩ (by omega) ((HOD.out.tr HOR.out).wide.trans (Only.setCell (fun k => k = x) wr x 1 _ rfl) fun k hk e => .inl ⟨by rw [e]; exact hSx, by omega⟩) cs)
      have R8 := Lib.hid r8
      clear hE hown hSx hr8 r8 rx hgr hwl
      go_wp2_with (refine wpList_store_row rfl 30 (.tmp 8) (.tmp 124) rfl w.heap.size _ rfl rfl 30 _ R8.out (by kernel_rfl) rfl (res_one _ _ _ _ _ _) ?_)
      refine bodyPost_ret (results_cell_row rfl _ _ w.heap.size _ _ _ _ rfl (setRow_heap _ _ _ _ _ _ R8.out) Try.underlying30 rfl (by kernel_rfl)) rfl ?_
      exact ⟨rfl, HFIN.out _⟩
end Go.Proofs.Ythekjeghodpcoaa
