/- book: the document's Do, delete of a key that is not there. -/
import Derived.Test.YthekjeghodpcoaaBookRef8
namespace Go.Proofs.Ythekjeghodpcoaa
open Go.RowKit
set_option linter.unusedVariables false
set_option linter.unusedSimpArgs false

set_option maxRecDepth 100000 in
set_option maxHeartbeats 2000000 in
theorem refDel_no (x : Nat) (cap : Int) (L : List PairD) (S : Nat → Prop) (key val : Int) (w : World) (H : RefS x cap L S w) (hL : L.length ≤ 16) (hh : hasP L key = false) :
    Calls Try.prog 15 #[.pointer (some ⟨x, 0, none⟩), .int .i64 3, .int .u64 key, .int .u64 val] w (RefPost x S cap w (resF false 0) L) := by
  have H0 := Lib.hid H
  have HPL := Lib.hid (place_any x cap L S key _ (RefS.framed.alloc H (.cells #[.int .i64 0, .bool false, .int .u64 0, .bool false, .int .u64 0, .int .u64 0] 30)) hL)
  have hp : placeP L key = -1 := by unfold placeP; rw [hh]; rfl
  rw [hp] at HPL
  clear hp
  obtain ⟨v, hg, hown, hS, hvS⟩ := H
  obtain ⟨_, ao, cap2, rfl, _, _, _⟩ := id hown.rd
  have HNE := Lib.hid (row_ne hg hown (by decide))
  have HVS := Lib.hid hvS
  have HSX := Lib.hid hS
  have HW := Lib.hid (show OwS ePair 39 (fun k => (Value.slice ao L.length cap2).ownBlock = some k) w (.slice ao L.length cap2) L from ⟨hown, fun _ h => h⟩)
  have HG := Lib.hid hg
  clear hg hown hS hvS hh
  go_enter Try.func15, Try.ntmps15
  go_wp2_with fail
  refine HPL.out.mono ?_
  rintro e w1 ⟨rfl, ho⟩
  have hr8 := ho.heap (heap_alloc_new w _) (fun h => h)
  have hgx := ho.heap (heap_alloc HG.out) (fun h => h)
  have HR8 := Lib.hid hr8
  have HGX := Lib.hid hgx
  have c0 := cells_of_heap hgx 0 _ rfl
  have c1 := cells_of_heap hgx 1 _ rfl
  have HO := Lib.hid ((Only.alloc (fun _ => False) w _).tr ho)
  have HW1 := Lib.hid (OwS.framed.only _ _ _ _ HW.out HO.out (fun _ _ _ h => h))
  have hxl : x < w1.heap.size := heap_lt hgx
  clear hr8 ho hgx
  go_wp2_with fail
  go_quiet (fail)
  obtain ⟨wd, hwd⟩ : ∃ wd, wd = w1.drewN nq := ⟨_, rfl⟩
  rw [← hwd]
  have hgd : wd.heap[x]? = some (.cells #[.int .i64 cap, .slice ao L.length cap2] 47 (0, 0)) := by rw [hwd]; exact HGX.out
  have HGD := Lib.hid hgd
  have HRD8 := Lib.hid (show wd.heap[w.heap.size]? = some (.cells #[.int .i64 0, .bool false, .int .u64 0, .bool false, .int .u64 0, .int .u64 0] 30 (0, 0)) by rw [hwd]; exact HR8.out)
  have HOD := Lib.hid (show Only (fun _ => False) w wd by rw [hwd]; exact HO.out.drewN nq)
  have HWD := Lib.hid (OwS.framed.only _ _ _ _ HW.out HOD.out (fun _ _ _ h => h))
  clear hwd c0 c1 hxl HO HW1 HR8 HGX
  have c0 := cells_of_heap hgd 0 _ rfl
  have c1 := cells_of_heap hgd 1 _ rfl
  have hxl : x < wd.heap.size := heap_lt hgd
  clear hgd
  have HRDd := Lib.hid HWD.out.rd
  clear c0 c1 hxl
  go_wp2_with fail
  go_loopw [13, 14] (fun t13 t14 wr => ∃ (k n c : Nat) (lo : Option Addr), k ≤ L.length ∧ t14 = .int .i64 k ∧ t13 = .slice lo n c ∧ Hid (OwS ePair 39 (fun k => wd.heap.size ≤ k) wr (.slice lo n c) (L.take k)) ∧ Hid (Only (fun _ => False) wd wr)) (fun _ t14 _ => L.length - (intOf t14).toNat)
  case atStart => exact ⟨0, 0, 0, none, Nat.zero_le _, rfl, rfl, Lib.hid (by simpa using OwS.nil _ _), Lib.hid (Only.refl _ _)⟩
  case round =>
    obtain ⟨k, ln, lc, lo, hk, rfl, rfl, HLO, HOR⟩ := hrel
    have hgr := HOR.out.heap HGD.out (fun h => h)
    have c1 := cells_of_heap hgr 1 _ rfl
    have hxr : x < wr.heap.size := heap_lt hgr
    by_cases hlt : k < L.length
    · obtain ⟨_, ao', cap', hao, _, _, hx⟩ := HRDd.out.only HOR.out
      obtain ⟨rfl, _, rfl⟩ : ao = ao' ∧ L.length = L.length ∧ cap2 = cap' := by simpa using hao
      obtain ⟨sb, off, rfl, hc⟩ := hx (by omega)
      obtain ⟨d0, d1⟩ := pair_cells hc k hlt
      have HST := Lib.hid (List.take_succ_eq_append_getElem hlt)
      have hi0 : (0 : Int) ≤ (k : Int) := by omega
      have hi1 : (k : Int) < (L.length : Int) := by omega
      clear hc hx hao hgr
      obtain ⟨p0, p1, hpe⟩ : ∃ p0 p1, L[k] = ((p0, p1) : PairD) := ⟨_, _, rfl⟩
      rw [hpe] at d0 d1 HST
      have HE := Lib.hid (show L.take (k + 1) = L.take k ++ [(p0, p1)] from HST.out)
      have hq : ((k : Int) != (-1 : Int)) = true := by simp
      have HEL := Lib.hid (show (L.take k).length ≤ L.length by simp; omega)
      have HOA := Lib.hid (OwS.framed.alloc HLO.out (.cells #[.int .u64 p0, .int .u64 p1] 39))
      have HRL := Lib.hid (Rd.lit (E := ePair) wr #[.int .u64 p0, .int .u64 p1] 39 (0, 0) 1 1 [(p0, p1)] rfl rfl (by simp) (by simp [maxLen]))
      clear HST hpe
      go_wp2_with (at_builtin; refine wl_appendS (E := ePair) rfl _ (.tmp 115) _ rfl 39 16 ePair_slice (fun k => wd.heap.size ≤ k) _ (L.take k) rfl HOA.out _ [(p0, p1)] rfl HRL.out (by have := HEL.out; simp only [List.length_cons, List.length_nil]; omega) (by have := HEL.out; unfold maxLen; simp only [List.length_cons, List.length_nil]; omega) ?_)
      intro v5 w5 h5 hO5
      obtain ⟨_, ao5, c5, rfl, _⟩ := id h5.1
      have HO5 := Lib.hid ((HOR.out.tr (Only.alloc _ _ _)).trans hO5 fun k hk h => by omega)
      have hsz := HOR.out.size
      have H5 := Lib.hid (OwS.framed.mono _ (fun k => wd.heap.size ≤ k) _ h5 fun k _ h => by
        rcases h with h | h
        · exact h
        · omega)
      clear h5 hO5 hsz d0 d1 c1 hxr
      go_wp2_with fail
      go_roundw
      case rel => exact ⟨k + 1, _, c5, ao5, by omega, by go_num, rfl, by rw [HE.out]; exact H5, HO5⟩
      case measure => simp [intOf]; omega
    · have hE : L.take k = L := List.take_of_length_le (by omega)
      have hown := HLO.out
      rw [hE] at hown
      have hSx : S x := Obj1.in_ H0.out
      have hr8 := HOR.out.heap HRD8.out (fun h => h)
      have hwl : w.heap.size < wd.heap.size := heap_lt HRD8.out
      have hx0 := heap_lt HG.out
      have r8 := heap_setCell_far hr8 x 1 (.slice lo ln lc) (by omega)
      have rx := blk_set hgr 1 (.slice lo ln lc)
      have fx : ∀ i, wr.frozen? ⟨x, i, none⟩ = false := fun i => by simp [World.frozen?, hgr]
      have HFIN := Lib.hid (fun cs => ref_fin2 (S := S) (m := w.heap.size + 1) (w := w) rx hSx hx0 ⟨hown.1.only (Only.setCell (fun k => k = x) wr x 1 _ rfl) (fun k hk e => row_ne hgr hown.1 (by decide) (by rw [hk, e])), fun k hk => by
          have h : wd.heap.size ≤ k := hown.2 k hk
          exact .inr (by omega)⟩ (by omega) ((HOD.out.tr HOR.out).wide.trans (Only.setCell (fun k => k = x) wr x 1 _ rfl) fun k hk e => .inl ⟨by rw [e]; exact hSx, by omega⟩) cs)
      have R8 := Lib.hid r8
      clear hE hown hSx hr8 r8 rx hgr hwl
      go_wp2_with (refine wpList_store_row rfl 30 (.tmp 8) (.tmp 124) rfl w.heap.size _ rfl rfl 30 _ R8.out (by kernel_rfl) rfl (res_one _ _ _ _ _ _) ?_)
      refine bodyPost_ret (results_cell_row rfl _ _ w.heap.size _ _ _ _ rfl (setRow_heap _ _ _ _ _ _ R8.out) Try.underlying30 rfl (by kernel_rfl)) rfl ?_
      exact ⟨rfl, HFIN.out _⟩
end Go.Proofs.Ythekjeghodpcoaa
