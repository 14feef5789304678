/- wire: the document's Formed. (printed by wirerefenc.py) -/
import Derived.Test.YtkocfgaajghggaaDoorWireAwake
namespace Go.Proofs.YtkocfgaajghggaaDoor
open Go.RowKit
set_option linter.unusedVariables false
set_option linter.unusedSimpArgs false

def SeenB (g : Nat) (xs : List Int) (w : World) : Prop := w.heap[g]? = some (.cells #[.bool (decide ((0 : Int) ∈ xs)), .bool (decide ((1 : Int) ∈ xs)), .bool (decide ((2 : Int) ∈ xs)), .bool (decide ((3 : Int) ∈ xs))] 73 (0, 0))
set_option maxRecDepth 100000 in
set_option maxHeartbeats 8000000 in
theorem refFormed_any (ms : List Int) (cs : List InstD) (vm vc : Value) (w : World) (hm : Rd (eInt .i64) w vm ms) (hc : Rd eInst w vc cs) :
    Calls Tryd.prog 23 #[.agg #[vm, vc]] w fun e w' => e = .returned (.bool (modP ms cs)) ∧ Only (fun _ => False) w w' := by
  obtain ⟨hmx, am, capm, rfl, hcapm, _, _⟩ := id hm
  obtain ⟨hcx, ac, capc, rfl, hcapc, _, _⟩ := id hc
  unfold maxLen at hmx hcx
  have HB1 := Lib.hid (heap_alloc_new w (.cells #[.slice am ms.length capm, .slice ac cs.length capc] 25))
  by_cases h4 : 4 < ms.length
  · have HF := Lib.hid (show false = modP ms cs by
      have h : formedP ms = false := decide_eq_false fun h => by have := h.1; omega
      unfold modP; rw [h]; simp)
    have h4' : (4 : Int) < (ms.length : Int) := by omega
    go_enter Tryd.func23, Tryd.ntmps23
    go_wp2_with fail
    go_ret
    exact ⟨ret_b HF.out, Only.alloc _ _ _⟩
  · have h4' : ¬ (4 : Int) < (ms.length : Int) := by omega
    by_cases h1 : cs.length < 1
    · have HF := Lib.hid (show false = modP ms cs by unfold modP; rw [decide_eq_false (show ¬ 1 ≤ cs.length by omega)]; simp)
      have h1' : (cs.length : Int) < 1 := by omega
      go_enter Tryd.func23, Tryd.ntmps23
      go_wp2_with fail
      go_ret
      exact ⟨ret_b HF.out, Only.alloc _ _ _⟩
    · have h1' : ¬ (cs.length : Int) < 1 := by omega
      by_cases h64 : 64 < cs.length
      · have HF := Lib.hid (show false = modP ms cs by unfold modP; rw [decide_eq_false (show ¬ cs.length ≤ 64 by omega)]; simp)
        have h64' : (64 : Int) < (cs.length : Int) := by omega
        go_enter Tryd.func23, Tryd.ntmps23
        go_wp2_with fail
        go_ret
        exact ⟨ret_b HF.out, Only.alloc _ _ _⟩
      · have h64' : ¬ (64 : Int) < (cs.length : Int) := by omega
        obtain ⟨W, hW⟩ : ∃ W, W = (w.alloc (.cells #[.slice am ms.length capm, .slice ac cs.length capc] 25)).alloc (.cells #[.bool false, .bool false, .bool false, .bool false] 73) := ⟨_, rfl⟩
        have HB := Lib.hid (show W.heap[w.heap.size]? = some (.cells #[.slice am ms.length capm, .slice ac cs.length capc] 25 (0, 0)) by rw [hW]; exact heap_alloc HB1.out)
        have HS0 := Lib.hid (show SeenB (w.heap.size + 1) [] W by rw [hW]; have h := heap_alloc_new (w.alloc (.cells #[.slice am ms.length capm, .slice ac cs.length capc] 25)) (.cells #[.bool false, .bool false, .bool false, .bool false] 73); simpa [SeenB] using h)
        have HO0 := Lib.hid (show Only (fun _ => False) w W by rw [hW]; exact (Only.alloc _ _ _).tr (Only.alloc _ _ _))
        have HM := Lib.hid hm
        have HC := Lib.hid hc
        have HW := Lib.hid hW
        clear hW hm hc HB1
        go_enter Tryd.func23, Tryd.ntmps23
        go_wp2_with fail
        rw [← HW.out]
        have hge : w.heap.size ≠ w.heap.size + 1 := by omega
        have HG3 := Lib.hid (show w.heap.size < w.heap.size + 1 by omega)
        generalize hg3 : w.heap.size + 1 = g3 at *
        generalize hg1 : w.heap.size = g1 at *
        have HG1 := Lib.hid hg1
        clear hg1 hg3 HW
        go_loopw [2, 4, 5] (fun _ t4 _ wr => ∃ i : Nat, i ≤ ms.length ∧ t4 = .int .i64 i ∧ Hid (MapsTo ms i) ∧ Hid (SeenB g3 (ms.take i) wr) ∧ Hid (Only (fun _ => False) w wr ∧ wr.heap[g1]? = some (.cells #[.slice am ms.length capm, .slice ac cs.length capc] 25 (0, 0)))) (fun _ t4 _ _ => ms.length - (intOf t4).toNat)
        case atStart => exact ⟨0, Nat.zero_le _, rfl, ⟨by simp, by simp⟩, HS0, Lib.hid ⟨HO0.out, HB.out⟩⟩
        case round =>
          clear HS0 HO0 HB
          obtain ⟨i, hi, rfl, HN, HS, HOB⟩ := hrel
          have HO := Lib.hid HOB.out.1
          have b0 := cells_of_heap HOB.out.2 0 _ rfl
          have b1 := cells_of_heap HOB.out.2 1 _ rfl
          have hs3 := heap_lt HS.out
          by_cases hlt : i < ms.length
          · obtain ⟨_, am', capm', hao, _, _, hx⟩ := HM.out.only HO.out
            obtain ⟨rfl, _, rfl⟩ : am = am' ∧ ms.length = ms.length ∧ capm = capm' := by simpa using hao
            obtain ⟨sb, off, rfl, hcx2⟩ := hx (by omega)
            have c5 := hcx2 i _ (eInt_at .i64 ms i hlt)
            have hi0 : (0 : Int) ≤ (i : Int) := by omega
            have hi1 : (i : Int) < (ms.length : Int) := by omega
            clear hcx2 hx hao
            obtain ⟨m, hmm⟩ : ∃ m, m = ms[i] := ⟨_, rfl⟩
            by_cases hr : 0 ≤ m ∧ m ≤ 3
            · obtain hq | hq | hq | hq : m = 0 ∨ m = 1 ∨ m = 2 ∨ m = 3 := by omega
              · have hmq : ms[i] = 0 := by rw [← hmm]; exact hq
                clear hmm hq hr
                cases hd : decide ((0 : Int) ∈ ms.take i)
                · have HNE := Lib.hid (maps_next HN.out hlt (by rw [hmq]; omega) (by rw [hmq]; exact of_decide_eq_false hd))
                  have HSN := Lib.hid (show SeenB g3 (ms.take (i + 1)) (wr.setCell ⟨g3, 0, none⟩ (.bool true)) by
                    have h := blk_set HS.out 0 (.bool true)
                    rw [List.take_succ_eq_append_getElem hlt, hmq]
                    unfold SeenB
                    rw [h]
                    simp [List.mem_append])
                  have HOS := Lib.hid (HO.out.trans (Only.setCell (fun k => k = g3) wr g3 0 (.bool true) rfl) (fun k hk e => by have h1 := HG3.out; have h2 := HG1.out; omega))
                  have s0 := cells_of_heap HS.out 0 _ rfl
                  have HBS := Lib.hid (heap_setCell_far HOB.out.2 g3 0 (.bool true) hge)
                  have hfz : ∀ i, wr.frozen? ⟨g3, i, none⟩ = false := fun i => blk_free HS.out i
                  rw [hd] at s0
                  rw [hmq] at c5
                  clear hmq hd
                  go_wp2_with fail
                  go_roundw
                  case rel => exact ⟨i + 1, by omega, by go_num, HNE, HSN, Lib.hid ⟨HOS.out, HBS.out⟩⟩
                  case measure => simp [intOf]; omega
                · have HF := Lib.hid (show false = modP ms cs by
                    have h := maps_no (ms := ms) hlt (.inr (by rw [hmq]; exact of_decide_eq_true hd))
                    unfold modP; rw [← h]; simp)
                  have s0 := cells_of_heap HS.out 0 _ rfl
                  rw [hd] at s0
                  rw [hmq] at c5
                  clear hmq hd
                  go_wp2_with fail
                  go_ret
                  exact ⟨ret_b HF.out, HO.out⟩
              · have hmq : ms[i] = 1 := by rw [← hmm]; exact hq
                clear hmm hq hr
                cases hd : decide ((1 : Int) ∈ ms.take i)
                · have HNE := Lib.hid (maps_next HN.out hlt (by rw [hmq]; omega) (by rw [hmq]; exact of_decide_eq_false hd))
                  have HSN := Lib.hid (show SeenB g3 (ms.take (i + 1)) (wr.setCell ⟨g3, 1, none⟩ (.bool true)) by
                    have h := blk_set HS.out 1 (.bool true)
                    rw [List.take_succ_eq_append_getElem hlt, hmq]
                    unfold SeenB
                    rw [h]
                    simp [List.mem_append])
                  have HOS := Lib.hid (HO.out.trans (Only.setCell (fun k => k = g3) wr g3 1 (.bool true) rfl) (fun k hk e => by have h1 := HG3.out; have h2 := HG1.out; omega))
                  have s1 := cells_of_heap HS.out 1 _ rfl
                  have HBS := Lib.hid (heap_setCell_far HOB.out.2 g3 1 (.bool true) hge)
                  have hfz : ∀ i, wr.frozen? ⟨g3, i, none⟩ = false := fun i => blk_free HS.out i
                  rw [hd] at s1
                  rw [hmq] at c5
                  clear hmq hd
                  go_wp2_with fail
                  go_roundw
                  case rel => exact ⟨i + 1, by omega, by go_num, HNE, HSN, Lib.hid ⟨HOS.out, HBS.out⟩⟩
                  case measure => simp [intOf]; omega
                · have HF := Lib.hid (show false = modP ms cs by
                    have h := maps_no (ms := ms) hlt (.inr (by rw [hmq]; exact of_decide_eq_true hd))
                    unfold modP; rw [← h]; simp)
                  have s1 := cells_of_heap HS.out 1 _ rfl
                  rw [hd] at s1
                  rw [hmq] at c5
                  clear hmq hd
                  go_wp2_with fail
                  go_ret
                  exact ⟨ret_b HF.out, HO.out⟩
              · have hmq : ms[i] = 2 := by rw [← hmm]; exact hq
                clear hmm hq hr
                cases hd : decide ((2 : Int) ∈ ms.take i)
                · have HNE := Lib.hid (maps_next HN.out hlt (by rw [hmq]; omega) (by rw [hmq]; exact of_decide_eq_false hd))
                  have HSN := Lib.hid (show SeenB g3 (ms.take (i + 1)) (wr.setCell ⟨g3, 2, none⟩ (.bool true)) by
                    have h := blk_set HS.out 2 (.bool true)
                    rw [List.take_succ_eq_append_getElem hlt, hmq]
                    unfold SeenB
                    rw [h]
                    simp [List.mem_append])
                  have HOS := Lib.hid (HO.out.trans (Only.setCell (fun k => k = g3) wr g3 2 (.bool true) rfl) (fun k hk e => by have h1 := HG3.out; have h2 := HG1.out; omega))
                  have s2 := cells_of_heap HS.out 2 _ rfl
                  have HBS := Lib.hid (heap_setCell_far HOB.out.2 g3 2 (.bool true) hge)
                  have hfz : ∀ i, wr.frozen? ⟨g3, i, none⟩ = false := fun i => blk_free HS.out i
                  rw [hd] at s2
                  rw [hmq] at c5
                  clear hmq hd
                  go_wp2_with fail
                  go_roundw
                  case rel => exact ⟨i + 1, by omega, by go_num, HNE, HSN, Lib.hid ⟨HOS.out, HBS.out⟩⟩
                  case measure => simp [intOf]; omega
                · have HF := Lib.hid (show false = modP ms cs by
                    have h := maps_no (ms := ms) hlt (.inr (by rw [hmq]; exact of_decide_eq_true hd))
                    unfold modP; rw [← h]; simp)
                  have s2 := cells_of_heap HS.out 2 _ rfl
                  rw [hd] at s2
                  rw [hmq] at c5
                  clear hmq hd
                  go_wp2_with fail
                  go_ret
                  exact ⟨ret_b HF.out, HO.out⟩
              · have hmq : ms[i] = 3 := by rw [← hmm]; exact hq
                clear hmm hq hr
                cases hd : decide ((3 : Int) ∈ ms.take i)
                · have HNE := Lib.hid (maps_next HN.out hlt (by rw [hmq]; omega) (by rw [hmq]; exact of_decide_eq_false hd))
                  have HSN := Lib.hid (show SeenB g3 (ms.take (i + 1)) (wr.setCell ⟨g3, 3, none⟩ (.bool true)) by
                    have h := blk_set HS.out 3 (.bool true)
                    rw [List.take_succ_eq_append_getElem hlt, hmq]
                    unfold SeenB
                    rw [h]
                    simp [List.mem_append])
                  have HOS := Lib.hid (HO.out.trans (Only.setCell (fun k => k = g3) wr g3 3 (.bool true) rfl) (fun k hk e => by have h1 := HG3.out; have h2 := HG1.out; omega))
                  have s3 := cells_of_heap HS.out 3 _ rfl
                  have HBS := Lib.hid (heap_setCell_far HOB.out.2 g3 3 (.bool true) hge)
                  have hfz : ∀ i, wr.frozen? ⟨g3, i, none⟩ = false := fun i => blk_free HS.out i
                  rw [hd] at s3
                  rw [hmq] at c5
                  clear hmq hd
                  go_wp2_with fail
                  go_roundw
                  case rel => exact ⟨i + 1, by omega, by go_num, HNE, HSN, Lib.hid ⟨HOS.out, HBS.out⟩⟩
                  case measure => simp [intOf]; omega
                · have HF := Lib.hid (show false = modP ms cs by
                    have h := maps_no (ms := ms) hlt (.inr (by rw [hmq]; exact of_decide_eq_true hd))
                    unfold modP; rw [← h]; simp)
                  have s3 := cells_of_heap HS.out 3 _ rfl
                  rw [hd] at s3
                  rw [hmq] at c5
                  clear hmq hd
                  go_wp2_with fail
                  go_ret
                  exact ⟨ret_b HF.out, HO.out⟩
            · have HF := Lib.hid (show false = modP ms cs by
                have h := maps_no (ms := ms) hlt (.inl (by rw [← hmm]; exact hr))
                unfold modP; rw [← h]; simp)
              rw [← hmm] at c5
              clear hmm
              by_cases h0 : m < 0
              · go_wp2_with fail
                go_ret
                exact ⟨ret_b HF.out, HO.out⟩
              · have h3 : 3 < m := by omega
                go_wp2_with fail
                go_ret
                exact ⟨ret_b HF.out, HO.out⟩
          · have HFM := Lib.hid (show formedP ms = true by
              have h := maps_all (ms := ms) HN.out (by omega)
              rw [← h]; exact decide_eq_true (by omega))
            clear HS HN hs3
            go_wp2_with fail
            go_loopw [2, 6] (fun _ t6 wr => ∃ k : Nat, k ≤ cs.length ∧ t6 = .int .i64 k ∧ Hid (AllTo cs k) ∧ Hid (Only (fun _ => False) w wr ∧ wr.heap[g1]? = some (.cells #[.slice am ms.length capm, .slice ac cs.length capc] 25 (0, 0)))) (fun _ t6 _ => cs.length - (intOf t6).toNat)
            case atStart => exact ⟨0, Nat.zero_le _, rfl, Lib.hid (fun j _ h => by omega), HOB⟩
            case round =>
              clear HOB HO b0 b1
              obtain ⟨k, hk, rfl, HA, HOB⟩ := hrel
              have HO := Lib.hid HOB.out.1
              have b1 := cells_of_heap HOB.out.2 1 _ rfl
              by_cases hltc : k < cs.length
              · obtain ⟨_, ac', capc', hao, _, _, hx⟩ := HC.out.only HO.out
                obtain ⟨rfl, _, rfl⟩ : ac = ac' ∧ cs.length = cs.length ∧ capc = capc' := by simpa using hao
                obtain ⟨sb, off, rfl, hcx2⟩ := hx (by omega)
                obtain ⟨d0, d1, d2, d3, d4⟩ := inst_cells hcx2 k hltc
                have hi0 : (0 : Int) ≤ (k : Int) := by omega
                have hi1 : (k : Int) < (cs.length : Int) := by omega
                clear hcx2 hx hao
                obtain ⟨ii, hii⟩ : ∃ i, i = In.of (cs[k]'hltc) := ⟨_, rfl⟩
                rw [← hii] at d0 d1 d2 d3 d4
                have HI := Lib.hid hii
                clear hii
                have HRT := Lib.hid (refRight_any ii wr)
                cases hb : rightP ii
                · have HF := Lib.hid (show false = modP ms cs by
                    have h := allP_no (xs := cs) hltc (by rw [← HI.out]; exact hb)
                    unfold modP; rw [← h]; simp)
                  rw [← right_eq, hb] at HRT
                  clear hb
                  go_wp2_with fail
                  refine HRT.out.mono ?_
                  rintro e w2 ⟨rfl, hO2⟩
                  go_wp2_with fail
                  go_ret
                  exact ⟨ret_b HF.out, HO.out.tr hO2⟩
                · have HAN := Lib.hid (show AllTo cs (k + 1) from fun j h hj => by
                    by_cases e : j = k
                    · subst e; rw [← HI.out]; exact hb
                    · exact HA.out j h (by omega))
                  rw [← right_eq, hb] at HRT
                  clear hb
                  go_wp2_with fail
                  refine HRT.out.mono ?_
                  rintro e w2 ⟨rfl, hO2⟩
                  have HOB2 := Lib.hid (show Only (fun _ => False) w w2 ∧ w2.heap[g1]? = _ from ⟨HO.out.tr hO2, hO2.heap HOB.out.2 id⟩)
                  go_wp2_with fail
                  go_roundw
                  case rel => exact ⟨k + 1, by omega, by go_num, HAN, HOB2⟩
                  case measure => simp [intOf]; omega
              · have HF := Lib.hid (show true = modP ms cs by
                  have h := allP_yes (xs := cs) HA.out (by omega)
                  unfold modP; rw [HFM.out, ← h, decide_eq_true (show 1 ≤ cs.length by omega), decide_eq_true (show cs.length ≤ 64 by omega)]; rfl)
                go_wp2_with fail
                go_ret
                exact ⟨ret_b HF.out, HO.out⟩
end Go.Proofs.YtkocfgaajghggaaDoor
