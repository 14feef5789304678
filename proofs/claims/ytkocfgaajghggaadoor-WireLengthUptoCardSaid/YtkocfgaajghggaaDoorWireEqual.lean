/- wire: slices.Equal; Same. (printed by wireequal.py) -/
import Derived.Test.YtkocfgaajghggaaDoorWireSame
namespace Go.Proofs.YtkocfgaajghggaaDoor
open Go.RowKit
set_option linter.unusedVariables false
set_option linter.unusedSimpArgs false

set_option maxHeartbeats 1000000 in
theorem equalM (xs ys : List Int) (va vb : Value) (w : World) (ha : Rd (eInt .i64) w va xs) (hb : Rd (eInt .i64) w vb ys) :
    Calls Tryd.prog 36 #[va, vb] w fun e w' => e = .returned (.bool (decide (xs = ys))) ∧ ∃ n, w' = w.drewN n := by
  obtain ⟨hma, a, ca, rfl, _, _, ha⟩ := ha
  obtain ⟨hmb, b, cb, rfl, _, _, hb⟩ := hb
  unfold maxLen at hma hmb
  by_cases hl : xs.length = ys.length
  · have hne : (((xs.length : Nat) : Int) != ((ys.length : Nat) : Int)) = false := by simp [hl]
    have HL := Lib.hid hl
    have HA := Lib.hid ha
    have HB := Lib.hid hb
    clear hl ha hb
    go_enter Tryd.func36, Tryd.ntmps36
    go_wp2_with fail
    go_loopw [5, 13] (fun _ i wr => ∃ k n : Nat, k ≤ xs.length ∧ i = .int .i64 k ∧ wr = w.drewN n ∧ Hid (xs.take k = ys.take k)) (fun _ i _ => xs.length - (intOf i).toNat)
    case atStart => exact ⟨0, 0, Nat.zero_le _, rfl, rfl, rfl⟩
    case round =>
      obtain ⟨k, n, hk, rfl, rfl, heq⟩ := hrel
      by_cases hlt : k < xs.length
      · obtain ⟨b1, o1, rfl, h1⟩ := HA.out (by omega)
        obtain ⟨b2, o2, rfl, h2⟩ := HB.out (by have := HL.out; omega)
        have hlt2 : k < ys.length := by have := HL.out; omega
        have d1 := h1 k _ (eInt_at .i64 xs k hlt)
        have d2 := h2 k _ (eInt_at .i64 ys k hlt2)
        have hi0 : (0 : Int) ≤ (k : Int) := by omega
        have hi1 : (k : Int) < (xs.length : Int) := by omega
        have hi2 : (k : Int) < (ys.length : Int) := by omega
        have HST := Lib.hid (fun e => list_step heq.out hlt hlt2 e)
        have HMI := Lib.hid (fun e => (decide_eq_false (at_ne hlt hlt2 e)).symm)
        clear h1 h2 heq
        generalize xs[k] = x at *
        generalize ys[k] = y at *
        by_cases hxy : x = y
        · have HST2 := Lib.hid (HST.out hxy)
          have hz : (x != y) = false := by simp [hxy]
          clear HST HMI hxy
          go_wp2_with fail
          go_quiet (fail)
          go_wp2_with fail
          go_roundw
          case rel => exact ⟨k + 1, n + nq, by omega, by go_num, rfl, HST2.out⟩
          case measure => simp [intOf]; omega
        · have HMI2 := Lib.hid (HMI.out hxy)
          have hz : (x != y) = true := by simp [hxy]
          clear HST HMI hxy
          go_wp2_with fail
          go_quiet (fail)
          go_wp2_with fail
          go_ret
          exact ⟨ret_b HMI2.out, _, World.drewN_drewN ..⟩
      · have HF := Lib.hid ((decide_eq_true (list_all heq.out (by omega) (by have := HL.out; omega))).symm)
        go_wp2_with fail
        go_ret
        exact ⟨ret_b HF.out, _, rfl⟩
  · have hne : (((xs.length : Nat) : Int) != ((ys.length : Nat) : Int)) = true := by simp; omega
    have HF := Lib.hid ((decide_eq_false (len_ne hl)).symm)
    clear hl
    go_enter Tryd.func36, Tryd.ntmps36
    go_wp2_with fail
    go_ret
    exact ⟨ret_b HF.out, 0, rfl⟩
set_option maxHeartbeats 1000000 in
theorem equalC (xs ys : List InstD) (va vb : Value) (w : World) (ha : Rd (eInst) w va xs) (hb : Rd (eInst) w vb ys) :
    Calls Tryd.prog 37 #[va, vb] w fun e w' => e = .returned (.bool (decide (xs = ys))) ∧ ∃ n, w' = w.drewN n := by
  obtain ⟨hma, a, ca, rfl, _, _, ha⟩ := ha
  obtain ⟨hmb, b, cb, rfl, _, _, hb⟩ := hb
  unfold maxLen at hma hmb
  by_cases hl : xs.length = ys.length
  · have hne : (((xs.length : Nat) : Int) != ((ys.length : Nat) : Int)) = false := by simp [hl]
    have HL := Lib.hid hl
    have HA := Lib.hid ha
    have HB := Lib.hid hb
    clear hl ha hb
    go_enter Tryd.func37, Tryd.ntmps37
    go_wp2_with fail
    go_loopw [5, 13] (fun _ i wr => ∃ k n : Nat, k ≤ xs.length ∧ i = .int .i64 k ∧ wr = w.drewN n ∧ Hid (xs.take k = ys.take k)) (fun _ i _ => xs.length - (intOf i).toNat)
    case atStart => exact ⟨0, 0, Nat.zero_le _, rfl, rfl, rfl⟩
    case round =>
      obtain ⟨k, n, hk, rfl, rfl, heq⟩ := hrel
      by_cases hlt : k < xs.length
      · obtain ⟨b1, o1, rfl, h1⟩ := HA.out (by omega)
        obtain ⟨b2, o2, rfl, h2⟩ := HB.out (by have := HL.out; omega)
        have hlt2 : k < ys.length := by have := HL.out; omega
        obtain ⟨d0, d1, d2, d3, d4⟩ := inst_cells h1 k hlt
        obtain ⟨e0, e1, e2, e3, e4⟩ := inst_cells h2 k hlt2
        have hz := eInst_neq xs[k] ys[k]
        have hi0 : (0 : Int) ≤ (k : Int) := by omega
        have hi1 : (k : Int) < (xs.length : Int) := by omega
        have hi2 : (k : Int) < (ys.length : Int) := by omega
        have HST := Lib.hid (fun e => list_step heq.out hlt hlt2 e)
        have HMI := Lib.hid (fun e => (decide_eq_false (at_ne hlt hlt2 e)).symm)
        clear h1 h2 heq
        generalize xs[k] = x at *
        generalize ys[k] = y at *
        dsimp only [In.of] at d0 d1 d2 d3 d4 e0 e1 e2 e3 e4
        by_cases hxy : x = y
        · have HST2 := Lib.hid (HST.out hxy)
          rw [show (!decide (x = y)) = false by simp [hxy]] at hz
          clear HST HMI hxy
          go_wp2_with fail
          go_quiet (fail)
          go_wp2_with fail
          go_roundw
          case rel => exact ⟨k + 1, n + nq, by omega, by go_num, rfl, HST2.out⟩
          case measure => simp [intOf]; omega
        · have HMI2 := Lib.hid (HMI.out hxy)
          rw [show (!decide (x = y)) = true by simp [hxy]] at hz
          clear HST HMI hxy
          go_wp2_with fail
          go_quiet (fail)
          go_wp2_with fail
          go_ret
          exact ⟨ret_b HMI2.out, _, World.drewN_drewN ..⟩
      · have HF := Lib.hid ((decide_eq_true (list_all heq.out (by omega) (by have := HL.out; omega))).symm)
        go_wp2_with fail
        go_ret
        exact ⟨ret_b HF.out, _, rfl⟩
  · have hne : (((xs.length : Nat) : Int) != ((ys.length : Nat) : Int)) = true := by simp; omega
    have HF := Lib.hid ((decide_eq_false (len_ne hl)).symm)
    clear hl
    go_enter Tryd.func37, Tryd.ntmps37
    go_wp2_with fail
    go_ret
    exact ⟨ret_b HF.out, 0, rfl⟩

set_option maxHeartbeats 1000000 in
theorem progSame_any (ms ns : List Int) (cs ds : List InstD) (vm vn vc vd : Value) (w : World) (hm : Rd (eInt .i64) w vm ms) (hn : Rd (eInt .i64) w vn ns) (hc : Rd eInst w vc cs) (hd : Rd eInst w vd ds) :
    Calls Tryd.prog 18 #[.agg #[vm, vc], .agg #[vn, vd]] w fun e w' => e = .returned (.bool (sameB ms ns cs ds)) ∧ Only (fun _ => False) w w' := by
  obtain ⟨wb, hwb⟩ : ∃ wb, wb = (w.alloc (.cells #[vm, vc] 25)).alloc (.cells #[vn, vd] 25) := ⟨_, rfl⟩
  have hB1 : wb.heap[w.heap.size]? = some (.cells #[vm, vc] 25 (0, 0)) := by rw [hwb]; exact heap_alloc (heap_alloc_new w _)
  have hB2 : wb.heap[w.heap.size + 1]? = some (.cells #[vn, vd] 25 (0, 0)) := by rw [hwb]; have := heap_alloc_new (w.alloc (.cells #[vm, vc] 25)) (.cells #[vn, vd] 25); simpa using this
  have hO : Only (fun _ => False) w wb := by rw [hwb]; exact (Only.alloc _ _ _).tr (Only.alloc _ _ _)
  have HM := Lib.hid (equalM ms ns vm vn wb (hm.only hO) (hn.only hO))
  have HC := Lib.hid (fun n => equalC cs ds vc vd (wb.drewN n) ((hc.only hO).drewN n) ((hd.only hO).drewN n))
  have HO := Lib.hid hO
  have c10 := cells_of_heap hB1 0 _ rfl
  have c11 := cells_of_heap hB1 1 _ rfl
  have c20 := cells_of_heap hB2 0 _ rfl
  have c21 := cells_of_heap hB2 1 _ rfl
  have HW := Lib.hid hwb
  clear hB1 hB2 hO hwb hm hn hc hd
  go_enter Tryd.func18, Tryd.ntmps18
  go_wp2_with fail
  rw [← HW.out]
  generalize w.heap.size = g at *
  refine HM.out.mono ?_
  rintro e w1 ⟨rfl, n, rfl⟩
  cases hd : decide (ms = ns)
  · have HF := Lib.hid (same_m (cs := cs) (ds := ds) (of_decide_eq_false hd))
    go_wp2_with fail
    go_ret
    exact ⟨ret_b HF.out, HO.out.drewN _⟩
  · go_wp2_with fail
    refine (HC.out n).mono ?_
    rintro e w2 ⟨rfl, m, rfl⟩
    have HF := Lib.hid (show decide (cs = ds) = sameB ms ns cs ds by unfold sameB; rw [hd]; simp)
    clear hd
    go_wp2_with fail
    go_ret
    exact ⟨ret_b HF.out, HO.out.drewN _⟩
end Go.Proofs.YtkocfgaajghggaaDoor
