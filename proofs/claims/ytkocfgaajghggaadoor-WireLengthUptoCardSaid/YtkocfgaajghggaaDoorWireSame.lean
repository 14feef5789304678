/- wire: the document's Same; slices.Equal; Same. -/
import Derived.Test.YtkocfgaajghggaaDoorWireEnc
namespace Go.Proofs.YtkocfgaajghggaaDoor
open Go.RowKit
set_option linter.unusedVariables false
set_option linter.unusedSimpArgs false

theorem list_step {α : Type} {xs ys : List α} {k : Nat} (h : xs.take k = ys.take k) (h1 : k < xs.length) (h2 : k < ys.length) (e : xs[k] = ys[k]) : xs.take (k + 1) = ys.take (k + 1) := by
  rw [List.take_succ_eq_append_getElem h1, List.take_succ_eq_append_getElem h2, h, e]
theorem list_all {α : Type} {xs ys : List α} {k : Nat} (h : xs.take k = ys.take k) (h1 : xs.length ≤ k) (h2 : ys.length ≤ k) : xs = ys := by
  rw [List.take_of_length_le h1, List.take_of_length_le h2] at h; exact h
def sameB (ms ns : List Int) (cs ds : List InstD) : Bool := decide (ms = ns) && decide (cs = ds)
theorem same_m {ms ns : List Int} {cs ds : List InstD} (h : ms ≠ ns) : false = sameB ms ns cs ds := by simp [sameB, h]
theorem same_c {ms ns : List Int} {cs ds : List InstD} (h : cs ≠ ds) : false = sameB ms ns cs ds := by simp [sameB, h]
theorem same_y {ms ns : List Int} {cs ds : List InstD} (h : ms = ns) (h2 : cs = ds) : true = sameB ms ns cs ds := by simp [sameB, h, h2]
theorem len_ne {α : Type} {xs ys : List α} (h : xs.length ≠ ys.length) : xs ≠ ys := fun e => h (by rw [e])
theorem at_ne {α : Type} {xs ys : List α} {k : Nat} (h1 : k < xs.length) (h2 : k < ys.length) (e : ¬ xs[k] = ys[k]) : xs ≠ ys := by rintro rfl; exact e rfl

set_option maxRecDepth 100000 in
set_option maxHeartbeats 4000000 in
theorem refSame_any (ms ns : List Int) (cs ds : List InstD) (vm vn vc vd : Value) (w : World) (hm : Rd (eInt .i64) w vm ms) (hn : Rd (eInt .i64) w vn ns) (hc : Rd eInst w vc cs) (hd : Rd eInst w vd ds) :
    Calls Tryd.prog 13 #[.agg #[vm, vc], .agg #[vn, vd]] w fun e w' => e = .returned (.bool (sameB ms ns cs ds)) ∧ Only (fun _ => False) w w' := by
  obtain ⟨wb, hwb⟩ : ∃ wb, wb = (w.alloc (.cells #[vm, vc] 25)).alloc (.cells #[vn, vd] 25) := ⟨_, rfl⟩
  have hB1 : wb.heap[w.heap.size]? = some (.cells #[vm, vc] 25 (0, 0)) := by rw [hwb]; exact heap_alloc (heap_alloc_new w _)
  have hB2 : wb.heap[w.heap.size + 1]? = some (.cells #[vn, vd] 25 (0, 0)) := by rw [hwb]; have := heap_alloc_new (w.alloc (.cells #[vm, vc] 25)) (.cells #[vn, vd] 25); simpa using this
  have hO : Only (fun _ => False) w wb := by rw [hwb]; exact (Only.alloc _ _ _).tr (Only.alloc _ _ _)
  have HM := Lib.hid (hm.only hO)
  have HN := Lib.hid (hn.only hO)
  have HC := Lib.hid (hc.only hO)
  have HD := Lib.hid (hd.only hO)
  have HO := Lib.hid hO
  obtain ⟨hxm, am, capm, rfl, _, _, _⟩ := hm
  obtain ⟨hxn, an, capn, rfl, _, _, _⟩ := hn
  obtain ⟨hxc, ac, capc, rfl, _, _, _⟩ := hc
  obtain ⟨hxd, ad, capd, rfl, _, _, _⟩ := hd
  unfold maxLen at hxm hxn hxc hxd
  have c10 := cells_of_heap hB1 0 _ rfl
  have c11 := cells_of_heap hB1 1 _ rfl
  have c20 := cells_of_heap hB2 0 _ rfl
  have c21 := cells_of_heap hB2 1 _ rfl
  have HW := Lib.hid hwb
  clear hB1 hB2 hO hwb
  go_enter Tryd.func13, Tryd.ntmps13
  by_cases hlm : ms.length = ns.length
  · have hq : (((ms.length : Nat) : Int) != ((ns.length : Nat) : Int)) = false := by simp [hlm]
    by_cases hlc : cs.length = ds.length
    · have hq2 : (((cs.length : Nat) : Int) != ((ds.length : Nat) : Int)) = false := by simp [hlc]
      have HLM := Lib.hid hlm
      have HLC := Lib.hid hlc
      clear hlm hlc
      go_wp2_with fail
      rw [← HW.out]
      generalize w.heap.size = g at *
      go_loopw [5] (fun i wr => ∃ k n : Nat, k ≤ ms.length ∧ i = .int .i64 k ∧ wr = wb.drewN n ∧ Hid (ms.take k = ns.take k)) (fun i _ => ms.length - (intOf i).toNat)
      case atStart => exact ⟨0, 0, Nat.zero_le _, rfl, rfl, rfl⟩
      case round =>
        obtain ⟨k, n, hk, rfl, rfl, heq⟩ := hrel
        by_cases hlt : k < ms.length
        · obtain ⟨_, am', capm', hao, _, _, hx⟩ := HM.out
          obtain ⟨rfl, _, rfl⟩ : am = am' ∧ ms.length = ms.length ∧ capm = capm' := by simpa using hao
          obtain ⟨b1, o1, rfl, h1⟩ := hx (by omega)
          obtain ⟨_, an', capn', hao2, _, _, hx2⟩ := HN.out
          obtain ⟨rfl, _, rfl⟩ : an = an' ∧ ns.length = ns.length ∧ capn = capn' := by simpa using hao2
          have hlt2 : k < ns.length := by have := HLM.out; omega
          obtain ⟨b2, o2, rfl, h2⟩ := hx2 (by omega)
          have d1 := h1 k _ (eInt_at .i64 ms k hlt)
          have d2 := h2 k _ (eInt_at .i64 ns k hlt2)
          have hi0 : (0 : Int) ≤ (k : Int) := by omega
          have hi1 : (k : Int) < (ms.length : Int) := by omega
          have hi2 : (k : Int) < (ns.length : Int) := by omega
          have HST := Lib.hid (fun e => list_step heq.out hlt hlt2 e)
          have HMI := Lib.hid (fun e => same_m (cs := cs) (ds := ds) (at_ne hlt hlt2 e))
          clear h1 h2 hx hx2 hao hao2 heq
          generalize ms[k] = x at *
          generalize ns[k] = y at *
          by_cases hxy : x = y
          · have HST2 := Lib.hid (HST.out hxy)
            have hq3 : (x != y) = false := by simp [hxy]
            clear HST HMI hxy
            go_wp2_with fail
            go_quiet (fail)
            go_wp2_with fail
            go_roundw
            case rel => exact ⟨k + 1, n + nq, by omega, by go_num, rfl, HST2.out⟩
            case measure => simp [intOf]; omega
          · have HMI2 := Lib.hid (HMI.out hxy)
            have hq3 : (x != y) = true := by simp [hxy]
            clear HST HMI hxy
            go_wp2_with fail
            go_quiet (fail)
            go_wp2_with fail
            go_ret
            exact ⟨ret_b HMI2.out, (HO.out.drewN _).drewN _⟩
        · have HE := Lib.hid (list_all heq.out (by omega) (by have := HLM.out; omega))
          clear heq
          go_wp2_with fail
          go_loopw [6] (fun i wr => ∃ k n : Nat, k ≤ cs.length ∧ i = .int .i64 k ∧ wr = wb.drewN n ∧ Hid (cs.take k = ds.take k)) (fun i _ => cs.length - (intOf i).toNat)
          case atStart => exact ⟨0, n, Nat.zero_le _, rfl, rfl, rfl⟩
          case round =>
            obtain ⟨k, n, hk, rfl, rfl, heq⟩ := hrel
            by_cases hlt : k < cs.length
            · obtain ⟨_, ac', capc', hao, _, _, hx⟩ := HC.out
              obtain ⟨rfl, _, rfl⟩ : ac = ac' ∧ cs.length = cs.length ∧ capc = capc' := by simpa using hao
              obtain ⟨b1, o1, rfl, h1⟩ := hx (by omega)
              obtain ⟨_, ad', capd', hao2, _, _, hx2⟩ := HD.out
              obtain ⟨rfl, _, rfl⟩ : ad = ad' ∧ ds.length = ds.length ∧ capd = capd' := by simpa using hao2
              have hlt2 : k < ds.length := by have := HLC.out; omega
              obtain ⟨b2, o2, rfl, h2⟩ := hx2 (by omega)
              obtain ⟨d0, d1, d2, d3, d4⟩ := inst_cells h1 k hlt
              obtain ⟨e0, e1, e2, e3, e4⟩ := inst_cells h2 k hlt2
              have hi0 : (0 : Int) ≤ (k : Int) := by omega
              have hi1 : (k : Int) < (cs.length : Int) := by omega
              have hi2 : (k : Int) < (ds.length : Int) := by omega
              have HST := Lib.hid (fun e => list_step heq.out hlt hlt2 e)
              have HMI := Lib.hid (fun e => same_c (ms := ms) (ns := ns) (at_ne hlt hlt2 e))
              have hz := eInst_neq cs[k] ds[k]
              clear h1 h2 hx hx2 hao hao2 heq
              generalize cs[k] = x at *
              generalize ds[k] = y at *
              dsimp only [In.of] at d0 d1 d2 d3 d4 e0 e1 e2 e3 e4
              by_cases hxy : x = y
              · have HST2 := Lib.hid (HST.out hxy)
                rw [show (!decide (x = y)) = false by simp [hxy]] at hz
                clear HST HMI hxy
                go_wp2_with fail
                go_quiet (fail)
                go_wp2_with fail
                go_roundw
                case rel => exact ⟨k + 1, n + nq, by omega, by go_num, rfl, HST2.out⟩
                case measure => simp [intOf]; omega
              · have HMI2 := Lib.hid (HMI.out hxy)
                rw [show (!decide (x = y)) = true by simp [hxy]] at hz
                clear HST HMI hxy
                go_wp2_with fail
                go_quiet (fail)
                go_wp2_with fail
                go_ret
                exact ⟨ret_b HMI2.out, (HO.out.drewN _).drewN _⟩
            · have HF := Lib.hid (same_y HE.out (list_all heq.out (by omega) (by have := HLC.out; omega)))
              go_wp2_with fail
              go_ret
              exact ⟨ret_b HF.out, HO.out.drewN _⟩
    · have hq2 : (((cs.length : Nat) : Int) != ((ds.length : Nat) : Int)) = true := by simp; omega
      have HF := Lib.hid (same_c (ms := ms) (ns := ns) (len_ne hlc))
      clear hlm hlc
      go_wp2_with fail
      go_ret
      exact ⟨ret_b HF.out, by rw [← HW.out]; exact HO.out⟩
  · have hq : (((ms.length : Nat) : Int) != ((ns.length : Nat) : Int)) = true := by simp; omega
    have HF := Lib.hid (same_m (cs := cs) (ds := ds) (len_ne hlm))
    clear hlm
    go_wp2_with fail
    go_ret
    exact ⟨ret_b HF.out, by rw [← HW.out]; exact HO.out⟩
end Go.Proofs.YtkocfgaajghggaaDoor
