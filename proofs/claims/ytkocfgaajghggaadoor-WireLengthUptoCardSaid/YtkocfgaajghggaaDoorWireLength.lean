/- The law WireLength: its walk. -/
import Derived.Test.YtkocfgaajghggaaDoorWireKeepsP
import Derived.Deep.RegionHeld3
namespace Go.Proofs.YtkocfgaajghggaaDoor
open Go.RowKit
set_option linter.unusedVariables false
set_option linter.unusedSimpArgs false

theorem width_o (xs : List Int) (v : Value) (w : World) (hv : Rd eU64 w v xs) (hx : ∀ x ∈ xs, 0 ≤ x ∧ x ≤ 18446744073709551615) (hl : xs.length ≤ 1000) :
    Calls Tryd.prog 16 #[v] w fun e w' => e = .returned (.int .i64 ((lebs xs).length : Nat)) ∧ Only (fun _ => False) w w' :=
  (width_any xs v w hv hx (by omega)).mono fun e w' ⟨he, hb⟩ => ⟨he, Only.of_below hb fun k h1 h2 => by omega⟩
def lenM (ms : List Int) (cs : List InstD) (k : Nat) : Nat := (encM ms k).length + (leb1 (cs.length : Int)).length
def lenC (ms : List Int) (cs : List InstD) (k : Nat) : Nat := (encC ms cs k).length
theorem lenM_zero (ms : List Int) (cs : List InstD) : lenM ms cs 0 = 3 + (lebs [(ms.length : Int), (cs.length : Int)]).length := by
  simp [lenM, encM, mapsB, lebs]; omega
theorem lenM_step {ms : List Int} {cs : List InstD} {k : Nat} (h : k < ms.length) : lenM ms cs (k + 1) = lenM ms cs k + (lebs [ms[k]]).length := by
  simp [lenM, encM_step h, lebs]; omega
theorem lenM_all (ms : List Int) (cs : List InstD) : lenM ms cs ms.length = lenC ms cs 0 := by simp [lenM, lenC, encC_zero]
theorem lenC_step {ms : List Int} {cs : List InstD} {k : Nat} (h : k < cs.length) : lenC ms cs (k + 1) = lenC ms cs k + ((lebs [cs[k].1, cs[k].2.1, cs[k].2.2.1, cs[k].2.2.2.1]).length + (lebs ([cs[k].2.2.2.2].map zz)).length) := by
  simp only [lenC, encC_step h, List.length_append]; omega
theorem lenC_all (ms : List Int) (cs : List InstD) : lenC ms cs cs.length = (encP ms cs).length := by simp [lenC, encC_all]
theorem lenM_len (ms : List Int) (cs : List InstD) (k : Nat) : lenM ms cs k ≤ 23 + 10 * k := by
  have h1 := encM_len ms k
  have h2 := leb1_len (cs.length : Int)
  unfold lenM; omega
set_option maxRecDepth 100000 in
set_option maxHeartbeats 8000000 in
theorem wireLength_any (a : ModX) (w : World) (ha : a.ok w) (hF : FormsB w) :
    Calls Tryd.prog 7 #[a.v] w fun e w' => e = .returned (.bool true) ∧ Below w.heap.size w w' := by
  obtain ⟨va, ca⟩ := a
  obtain ⟨ms, cs, hm, hc, hml, hcl, _, hok⟩ := ha
  dsimp only at hm hc
  have HI := Lib.hid (imm_ok hok)
  have HM := Lib.hid hm
  have HC := Lib.hid hc
  have HF := Lib.hid hF.forms
  clear hm hc hF hok
  obtain ⟨_, am, na, rfl, -⟩ := id HM.out
  obtain ⟨_, ac, nb, rfl, -⟩ := id HC.out
  unfold ModX.v
  go_enter Tryd.func7, Tryd.ntmps7
  go_wp2_with fail
  have HB0 := Lib.hid (heap_alloc_new w (.cells #[.slice am ms.length na, .slice ac cs.length nb] 25))
  have HO0 := Lib.hid (Only.alloc (fun _ => False) w (.cells #[.slice am ms.length na, .slice ac cs.length nb] 25))
  refine (awake_any _ (HF.out.only HO0.out)).mono ?_
  rintro e w1 ⟨rfl, hO1⟩
  have HB1 := Lib.hid (hO1.heap HB0.out id)
  have HO1 := Lib.hid (HO0.out.tr hO1)
  have b0 := cells_of_heap HB1.out 0 _ rfl
  have b1 := cells_of_heap HB1.out 1 _ rfl
  have hg1 := heap_lt HB1.out
  generalize w.heap.size = g1 at *
  clear HB0 HO0 hO1
  go_wp2_with fail
  refine (copied_any ms cs _ _ w1 (HM.out.only HO1.out) (HC.out.only HO1.out) hml hcl).mono ?_
  rintro e w2 ⟨vp, vq, rfl, hN⟩
  have HB2 := Lib.hid (hN.2.2.heap HB1.out id)
  have HO2 := Lib.hid (HO1.out.tr hN.2.2)
  have HP := Lib.hid hN.1.rd
  have HQ := Lib.hid hN.2.1.rd
  clear hN HB1 HO1 b0 b1 hg1
  go_wp2_with fail
  cases hmod : modP ms cs
  · refine (encode_bad ms cs vp vq w2 HP.out HQ.out (HF.out.only HO2.out) hmod).mono ?_
    rintro e w3 ⟨rfl, hO3⟩
    have HO3 := Lib.hid (HO2.out.tr hO3)
    clear hO3
    go_wp2_with fail
    go_ret
    exact ⟨rfl, HO3.out.below (Nat.le_refl _) (fun _ h => h.elim)⟩
  · refine (encode_ok ms cs vp vq w2 HP.out HQ.out HI.out (HF.out.only HO2.out) hmod).mono ?_
    rintro e w3 ⟨v3, rfl, hv3, hO3⟩
    have HO3 := Lib.hid (HO2.out.tr hO3)
    have HB3 := Lib.hid (hO3.heap HB2.out id)
    obtain ⟨_, ae, ce, rfl, -⟩ := id hv3.1
    obtain ⟨hm4, h1, h64, hal⟩ := modP_ok hmod
    have hml4 : ms.length ≤ 4 := hm4.1
    have HM3 := Lib.hid hm4.2.1
    have HAL := Lib.hid (List.all_eq_true.1 hal)
    have HEL := Lib.hid (lenC_all ms cs)
    have hel := (encP_len hmod).1
    generalize (encP ms cs).length = N at *
    clear hv3 hO3 hm4 hal hmod HB2 HO2 HP HQ HF
    have b0 := cells_of_heap HB3.out 0 _ rfl
    have b1 := cells_of_heap HB3.out 1 _ rfl
    have hg1 := heap_lt HB3.out
    have hwm : IntKind.u64.wrap (ms.length : Int) = (ms.length : Int) := by rw [IntKind.wrap_u64]; omega
    have hwc : IntKind.u64.wrap (cs.length : Int) = (cs.length : Int) := by rw [IntKind.wrap_u64]; omega
    have HR4 := Lib.hid (Rd.lit (E := eU64) w3 #[.int .u64 (ms.length : Int), .int .u64 (cs.length : Int)] 46 (0, 0) 2 2 [(ms.length : Int), (cs.length : Int)] (by simp [Enc.all, eInt]) rfl (by simp) (by simp [maxLen]))
    go_wp2_with fail
    refine (width_o [(ms.length : Int), (cs.length : Int)] _ _ HR4.out (fun x hx => by simp at hx; omega) (by simp)).mono ?_
    rintro e w4 ⟨rfl, hO4⟩
    have HO4 := Lib.hid ((HO3.out.tr (Only.alloc _ _ _)).tr hO4)
    have HB4 := Lib.hid (hO4.heap (heap_alloc HB3.out) id)
    have hz := lenM_zero ms cs
    have hzl := lenM_len ms cs 0
    generalize (lebs [(ms.length : Int), (cs.length : Int)]).length = q at *
    have HZ := Lib.hid hz
    have hql : 3 + q ≤ 23 := by omega
    clear hO4 HR4 hz hzl HO3 HB3 b0 b1 hg1
    go_wp2_with fail
    go_loopw [5, 6] (fun t5 t6 wr => ∃ k n : Nat, k ≤ ms.length ∧ n ≤ 23 + 10 * k ∧ t6 = .int .i64 k ∧ t5 = .int .i64 n ∧ Hid (n = lenM ms cs k) ∧ Hid (Only (fun _ => False) w wr) ∧ Hid (wr.heap[g1]? = some (.cells #[.slice am ms.length na, .slice ac cs.length nb] 25 (0, 0)))) (fun _ t6 _ => ms.length - (intOf t6).toNat)
    case atStart => exact ⟨0, 3 + q, Nat.zero_le _, by omega, rfl, by go_num, Lib.hid HZ.out.symm, HO4, HB4⟩
    case round =>
      obtain ⟨k, n, hk, hn, rfl, rfl, HN, HOr, HBr⟩ := hrel
      have b0 := cells_of_heap HBr.out 0 _ rfl
      have hg1 := heap_lt HBr.out
      by_cases hlt : k < ms.length
      · obtain ⟨_, am', na', hao, _, _, hx⟩ := HM.out.only HOr.out
        obtain ⟨rfl, _, rfl⟩ : am = am' ∧ ms.length = ms.length ∧ na = na' := by simpa using hao
        obtain ⟨sb, off, rfl, hc⟩ := hx (by omega)
        have c1 := hc k _ (eInt_at .i64 ms k hlt)
        have hi0 : (0 : Int) ≤ (k : Int) := by omega
        have hi1 : (k : Int) < (ms.length : Int) := by omega
        have hmr := HM3.out _ (List.getElem_mem hlt)
        have hst := lenM_step (cs := cs) hlt
        have hl3 := leb1_len ms[k]
        rw [← lebs_one] at hl3
        clear hc hx hao
        generalize ms[k] = m at *
        have hwm1 : IntKind.u64.wrap m = m := by rw [IntKind.wrap_u64]; omega
        have HR3 := Lib.hid (Rd.lit (E := eU64) wr #[.int .u64 m] 46 (0, 0) 1 1 [m] (by simp [Enc.all, eInt]) rfl (by simp) (by simp [maxLen]))
        have HST := Lib.hid hst
        clear hst
        go_wp2_with fail
        refine (width_o [m] _ _ HR3.out (one_range (by omega) (by omega)) (by simp)).mono ?_
        rintro e w5 ⟨rfl, hO5⟩
        have HO5 := Lib.hid ((HOr.out.tr (Only.alloc _ _ _)).tr hO5)
        have HB5 := Lib.hid (hO5.heap (heap_alloc HBr.out) id)
        generalize (lebs [m]).length = q1 at *
        have HN2 := Lib.hid (show n + q1 = lenM ms cs (k + 1) by rw [HST.out, HN.out])
        clear hO5 HR3 HOr HBr b0 hg1 c1 HN HST
        go_wp2_with fail
        go_roundw
        case rel => exact ⟨k + 1, n + q1, by omega, by omega, by go_num, by go_num, HN2, HO5, HB5⟩
        case measure => simp [intOf]; omega
      · obtain rfl : k = ms.length := by omega
        have HN2 := Lib.hid (HN.out.trans (lenM_all ms cs))
        clear HN HZ HO4 HB4
        go_wp2_with fail
        clear b0 hg1
        go_loopw [5, 7] (fun t5 t7 wr => ∃ k n : Nat, k ≤ cs.length ∧ n ≤ 63 + 50 * k ∧ t7 = .int .i64 k ∧ t5 = .int .i64 n ∧ Hid (n = lenC ms cs k) ∧ Hid (Only (fun _ => False) w wr) ∧ Hid (wr.heap[g1]? = some (.cells #[.slice am ms.length na, .slice ac cs.length nb] 25 (0, 0)))) (fun _ t7 _ => cs.length - (intOf t7).toNat)
        case atStart => exact ⟨0, n, Nat.zero_le _, by omega, rfl, rfl, HN2, HOr, HBr⟩
        case round =>
          clear HN2 HOr HBr hn
          obtain ⟨k, n, hk, hn, rfl, rfl, HN, HOr, HBr⟩ := hrel
          have b1 := cells_of_heap HBr.out 1 _ rfl
          have hg1 := heap_lt HBr.out
          by_cases hlt : k < cs.length
          · obtain ⟨_, ao', cap', hao, _, _, hx⟩ := HC.out.only HOr.out
            obtain ⟨rfl, _, rfl⟩ : ac = ao' ∧ cs.length = cs.length ∧ nb = cap' := by simpa using hao
            obtain ⟨sb, off, rfl, hc⟩ := hx (by omega)
            obtain ⟨c0, c1, c2, c3, c4⟩ := inst_cells hc k hlt
            have hi0 : (0 : Int) ≤ (k : Int) := by omega
            have hi1 : (k : Int) < (cs.length : Int) := by omega
            have him := HI.out _ (List.getElem_mem hlt)
            have hrt : rightP (In.of cs[k]) = true := HAL.out _ (List.getElem_mem hlt)
            have HST := Lib.hid (lenC_step (ms := ms) hlt)
            clear hc hx hao
            generalize cs[k] = ci at *
            obtain ⟨op, d, a, x, imm⟩ := ci
            obtain ⟨⟨o1, o2⟩, ⟨d1, d2⟩, ⟨a1, a2⟩, b1', b2'⟩ : (0 ≤ op ∧ op ≤ 22) ∧ (0 ≤ d ∧ d ≤ 63) ∧ (0 ≤ a ∧ a ≤ 63) ∧ (0 ≤ x ∧ x ≤ 63) := right_fields hrt
            have hw1 : IntKind.u64.wrap op = op := by rw [IntKind.wrap_u64]; omega
            have hw2 : IntKind.u64.wrap d = d := by rw [IntKind.wrap_u64]; omega
            have hw3 : IntKind.u64.wrap a = a := by rw [IntKind.wrap_u64]; omega
            have hw4 : IntKind.u64.wrap x = x := by rw [IntKind.wrap_u64]; omega
            have HIM := Lib.hid (show -9223372036854775808 ≤ imm ∧ imm ≤ 9223372036854775807 from him)
            have HS2 := Lib.hid (show lenC ms cs (k + 1) = lenC ms cs k + ((lebs [op, d, a, x]).length + (lebs ([imm].map zz)).length) from HST.out)
            clear HST
            dsimp only [In.of] at c0 c1 c2 c3 c4
            clear hrt him
            have HB8 := Lib.hid (heap_alloc_new wr (.cells #[.int .i64 op, .int .i64 d, .int .i64 a, .int .i64 x, .int .i64 imm] 44))
            have HO8 := Lib.hid (HOr.out.tr (Only.alloc _ wr (.cells #[.int .i64 op, .int .i64 d, .int .i64 a, .int .i64 x, .int .i64 imm] 44)))
            have HBr8 := Lib.hid (heap_alloc (p := .cells #[.int .i64 op, .int .i64 d, .int .i64 a, .int .i64 x, .int .i64 imm] 44) HBr.out)
            go_upto_region 15 with (fail)
            generalize hW8 : wr.alloc (.cells #[.int .i64 op, .int .i64 d, .int .i64 a, .int .i64 x, .int .i64 imm] 44) = W8 at *
            generalize wr.heap.size = g8 at *
            clear hW8 c0 c1 c2 c3 c4 b1 hg1 HOr HBr
            have e0 := cells_of_heap HB8.out 0 _ rfl
            have e1 := cells_of_heap HB8.out 1 _ rfl
            have e2 := cells_of_heap HB8.out 2 _ rfl
            have e3 := cells_of_heap HB8.out 3 _ rfl
            have e4 := cells_of_heap HB8.out 4 _ rfl
            have hg8 := heap_lt HB8.out
            obtain ⟨q2, hq2⟩ : ∃ q, q = (lebs [op, d, a, x]).length := ⟨_, rfl⟩
            obtain ⟨L3, hL3⟩ : ∃ L, L = lebs ([imm].map zz) := ⟨_, rfl⟩
            have hq2l : q2 ≤ 40 := by rw [hq2]; exact (lebs_len [op, d, a, x]).2
            have hL3l : L3.length ≤ 10 := by rw [hL3]; exact (lebs_len ([imm].map zz)).2
            have HW := Lib.hid (fun (W : World) (v : Value) (h : Rd eU64 W v [op, d, a, x]) => show Calls Tryd.prog 16 #[v] W fun e w' => e = .returned (.int .i64 (q2 : Nat)) ∧ Only (fun _ => False) W w' from by
              rw [hq2]; exact width_o [op, d, a, x] v W h (four_range ⟨o1, by omega⟩ ⟨d1, d2⟩ ⟨a1, a2⟩ ⟨b1', b2'⟩) (by simp))
            have HPI := Lib.hid (fun (W : World) (v : Value) (h : Rd (eInt .i64) W v [imm]) => show Calls Tryd.prog 17 #[v] W fun e w' => ∃ v', e = .returned v' ∧ OwS eU8 5 (fun k => W.heap.size ≤ k) w' v' L3 ∧ Only (fun _ => False) W w' from by
              rw [hL3]; exact putInts_o [imm] v W h (sone_range HIM.out) (by simp))
            rw [← hq2, ← hL3] at HS2
            clear hq2 hL3
            have HRa := Lib.hid (Rd.lit (E := eU64) W8 #[.int .u64 op, .int .u64 d, .int .u64 a, .int .u64 x] 46 (0, 0) 4 4 [op, d, a, x] (by simp [Enc.all, eInt]) rfl (by simp) (by simp [maxLen]))
            have HRc := Lib.hid (Rd.lit2 (E := eU64) W8 (.cells #[.int .i64 imm] 2) #[.int .u64 op, .int .u64 d, .int .u64 a, .int .u64 x] 46 (0, 0) 4 4 [op, d, a, x] (by simp [Enc.all, eInt]) rfl (by simp) (by simp [maxLen]))
            have HRi := Lib.hid (fun W => Rd.lit (E := eInt .i64) W #[.int .i64 imm] 2 (0, 0) 1 1 [imm] (by simp [Enc.all, eInt]) rfl (by simp) (by simp [maxLen]))
            have HRd := Lib.hid (Rd.lit2 (E := eInt .i64) W8 (.cells #[.int .u64 op, .int .u64 d, .int .u64 a, .int .u64 x] 46) #[.int .i64 imm] 2 (0, 0) 1 1 [imm] (by simp [Enc.all, eInt]) rfl (by simp) (by simp [maxLen]))
            have HK := Lib.hid (fun (W : World) (h : Only (fun _ => False) W8 W) => show W.cell? ⟨g8, 0, none⟩ = some (.int .i64 op) ∧ W.cell? ⟨g8, 1, none⟩ = some (.int .i64 d) ∧ W.cell? ⟨g8, 2, none⟩ = some (.int .i64 a) ∧ W.cell? ⟨g8, 3, none⟩ = some (.int .i64 x) ∧ W.cell? ⟨g8, 4, none⟩ = some (.int .i64 imm) ∧ g8 < W.heap.size from
              ⟨cells_of_heap (h.heap HB8.out id) 0 _ rfl, cells_of_heap (h.heap HB8.out id) 1 _ rfl, cells_of_heap (h.heap HB8.out id) 2 _ rfl, cells_of_heap (h.heap HB8.out id) 3 _ rfl, cells_of_heap (h.heap HB8.out id) 4 _ rfl, heap_lt (h.heap HB8.out id)⟩)
            go_region_held3 (fun w' => w'.cell? ⟨g8, 0, none⟩ = some (.int .i64 op) ∧ w'.cell? ⟨g8, 1, none⟩ = some (.int .i64 d) ∧ w'.cell? ⟨g8, 2, none⟩ = some (.int .i64 a) ∧ w'.cell? ⟨g8, 3, none⟩ = some (.int .i64 x) ∧ w'.cell? ⟨g8, 4, none⟩ = some (.int .i64 imm) ∧ g8 < w'.heap.size)
              ((first
                | exact ⟨e0, e1, e2, e3, e4, hg8⟩
                | exact HK.out _ HO10.out
                | exact HK.out _ HO9.out
                | exact HK.out _ (HO9.out.tr (Only.alloc _ _ _))
                | exact HK.out _ ((Only.refl _ _).drew_.tr (Only.alloc _ _ _))
                | exact HK.out _ (((Only.refl _ _).drew_.tr (Only.alloc _ _ _)).tr (Only.alloc _ _ _))))
              ((first
                | (go_at_call 16; refine (HW.out _ _ HRa.out.drew).mono ?_; rintro e W9 ⟨rfl, hO9⟩; have HO9 := Lib.hid ((Only.alloc (fun _ => False) W8 (.cells #[.int .u64 op, .int .u64 d, .int .u64 a, .int .u64 x] 46)).drew_.tr hO9); have HB9 := True.intro)
                | (go_at_call 16; refine (HW.out _ _ (HRa.out.alloc (.cells #[.int .i64 imm] 2)).drew).mono ?_; rintro e W9 ⟨rfl, hO9⟩; have HO9 := Lib.hid (((Only.alloc (fun _ => False) W8 (.cells #[.int .u64 op, .int .u64 d, .int .u64 a, .int .u64 x] 46)).tr (Only.alloc _ _ (.cells #[.int .i64 imm] 2))).drew_.tr hO9); have HB9 := Lib.hid (HRd.out.drew.only hO9))
                | (go_at_call 16; refine (HW.out _ _ HRc.out.drew).mono ?_; rintro e W9 ⟨rfl, hO9⟩; have HO9 := Lib.hid (((Only.alloc (fun _ => False) W8 (.cells #[.int .i64 imm] 2)).tr (Only.alloc _ _ (.cells #[.int .u64 op, .int .u64 d, .int .u64 a, .int .u64 x] 46))).drew_.tr hO9); have HB9 := Lib.hid (((HRi.out W8).alloc (.cells #[.int .u64 op, .int .u64 d, .int .u64 a, .int .u64 x] 46)).drew.only hO9))
                | (go_at_call 17; refine (HPI.out _ _ HB9.out).mono ?_; rintro e W10 ⟨v10, rfl, h10, hO10⟩; have HO10 := Lib.hid (HO9.out.tr hO10); obtain ⟨_, ap, cp, rfl, -⟩ := id h10.1; clear h10 hO10)
                | (go_at_call 17; refine (HPI.out _ _ (HRi.out W9)).mono ?_; rintro e W10 ⟨v10, rfl, h10, hO10⟩; have HO10 := Lib.hid ((HO9.out.tr (Only.alloc _ _ _)).tr hO10); obtain ⟨_, ap, cp, rfl, -⟩ := id h10.1; clear h10 hO10)))
            all_goals
              have hwr : IntKind.i64.wrap ((n : Int) + IntKind.i64.wrap ((q2 : Int) + (L3.length : Int))) = ((n + (q2 + L3.length) : Nat) : Int) := by
                rw [show IntKind.i64.wrap ((q2 : Int) + (L3.length : Int)) = (q2 : Int) + (L3.length : Int) from by rw [IntKind.wrap_i64]; omega]
                rw [show IntKind.i64.wrap ((n : Int) + ((q2 : Int) + (L3.length : Int))) = (n : Int) + ((q2 : Int) + (L3.length : Int)) from by rw [IntKind.wrap_i64]; omega]
                omega
              rw [hwr]
              have HX := Lib.hid (HO8.out.tr HO10.out)
              have HY := Lib.hid (HO10.out.heap HBr8.out id)
              have HN2 := Lib.hid (show n + (q2 + L3.length) = lenC ms cs (k + 1) by rw [HS2.out, HN.out])
              have hn2 : n + (q2 + L3.length) ≤ 63 + 50 * (k + 1) := by omega
              clear hwr HO9 HO10 HBr8 HO8 HK HB8 HRa HRc HRi HRd HS2 HN e0 e1 e2 e3 e4 hg8
              generalize n + (q2 + L3.length) = n2 at *
              go_wp2_with fail
              go_roundw
              case rel => exact ⟨k + 1, n2, by omega, hn2, by go_num, rfl, HN2, HX, HY⟩
              case measure => simp [intOf]; omega
          · obtain rfl : k = cs.length := by omega
            obtain rfl : n = N := HN.out.trans HEL.out
            go_wp2_with fail
            go_ret
            exact ⟨rfl, HOr.out.below (Nat.le_refl _) (fun _ h => h.elim)⟩
end Go.Proofs.YtkocfgaajghggaaDoor
