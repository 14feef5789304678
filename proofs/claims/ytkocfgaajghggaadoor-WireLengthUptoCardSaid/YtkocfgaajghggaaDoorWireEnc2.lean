/- wire: Encode of a well formed module. -/
import Derived.Test.YtkocfgaajghggaaDoorWireEnc
namespace Go.Proofs.YtkocfgaajghggaaDoor
open Go.RowKit
set_option linter.unusedVariables false
set_option linter.unusedSimpArgs false

set_option maxRecDepth 100000 in
set_option maxHeartbeats 8000000 in
theorem encode_ok (ms : List Int) (cs : List InstD) (vm vc : Value) (w : World) (hm : Rd (eInt .i64) w vm ms) (hc : Rd eInst w vc cs) (hi : ∀ i ∈ cs, ImmOk i) (hF : Forms w) (h : modP ms cs = true) :
    Calls Tryd.prog 11 #[.agg #[vm, vc]] w fun e w' => ∃ v', e = .returned (.tuple #[v', .int .i64 0]) ∧ OwS eU8 5 (fun k => w.heap.size ≤ k) w' v' (encP ms cs) ∧ Only (fun _ => False) w w' := by
  have HFM := Lib.hid (fun W (h : Rd (eInt .i64) W vm ms) => formed_any ms vm W h)
  have HAL := Lib.hid (fun W (h : Rd eInst W vc cs) h2 => rightAll_any cs vc W h h2)
  have HMD := Lib.hid (modP_ok h)
  obtain ⟨hm4, h1, h64, hal⟩ := modP_ok h
  have hfm : formedP ms = true := by unfold formedP; exact decide_eq_true hm4
  have hml : ms.length ≤ 4 := hm4.1
  rw [hfm] at HFM
  rw [hal] at HAL
  have HI := Lib.hid hi
  have HM := Lib.hid hm
  have HC := Lib.hid hc
  have HF := Lib.hid hF
  obtain ⟨_, am, capm, rfl, hcapm, _, _⟩ := hm
  obtain ⟨_, ao, cap, rfl, hcap, _, _⟩ := hc
  clear hF h hi hm4 hal hfm
  have kc := fun (w : World) (C : Array Value) (n c : Nat) => Lib.run_convert_bytes_const (P := Tryd.prog) w 28 5 C n c Tryd.underlying28 Tryd.underlying5
  go_enter Tryd.func11, Tryd.ntmps11
  go_wp2_with fail
  obtain ⟨wb, hwb⟩ : ∃ wb, wb = w.alloc (.cells #[.slice am ms.length capm, .slice ao cs.length cap] 25) := ⟨_, rfl⟩
  have HB := Lib.hid (show wb.heap[w.heap.size]? = some (.cells #[.slice am ms.length capm, .slice ao cs.length cap] 25 (0, 0)) by rw [hwb]; exact heap_alloc_new w _)
  have HO := Lib.hid (show Only (fun _ => False) w wb by rw [hwb]; exact Only.alloc _ _ _)
  have HMb := Lib.hid (HM.out.only HO.out)
  have HCb := Lib.hid (HC.out.only HO.out)
  have HFb := Lib.hid (HF.out.only HO.out)
  rw [← hwb]
  clear hwb HM HC HF
  have c1 := cells_of_heap HB.out 1 _ rfl
  refine (HFM.out _ HMb.out).mono ?_
  rintro e w1 ⟨rfl, rfl⟩
  have h1' : ¬ (cs.length : Int) < 1 := by omega
  have h64' : ¬ (64 : Int) < (cs.length : Int) := by omega
  go_wp2_with fail
  refine (HAL.out _ HCb.out HFb.out).mono ?_
  rintro e w2 ⟨rfl, hO2⟩
  have HO2 := Lib.hid hO2
  have c0 := cells_of_heap (hO2.heap HB.out (fun h => h)) 0 _ rfl
  have hb2 := heap_lt (hO2.heap HB.out (fun h => h))
  have hwm : IntKind.u64.wrap (ms.length : Int) = (ms.length : Int) := by rw [IntKind.wrap_u64]; omega
  have hwc : IntKind.u64.wrap (cs.length : Int) = (cs.length : Int) := by rw [IntKind.wrap_u64]; omega
  clear hO2 c1 HFM HAL
  go_wp2_with fail
  have HL3 := Lib.hid (Rd.lit (E := eU8) w2 #[.int .u8 84, .int .u8 80, .int .u8 1] 5 (3, 4) 3 3 [84, 80, 1] (by simp [Enc.all, eInt]) rfl (by simp) (by simp [maxLen]))
  have HR3 := Lib.hid (Rd.lit2 (E := eU64) w2 (.cells #[.int .u8 84, .int .u8 80, .int .u8 1] 5 (3, 4)) #[.int .u64 (ms.length : Int)] 46 (0, 0) 1 1 [(ms.length : Int)] (by simp [Enc.all, eInt]) rfl (by simp) (by simp [maxLen]))
  refine (puts_o [(ms.length : Int)] _ _ HR3.out (one_range (by omega) (by omega)) (by simp)).mono ?_
  rintro e w3 ⟨v3, rfl, hw3, hO3⟩
  have HL3b := Lib.hid ((HL3.out.alloc _).only hO3)
  have HW3 := Lib.hid hw3.rd
  have HO3 := Lib.hid ((HO2.out.tr ((Only.alloc _ _ _).tr (Only.alloc _ _ _))).tr hO3)
  have hl3 := leb1_len (ms.length : Int)
  rw [← lebs_one] at hl3
  clear HL3 HR3 hw3 hO3 c0 hb2 HO2
  go_wp2_with (at_builtin; refine wl_append_full (E := eU8) rfl _ (.tmp 38) _ rfl 5 1 sliceU8 _ _ [84, 80, 1] rfl HL3b.out _ (lebs [(ms.length : Int)]) rfl HW3.out (by omega) (by simp only [List.length_cons, List.length_nil]; omega) (by simp) (by simp only [List.length_cons, List.length_nil]; omega) (by unfold maxLen; simp only [List.length_cons, List.length_nil]; omega) ?_)
  intro v4 w4 h4 hO4
  have hO5 := HO3.out.tr hO4
  have h5 := OwS.framed.mono _ (fun k => wb.heap.size ≤ k) _ h4 fun k _ h => Nat.le_trans HO3.out.size h
  have HX4 := Lib.hid (show OwS eU8 5 (fun k => wb.heap.size ≤ k) w4 v4 (encM ms 0) by
    have e : encM ms 0 = [84, 80, 1] ++ lebs [(ms.length : Int)] := by simp [encM, mapsB, lebs_one]
    rw [e]; exact h5)
  have HO4 := Lib.hid hO5
  have c0 := cells_of_heap (hO5.heap HB.out (fun h => h)) 0 _ rfl
  have hb4 := heap_lt (hO5.heap HB.out (fun h => h))
  clear h4 hO4 h5 hO5 HL3b HW3 HO3 hl3
  go_wp2_with fail
  go_loopw [4, 6, 43] (fun t4 _ t43 wr => ∃ k : Nat, k ≤ ms.length ∧ t43 = .int .i64 k ∧ Hid (OwS eU8 5 (fun k => wb.heap.size ≤ k) wr t4 (encM ms k)) ∧ Hid (Only (fun _ => False) wb wr)) (fun _ _ t43 _ => ms.length - (intOf t43).toNat)
  case atStart => exact ⟨0, Nat.zero_le _, rfl, HX4, HO4⟩
  case round =>
    clear HX4 HO4 c0 hb4
    obtain ⟨k, hk, rfl, HX, HOr⟩ := hrel
    by_cases hlt : k < ms.length
    · obtain ⟨_, am', capm', hao, _, _, hx⟩ := HMb.out.only HOr.out
      obtain ⟨rfl, _, rfl⟩ : am = am' ∧ ms.length = ms.length ∧ capm = capm' := by simpa using hao
      obtain ⟨sb, off, rfl, hc⟩ := hx (by omega)
      have c1 := hc k _ (eInt_at .i64 ms k hlt)
      have hi0 : (0 : Int) ≤ (k : Int) := by omega
      have hi1 : (k : Int) < (ms.length : Int) := by omega
      have hmr := HMD.out.1.2.1 _ (List.getElem_mem hlt)
      have HST := Lib.hid (encM_step hlt)
      have hel := encM_len ms k
      clear hc hx hao
      generalize ms[k] = m at *
      have hwm1 : IntKind.u64.wrap m = m := by rw [IntKind.wrap_u64]; omega
      have HR3 := Lib.hid (Rd.lit (E := eU64) wr #[.int .u64 m] 46 (0, 0) 1 1 [m] (by simp [Enc.all, eInt]) rfl (by simp) (by simp [maxLen]))
      go_wp2_with fail
      refine (puts_o [m] _ _ HR3.out (one_range (by omega) (by omega)) (by simp)).mono ?_
      rintro e w3 ⟨v3, rfl, hw3, hO3⟩
      have HL3b := Lib.hid ((HX.out.keep0 (Only.alloc _ _ _)).keep0 hO3)
      have HW3 := Lib.hid hw3.rd
      have HO3 := Lib.hid ((HOr.out.tr (Only.alloc _ _ _)).tr hO3)
      have hl3 := leb1_len m
      rw [← lebs_one] at hl3
      clear HR3 hw3 hO3 c1
      go_wp2_with (at_builtin; refine wl_appendS (E := eU8) rfl _ (.tmp 51) _ rfl 5 1 sliceU8 (fun k => wb.heap.size ≤ k) _ (encM ms k) rfl HL3b.out _ (lebs [m]) rfl HW3.out (by omega) (by unfold maxLen; omega) ?_)
      intro v5 w5 h5 hO5
      obtain ⟨h6, hO6⟩ := app_done rfl HO3.out (Only.refl _ _) (Only.refl _ _) h5 hO5
      rw [lebs_one, ← HST.out] at h6
      have HX6 := Lib.hid h6
      have HO6 := Lib.hid hO6
      clear h5 hO5 h6 hO6 HL3b HW3 HO3 hl3
      go_wp2_with fail
      go_roundw
      case rel => exact ⟨k + 1, by omega, by go_num, HX6, HO6⟩
      case measure => simp [intOf]; omega
    · obtain rfl : k = ms.length := by omega
      have c1 := cells_of_heap (HOr.out.heap HB.out (fun h => h)) 1 _ rfl
      have HR3 := Lib.hid (Rd.lit (E := eU64) wr #[.int .u64 (cs.length : Int)] 46 (0, 0) 1 1 [(cs.length : Int)] (by simp [Enc.all, eInt]) rfl (by simp) (by simp [maxLen]))
      go_wp2_with fail
      refine (puts_o [(cs.length : Int)] _ _ HR3.out (one_range (by omega) (by omega)) (by simp)).mono ?_
      rintro e w3 ⟨v3, rfl, hw3, hO3⟩
      have HL3b := Lib.hid ((HX.out.keep0 (Only.alloc _ _ _)).keep0 hO3)
      have HW3 := Lib.hid hw3.rd
      have HO3 := Lib.hid ((HOr.out.tr (Only.alloc _ _ _)).tr hO3)
      have hl3 := leb1_len (cs.length : Int)
      have hel := encM_len ms ms.length
      rw [← lebs_one] at hl3
      clear HR3 hw3 hO3 c1 HX HOr
      go_wp2_with (at_builtin; refine wl_appendS (E := eU8) rfl _ (.tmp 60) _ rfl 5 1 sliceU8 (fun k => wb.heap.size ≤ k) _ (encM ms ms.length) rfl HL3b.out _ (lebs [(cs.length : Int)]) rfl HW3.out (by omega) (by unfold maxLen; omega) ?_)
      intro v5 w5 h5 hO5
      obtain ⟨h6, hO6⟩ := app_done rfl HO3.out (Only.refl _ _) (Only.refl _ _) h5 hO5
      rw [lebs_one, ← encC_zero] at h6
      have HX6 := Lib.hid h6
      have HO6 := Lib.hid hO6
      have c1 := cells_of_heap (hO6.heap HB.out (fun h => h)) 1 _ rfl
      have hb6 := heap_lt (hO6.heap HB.out (fun h => h))
      clear h5 hO5 h6 hO6 HL3b HW3 HO3 hl3 hel
      go_wp2_with fail
      go_loopw [4, 8, 65] (fun t4 _ t65 wr => ∃ k : Nat, k ≤ cs.length ∧ t65 = .int .i64 k ∧ Hid (OwS eU8 5 (fun k => wb.heap.size ≤ k) wr t4 (encC ms cs k)) ∧ Hid (Only (fun _ => False) wb wr)) (fun _ _ t65 _ => cs.length - (intOf t65).toNat)
      case atStart => exact ⟨0, Nat.zero_le _, rfl, HX6, HO6⟩
      case round =>
        clear HX6 HO6 c1 hb6
        obtain ⟨k, hk, rfl, HX, HOr⟩ := hrel
        by_cases hlt : k < cs.length
        · obtain ⟨_, ao', cap', hao, _, _, hx⟩ := HCb.out.only HOr.out
          obtain ⟨rfl, _, rfl⟩ : ao = ao' ∧ cs.length = cs.length ∧ cap = cap' := by simpa using hao
          obtain ⟨sb, off, rfl, hc⟩ := hx (by omega)
          obtain ⟨c0, c1, c2, c3, c4⟩ := inst_cells hc k hlt
          have hi0 : (0 : Int) ≤ (k : Int) := by omega
          have hi1 : (k : Int) < (cs.length : Int) := by omega
          have him := HI.out _ (List.getElem_mem hlt)
          have hrt : rightP (In.of cs[k]) = true := List.all_eq_true.1 HMD.out.2.2.2 _ (List.getElem_mem hlt)
          have HST := Lib.hid (encC_step (ms := ms) hlt)
          have hel := encC_len ms cs k
          clear hc hx hao
          generalize cs[k] = ci at *
          obtain ⟨op, d, a, x, imm⟩ := ci
          obtain ⟨⟨o1, o2⟩, ⟨d1, d2⟩, ⟨a1, a2⟩, b1, b2⟩ : (0 ≤ op ∧ op ≤ 22) ∧ (0 ≤ d ∧ d ≤ 63) ∧ (0 ≤ a ∧ a ≤ 63) ∧ (0 ≤ x ∧ x ≤ 63) := right_fields hrt
          have hw1 : IntKind.u64.wrap op = op := by rw [IntKind.wrap_u64]; omega
          have hw2 : IntKind.u64.wrap d = d := by rw [IntKind.wrap_u64]; omega
          have hw3 : IntKind.u64.wrap a = a := by rw [IntKind.wrap_u64]; omega
          have hw4 : IntKind.u64.wrap x = x := by rw [IntKind.wrap_u64]; omega
          have HIM := Lib.hid (show -9223372036854775808 ≤ imm ∧ imm ≤ 9223372036854775807 from him)
          have HS2 := Lib.hid (show encC ms cs (k + 1) = encC ms cs k ++ lebs [op, d, a, x] ++ lebs ([imm].map zz) from HST.out)
          clear HST
          dsimp only [In.of] at c0 c1 c2 c3 c4
          clear hrt him
          have HR3 := Lib.hid (Rd.lit2 (E := eU64) wr (.cells #[.int .i64 op, .int .i64 d, .int .i64 a, .int .i64 x, .int .i64 imm] 44) #[.int .u64 op, .int .u64 d, .int .u64 a, .int .u64 x] 46 (0, 0) 4 4 [op, d, a, x] (by simp [Enc.all, eInt]) rfl (by simp) (by simp [maxLen]))
          have HB8 := Lib.hid (heap_alloc_new wr (.cells #[.int .i64 op, .int .i64 d, .int .i64 a, .int .i64 x, .int .i64 imm] 44))
          go_wp2_with fail
          refine (puts_o [op, d, a, x] _ _ HR3.out (four_range ⟨o1, by omega⟩ ⟨d1, d2⟩ ⟨a1, a2⟩ ⟨b1, b2⟩) (by simp)).mono ?_
          rintro e w3 ⟨v3, rfl, hw3, hO3⟩
          have HXs := Lib.hid (show OwS eU8 5 (fun k => wb.heap.size ≤ k ∧ k ≠ wr.heap.size) wr _ (encC ms cs k) from ⟨HX.out.1, fun k hk => ⟨HX.out.2 k hk, by have := (HX.out.1.lt hk).2; omega⟩⟩)
          have HL3b := Lib.hid ((HXs.out.keep0 ((Only.alloc _ _ _).tr (Only.alloc _ _ _))).keep0 hO3)
          have HW3 := Lib.hid hw3.rd
          have HO3 := Lib.hid ((HOr.out.tr ((Only.alloc _ _ _).tr (Only.alloc _ _ _))).tr hO3)
          have HB3 := Lib.hid (hO3.heap (heap_alloc HB8.out) (fun h => h))
          have hl3 := (lebs_len [op, d, a, x]).2
          have hl4 := (lebs_len [op, d, a, x]).1
          simp only [List.length_cons, List.length_nil] at hl3 hl4
          have hr8 : wr.heap.size < wr.heap.size + 1 := by omega
          generalize hg8 : wr.heap.size = g8 at *
          have hg8b : wb.heap.size ≤ g8 := by rw [← hg8]; exact HOr.out.size
          have hg3 : g8 < w3.heap.size := heap_lt HB3.out
          clear HR3 hw3 hO3 c0 c1 c2 c3 c4 HB8 hg8 hr8
          go_wp2_with (at_builtin; refine wl_appendS (E := eU8) rfl _ (.tmp 83) _ rfl 5 1 sliceU8 (fun k => wb.heap.size ≤ k ∧ k ≠ g8) _ (encC ms cs k) rfl HL3b.out _ (lebs [op, d, a, x]) rfl HW3.out (by omega) (by unfold maxLen; omega) ?_)
          intro v5 w5 h5 hO5
          have d4 := cells_of_heap (hO5.heap HB3.out (fun h => h.2 rfl)) 4 _ rfl
          have hg5 := heap_lt (hO5.heap HB3.out (fun h => h.2 rfl))
          obtain ⟨h6, hO6⟩ := app_done rfl HO3.out (Only.refl _ _) (Only.refl _ _) (OwS.framed.mono _ _ _ h5 fun k _ h => h.elim (fun h => .inl h.1) .inr) (hO5.mono fun k _ h => h.1)
          have HX6 := Lib.hid h6
          have HO6 := Lib.hid hO6
          have HR6 := Lib.hid (Rd.lit (E := eInt .i64) w5 #[.int .i64 imm] 2 (0, 0) 1 1 [imm] (by simp [Enc.all, eInt]) rfl (by simp) (by simp [maxLen]))
          clear h5 hO5 h6 hO6 HL3b HW3 HO3 HXs HX HOr HB3 hg3
          go_wp2_with fail
          refine (putInts_o [imm] _ _ HR6.out (sone_range HIM.out) (by simp)).mono ?_
          rintro e w7 ⟨v7, rfl, hw7, hO7⟩
          have HL7 := Lib.hid ((HX6.out.keep0 (Only.alloc _ _ _)).keep0 hO7)
          have HW7 := Lib.hid hw7.rd
          have HO7 := Lib.hid ((HO6.out.tr (Only.alloc _ _ _)).tr hO7)
          have hl7 := (lebs_len ([imm].map zz)).2
          have hl8 : (encC ms cs k ++ lebs [op, d, a, x]).length = (encC ms cs k).length + (lebs [op, d, a, x]).length := List.length_append
          simp only [List.length_cons, List.length_nil, List.length_map] at hl7
          clear hw7 hO7 d4 hg5 HR6 HX6 HO6
          go_wp2_with (at_builtin; refine wl_appendS (E := eU8) rfl _ (.tmp 89) _ rfl 5 1 sliceU8 (fun k => wb.heap.size ≤ k) _ (encC ms cs k ++ lebs [op, d, a, x]) rfl HL7.out _ (lebs ([imm].map zz)) rfl HW7.out (by omega) (by unfold maxLen; omega) ?_)
          intro v8 w8 h8 hO8
          obtain ⟨h9, hO9⟩ := app_done rfl HO7.out (Only.refl _ _) (Only.refl _ _) h8 hO8
          have HX9 := Lib.hid (show OwS eU8 5 (fun k => wb.heap.size ≤ k) w8 v8 (encC ms cs (k + 1)) by
            have e := HS2.out
            simp only [List.append_assoc, List.map_cons, List.map_nil] at e
            rw [e]; simpa using h9)
          have HO9 := Lib.hid hO9
          clear h8 hO8 h9 hO9 HL7 HW7 HO7 hl7 hl8 hl3 hl4 hel
          go_wp2_with fail
          go_roundw
          case rel => exact ⟨k + 1, by omega, by go_num, HX9, HO9⟩
          case measure => simp [intOf]; omega
        · obtain rfl : k = cs.length := by omega
          have HE := Lib.hid (encC_all ms cs)
          go_wp2_with fail
          go_ret2
          have h := HX.out
          rw [HE.out] at h
          exact ⟨_, rfl, OwS.framed.mono _ _ _ h fun k _ h => Nat.le_trans HO.out.size h, HO.out.tr HOr.out⟩
end Go.Proofs.YtkocfgaajghggaaDoor
