/- The law WireEncodes: its walk. -/
import Derived.Test.YtkocfgaajghggaaDoorWireRefEnc
import Derived.Test.YtkocfgaajghggaaDoorWireOpen
namespace Go.Proofs.YtkocfgaajghggaaDoor
open Go.RowKit
set_option linter.unusedVariables false
set_option linter.unusedSimpArgs false

theorem imm_ok {cs : List InstD} (h : ∀ i ∈ cs, InstD.ok i) : ∀ i ∈ cs, ImmOk i := fun i hi => bounds_i64 (h i hi).2.2.2.2
theorem conv_nil (W : World) : (convert 28 9 (.slice none 0 0)).run Tryd.prog W = .ok (.string (strB [])) W := conv_rd (Rd.nil W)
set_option maxRecDepth 100000 in
set_option maxHeartbeats 4000000 in
theorem wireEncodes_any (a : ModX) (w : World) (ha : a.ok w) (hF : FormsB w) :
    Calls Tryd.prog 3 #[a.v] w fun e w' => e = .returned (.bool true) ∧ Below w.heap.size w w' := by
  obtain ⟨va, ca⟩ := a
  obtain ⟨ms, cs, hm, hc, hml, hcl, _, hok⟩ := ha
  dsimp only at hm hc
  have HI := Lib.hid (imm_ok hok)
  have HM := Lib.hid hm
  have HC := Lib.hid hc
  have HF := Lib.hid hF.forms
  clear hm hc hF hok
  obtain ⟨_, aa, na, rfl, _⟩ := id HM.out
  obtain ⟨_, ab, nb, rfl, _⟩ := id HC.out
  unfold ModX.v
  go_enter Tryd.func3, Tryd.ntmps3
  go_wp2_with fail
  have HB0 := Lib.hid (heap_alloc_new w (.cells #[.slice aa ms.length na, .slice ab cs.length nb] 25))
  have HO0 := Lib.hid (Only.alloc (fun _ => False) w (.cells #[.slice aa ms.length na, .slice ab cs.length nb] 25))
  refine (awake_any _ (HF.out.only HO0.out)).mono ?_
  rintro e w1 ⟨rfl, hO1⟩
  have HB1 := Lib.hid (hO1.heap HB0.out id)
  have HO1 := Lib.hid (HO0.out.tr hO1)
  have b0 := cells_of_heap HB1.out 0 _ rfl
  have b1 := cells_of_heap HB1.out 1 _ rfl
  generalize w.heap.size = g1 at *
  clear HB0 HO0 hO1
  go_wp2_with fail
  refine (copied_any ms cs _ _ w1 (HM.out.only HO1.out) (HC.out.only HO1.out) hml hcl).mono ?_
  rintro e w2 ⟨vn, vd, rfl, hM2⟩
  obtain ⟨_, an, cn, rfl, _⟩ := id hM2.1.1
  obtain ⟨_, ad, cd, rfl, _⟩ := id hM2.2.1.1
  have HM2 := Lib.hid (hM2.fresh (Only.alloc _ w2 (.cells #[.slice an ms.length cn, .slice ad cs.length cd] 25)))
  have HO2 := Lib.hid (HO1.out.tr HM2.out.2.2)
  have HB2 := Lib.hid (heap_alloc (p := .cells #[.slice an ms.length cn, .slice ad cs.length cd] 25) (hM2.2.2.heap HB1.out id))
  have HX := Lib.hid (heap_alloc_new w2 (.cells #[.slice an ms.length cn, .slice ad cs.length cd] 25))
  clear hM2 b0 b1 HB1
  cases hmod : modP ms cs
  · go_wp2_with fail
    generalize hw3 : World.alloc w2 _ = w3 at *
    generalize w2.heap.size = g3 at *
    clear hw3
    refine (encode_bad ms cs _ _ w3 HM2.out.1.rd HM2.out.2.1.rd (HF.out.only HO2.out) hmod).mono ?_
    rintro e w4 ⟨rfl, hO4⟩
    have HO4 := Lib.hid (HO2.out.tr hO4)
    have HM4 := Lib.hid (HM2.out.fresh hO4)
    have HB4 := Lib.hid (hO4.heap HB2.out id)
    have HX4 := Lib.hid (hO4.heap HX.out id)
    have b0 := cells_of_heap HB4.out 0 _ rfl
    have b1 := cells_of_heap HB4.out 1 _ rfl
    clear hO4 HB2 HX HM2
    go_wp2_with fail
    refine (refEncode_bad ms cs _ _ w4 (HM.out.only HO4.out) (HC.out.only HO4.out) hmod).mono ?_
    rintro e w5 ⟨rfl, hO5⟩
    have HO5 := Lib.hid (HO4.out.tr hO5)
    have HM5 := Lib.hid (HM4.out.fresh hO5)
    have b0 := cells_of_heap (hO5.heap HB4.out id) 0 _ rfl
    have b1 := cells_of_heap (hO5.heap HB4.out id) 1 _ rfl
    have x0 := cells_of_heap (hO5.heap HX4.out id) 0 _ rfl
    have x1 := cells_of_heap (hO5.heap HX4.out id) 1 _ rfl
    have hcv := conv_nil w5
    clear hO5 hmod
    go_wp2_with fail
    refine (refSame_any ms ms cs cs _ _ _ _ w5 HM5.out.1.rd (HM.out.only HO5.out) HM5.out.2.1.rd (HC.out.only HO5.out)).mono ?_
    rintro e w6 ⟨rfl, hO6⟩
    rw [← same_y (rfl : ms = ms) (rfl : cs = cs)]
    have HO6 := Lib.hid (HO5.out.tr hO6)
    go_wp2_with fail
    go_ret
    exact ⟨rfl, HO6.out.below (Nat.le_refl _) (fun _ h => h.elim)⟩
  · go_wp2_with fail
    generalize hw3 : World.alloc w2 _ = w3 at *
    generalize w2.heap.size = g3 at *
    clear hw3
    refine (encode_ok ms cs _ _ w3 HM2.out.1.rd HM2.out.2.1.rd HI.out (HF.out.only HO2.out) hmod).mono ?_
    rintro e w4 ⟨v4, rfl, hv4, hO4⟩
    have HO4 := Lib.hid (HO2.out.tr hO4)
    have HM4 := Lib.hid (HM2.out.fresh hO4)
    have HB4 := Lib.hid (hO4.heap HB2.out id)
    have HX4 := Lib.hid (hO4.heap HX.out id)
    have HV4 := Lib.hid hv4.rd
    have b0 := cells_of_heap HB4.out 0 _ rfl
    have b1 := cells_of_heap HB4.out 1 _ rfl
    clear hO4 HB2 HX HM2 hv4
    go_wp2_with fail
    refine (refEncode_ok ms cs _ _ w4 (HM.out.only HO4.out) (HC.out.only HO4.out) HI.out hmod).mono ?_
    rintro e w5 ⟨v5, rfl, hv5, hO5⟩
    have HO5 := Lib.hid (HO4.out.tr hO5)
    have HM5 := Lib.hid (HM4.out.fresh hO5)
    have b0 := cells_of_heap (hO5.heap HB4.out id) 0 _ rfl
    have b1 := cells_of_heap (hO5.heap HB4.out id) 1 _ rfl
    have x0 := cells_of_heap (hO5.heap HX4.out id) 0 _ rfl
    have x1 := cells_of_heap (hO5.heap HX4.out id) 1 _ rfl
    have hcv := conv_rd (HV4.out.only hO5)
    have hcv2 := conv_rd hv5.rd
    generalize strB (encP ms cs) = sb at *
    clear hO5 hmod hv5 HV4
    go_wp2_with fail
    refine (refSame_any ms ms cs cs _ _ _ _ w5 HM5.out.1.rd (HM.out.only HO5.out) HM5.out.2.1.rd (HC.out.only HO5.out)).mono ?_
    rintro e w6 ⟨rfl, hO6⟩
    rw [← same_y (rfl : ms = ms) (rfl : cs = cs)]
    have HO6 := Lib.hid (HO5.out.tr hO6)
    go_wp2_with fail
    go_ret
    exact ⟨rfl, HO6.out.below (Nat.le_refl _) (fun _ h => h.elim)⟩
end Go.Proofs.YtkocfgaajghggaaDoor
