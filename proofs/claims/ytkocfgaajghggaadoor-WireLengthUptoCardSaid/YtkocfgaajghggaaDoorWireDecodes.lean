/- The law WireDecodes: its walk. -/
import Derived.Test.YtkocfgaajghggaaDoorWireAwake
import Derived.Test.YtkocfgaajghggaaDoorWireRefDec
import Derived.Test.YtkocfgaajghggaaDoorOpen
namespace Go.Proofs.YtkocfgaajghggaaDoor
open Go.RowKit
set_option linter.unusedVariables false
set_option linter.unusedSimpArgs false

theorem post_ok {b : List Int} {w w' : World} {e : Ending} {ms : List Int} {cs : List InstD} (h : DecPost b w e w') (hd : decP b = .ok ms cs) :
    (∃ vm vc, e = .returned (.tuple #[.agg #[vm, vc], .int .i64 0, .int .i64 0]) ∧ ModN w vm vc ms cs w') ∧ ∀ i ∈ cs, ImmOk i := by
  obtain ⟨hO, h⟩ := h
  rcases h with ⟨ms', cs', vm, vc, hd', hi, he, h3, h4⟩ | ⟨p, e', hd', _⟩
  · rw [hd] at hd'
    obtain ⟨rfl, rfl⟩ : ms = ms' ∧ cs = cs' := by simpa using hd'
    exact ⟨⟨vm, vc, he, h3, h4, hO⟩, hi⟩
  · rw [hd] at hd'
    simp at hd'
theorem post_bad {b : List Int} {w w' : World} {e : Ending} {p : Nat} {er : Int} (h : DecPost b w e w') (hd : decP b = .bad p er) :
    e = .returned (.tuple #[.agg #[.slice none 0 0, .slice none 0 0], .int .i64 (p : Int), .int .i64 er]) ∧ Only (fun _ => False) w w' := by
  obtain ⟨hO, h⟩ := h
  rcases h with ⟨ms', cs', vm, vc, hd', hi, he, h3, h4⟩ | ⟨p', e', hd', he⟩
  · rw [hd] at hd'
    simp at hd'
  · rw [hd] at hd'
    obtain ⟨rfl, rfl⟩ : p = p' ∧ er = e' := by simpa using hd'
    exact ⟨he, hO⟩
theorem bytes_wf {b : List Int} (h : ∀ x ∈ b, (Lit.int .u8 x).wf = true) : ∀ x ∈ b, 0 ≤ x ∧ x ≤ 255 := fun x hx => bounds_u8 (h x hx)
theorem litU8 (w : World) : OwS eU8 5 (fun k => w.heap.size ≤ k) (w.alloc (.cells #[] 5)) (.slice (some ⟨w.heap.size, 0, none⟩) 0 0) [] :=
  ⟨Ow.lit w 0 #[] 5 0 [] (by simp [Enc.all]) rfl (by simp) (Nat.zero_le _), fun k hk => by
    obtain rfl : w.heap.size = k := by simpa [Value.ownBlock] using hk
    exact Nat.le_refl _⟩
set_option maxRecDepth 100000 in
set_option maxHeartbeats 4000000 in
theorem wireDecodes_any (b : List Int) (v : Value) (w : World) (hv : Rd (eInt .u8) w v b) (hl : b.length * 1 ≤ 140737488351232) (hwf : ∀ x ∈ b, (Lit.int .u8 x).wf = true) (hF : FormsB w) :
    Calls Tryd.prog 4 #[v] w fun e w' => e = .returned (.bool true) ∧ Below w.heap.size w w' := by
  have HV := Lib.hid hv
  have HB := Lib.hid (bytes_wf hwf)
  have HF := Lib.hid hF.forms
  clear hwf hF hv
  go_enter Tryd.func4, Tryd.ntmps4
  go_wp2_with fail
  refine (awake_any w HF.out).mono ?_
  rintro e w1 ⟨rfl, hO1⟩
  have HO1 := Lib.hid hO1
  have HL1 := Lib.hid (litU8 w1)
  clear hO1
  go_wp2_with (at_builtin; refine wl_appendS (E := eU8) rfl _ (.tmp 13) _ rfl 5 1 sliceU8 _ _ [] rfl HL1.out _ b rfl ((HV.out.only HO1.out).alloc _) (by simp only [List.length_nil]; omega) (by have := HV.out.1; simp only [List.length_nil, Nat.zero_add]; exact this) ?_)
  intro v2 w2 h2 hO2
  have HO2 := Lib.hid ((HO1.out.tr (Only.alloc _ _ _)).trans hO2 fun k hk h => by have := HO1.out.size; omega)
  have HR2 := Lib.hid h2.rd
  clear h2 hO2 HL1
  cases hd : decP b with
  | ok ms cs =>
    have HD := Lib.hid hd
    clear hd
    go_wp2_with fail
    refine (decode_any b v2 w2 HR2.out HB.out (HF.out.only HO2.out)).mono ?_
    rintro e w3 hp
    obtain ⟨⟨vm, vc, rfl, hM⟩, _⟩ := post_ok hp HD.out
    obtain ⟨_, am, cm, rfl, _⟩ := id hM.1.1
    obtain ⟨_, ac, cc, rfl, _⟩ := id hM.2.1.1
    have HM := Lib.hid (hM.fresh (Only.alloc _ w3 (.cells #[.slice am ms.length cm, .slice ac cs.length cc] 25)))
    have HX := Lib.hid (heap_alloc_new w3 (.cells #[.slice am ms.length cm, .slice ac cs.length cc] 25))
    clear hp hM
    go_wp2_with fail
    generalize hw4 : World.alloc w3 _ = w4 at *
    generalize w3.heap.size = g3 at *
    clear hw4
    refine (refDecode_any b v w4 (HV.out.only (HO2.out.tr HM.out.2.2)) HB.out).mono ?_
    rintro e w5 hp
    obtain ⟨⟨vn, vd, rfl, hN⟩, _⟩ := post_ok hp HD.out
    obtain ⟨_, an, cn, rfl, _⟩ := id hN.1.1
    obtain ⟨_, ad, cdd, rfl, _⟩ := id hN.2.1.1
    have HN := Lib.hid (hN.fresh (Only.alloc _ w5 (.cells #[.slice an ms.length cn, .slice ad cs.length cdd] 25)))
    have HM2 := Lib.hid (HM.out.fresh HN.out.2.2)
    have hX2 := HN.out.2.2.heap HX.out id
    have c0 := cells_of_heap hX2 0 _ rfl
    have c1 := cells_of_heap hX2 1 _ rfl
    have hg3 : g3 < w5.heap.size := heap_lt (hN.2.2.heap HX.out id)
    have c0 := cells_of_heap (hN.2.2.heap HX.out id) 0 _ rfl
    have c1 := cells_of_heap (hN.2.2.heap HX.out id) 1 _ rfl
    clear hp hN hX2
    go_wp2_with fail
    refine (refSame_any ms ms cs cs _ _ _ _ _ HM2.out.1.rd HN.out.1.rd HM2.out.2.1.rd HN.out.2.1.rd).mono ?_
    rintro e w6 ⟨rfl, hO6⟩
    rw [← same_y (rfl : ms = ms) (rfl : cs = cs)]
    have HO6 := Lib.hid ((HO2.out.tr HM2.out.2.2).tr hO6)
    clear hO6 c0 c1
    go_wp2_with fail
    go_ret
    exact ⟨rfl, HO6.out.below (Nat.le_refl _) (fun _ h => h.elim)⟩
  | bad p er =>
    have HD := Lib.hid hd
    clear hd
    go_wp2_with fail
    refine (decode_any b v2 w2 HR2.out HB.out (HF.out.only HO2.out)).mono ?_
    rintro e w3 hp
    obtain ⟨rfl, hO3⟩ := post_bad hp HD.out
    have HO3 := Lib.hid ((HO2.out.tr hO3).tr (Only.alloc _ w3 (.cells #[.slice none 0 0, .slice none 0 0] 25)))
    have HX := Lib.hid (heap_alloc_new w3 (.cells #[.slice none 0 0, .slice none 0 0] 25))
    clear hp hO3
    go_wp2_with fail
    generalize hw4 : World.alloc w3 _ = w4 at *
    generalize w3.heap.size = g3 at *
    clear hw4
    refine (refDecode_any b v w4 (HV.out.only HO3.out) HB.out).mono ?_
    rintro e w5 hp
    obtain ⟨rfl, hO5⟩ := post_bad hp HD.out
    have HO5 := Lib.hid ((HO3.out.tr hO5).tr (Only.alloc _ w5 (.cells #[.slice none 0 0, .slice none 0 0] 25)))
    have hg3 : g3 < w5.heap.size := heap_lt (hO5.heap HX.out id)
    have c0 := cells_of_heap (hO5.heap HX.out id) 0 _ rfl
    have c1 := cells_of_heap (hO5.heap HX.out id) 1 _ rfl
    clear hp hO5
    go_wp2_with fail
    refine (refSame_any [] [] [] [] _ _ _ _ _ (Rd.nil _) (Rd.nil _) (Rd.nil _) (Rd.nil _)).mono ?_
    rintro e w6 ⟨rfl, hO6⟩
    rw [← same_y (rfl : ([] : List Int) = []) (rfl : ([] : List InstD) = [])]
    have HO6 := Lib.hid (HO5.out.tr hO6)
    clear hO6 c0 c1
    go_wp2_with fail
    go_ret
    exact ⟨rfl, HO6.out.below (Nat.le_refl _) (fun _ h => h.elim)⟩
end Go.Proofs.YtkocfgaajghggaaDoor
