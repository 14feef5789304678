/- The law WireBack: its walk. -/
import Derived.Test.YtkocfgaajghggaaDoorWireBackP
import Derived.Deep.DeepCutAuto
import Derived.Deep.CutBlock
namespace Go.Proofs.YtkocfgaajghggaaDoor
open Go.RowKit
set_option linter.unusedVariables false
set_option linter.unusedSimpArgs false

theorem slice_upto (a : Addr) (n cap k : Nat) (h : k ≤ n) (hc : n ≤ cap) (W : World) :
    (Instr.slice 28 (.slice (some a) n cap) none (some (.int .i64 (k : Int))) (some (.int .i64 (k : Int)))).run Tryd.prog W = .ok (.slice (some a) k k) W := by
  have h1 : (0 : Int) ≤ (k : Int) := by omega
  have h2 : (k : Int) ≤ (cap : Int) := by omega
  go_simp
theorem encP_len {ms : List Int} {cs : List InstD} (h : modP ms cs = true) : (encP ms cs).length ≤ 4000 ∧ 0 < (encP ms cs).length := by
  have h1 := encC_len ms cs cs.length
  rw [encC_all] at h1
  have h2 := (modP_ok h).2.2.1
  have h3 := (modP_ok h).1.1
  exact ⟨by omega, by simp [encP]⟩
def EncBoth (ms : List Int) (cs : List InstD) (w : World) (e : Ending) (w' : World) : Prop := ∃ (v' : Value) (er : Int), e = .returned (.tuple #[v', .int .i64 er]) ∧ Only (fun _ => False) w w' ∧
  ((modP ms cs = true ∧ er = 0 ∧ OwS eU8 5 (fun k => w.heap.size ≤ k) w' v' (encP ms cs)) ∨ (modP ms cs = false ∧ er = 2 ∧ v' = .slice none 0 0))
theorem encode_both (ms : List Int) (cs : List InstD) (vm vc : Value) (w : World) (hm : Rd (eInt .i64) w vm ms) (hc : Rd eInst w vc cs) (hi : ∀ i ∈ cs, ImmOk i) (hF : Forms w) :
    Calls Tryd.prog 11 #[.agg #[vm, vc]] w (EncBoth ms cs w) := by
  cases h : modP ms cs
  · refine (encode_bad ms cs vm vc w hm hc hF h).mono ?_
    rintro e w' ⟨rfl, hO⟩
    exact ⟨_, _, rfl, hO, .inr ⟨h, rfl, rfl⟩⟩
  · refine (encode_ok ms cs vm vc w hm hc hi hF h).mono ?_
    rintro e w' ⟨v', rfl, h1, hO⟩
    exact ⟨_, _, rfl, hO, .inl ⟨h, rfl, h1⟩⟩
set_option maxRecDepth 100000 in
set_option maxHeartbeats 8000000 in
theorem wireBack_any (a : ModX) (b : List Int) (v : Value) (mo : Int) (w : World) (ha : a.ok w) (hv : Rd (eInt .u8) w v b) (hl : b.length * 1 ≤ 140737488351232) (hwf : ∀ x ∈ b, (Lit.int .u8 x).wf = true) (hmo : 0 ≤ mo ∧ mo ≤ 255) (hF : FormsB w) :
    Calls Tryd.prog 5 #[a.v, v, .int .u8 mo] w fun e w' => e = .returned (.bool true) ∧ Below w.heap.size w w' := by
  obtain ⟨va, ca⟩ := a
  obtain ⟨ms, cs, hm, hc, hml, hcl, _, hok⟩ := ha
  dsimp only at hm hc
  have HI := Lib.hid (imm_ok hok)
  have HM := Lib.hid hm
  have HC := Lib.hid hc
  have HV := Lib.hid hv
  have HBY := Lib.hid (bytes_wf hwf)
  have HF := Lib.hid hF.forms
  clear hm hc hF hok hwf
  obtain ⟨hvx, av, cv, rfl, _⟩ := hv
  unfold maxLen at hvx
  obtain ⟨_, aa, na, rfl, _⟩ := id HM.out
  obtain ⟨_, ab, nb, rfl, _⟩ := id HC.out
  unfold ModX.v
  go_enter Tryd.func5, Tryd.ntmps5
  go_wp2_with fail
  have HB0 := Lib.hid (heap_alloc_new w (.cells #[.slice aa ms.length na, .slice ab cs.length nb] 25))
  have HO0 := Lib.hid (Only.alloc (fun _ => False) w (.cells #[.slice aa ms.length na, .slice ab cs.length nb] 25))
  refine (awake_any _ (HF.out.only HO0.out)).mono ?_
  rintro e w1 ⟨rfl, hO1⟩
  have HB1 := Lib.hid (hO1.heap HB0.out id)
  have HO1 := Lib.hid (HO0.out.tr hO1)
  have b0 := cells_of_heap HB1.out 0 _ rfl
  have b1 := cells_of_heap HB1.out 1 _ rfl
  generalize w.heap.size = g1 at *
  clear HB0 HO0 hO1
  go_wp2_with fail
  refine (encode_both ms cs _ _ w1 (HM.out.only HO1.out) (HC.out.only HO1.out) HI.out (HF.out.only HO1.out)).mono ?_
  rintro e w4 ⟨v4, er, rfl, hO4, hcase⟩
  have HO4 := Lib.hid (HO1.out.tr hO4)
  have HB4 := Lib.hid (hO4.heap HB1.out id)
  have HCS := Lib.hid hcase
  clear hO4 hcase b0 b1 HB1
  go_upto_if 29 with (fail)
  go_cut [7] (fun _ wc => Hid (Only (fun _ => False) w wc))
  case first =>
    rcases HCS.out with ⟨hmod, rfl, hv4⟩ | ⟨hmod, rfl, rfl⟩
    · obtain ⟨_, ac4, cc4, rfl, hcc4, _⟩ := id hv4.1
      have HV4 := Lib.hid hv4.rd
      have hEl := encP_len hmod
      have HEB := Lib.hid (encP_bytes hmod HI.out)
      have HED := Lib.hid (dec_enc hmod HI.out [])
      have HEM := Lib.hid (dec_enc hmod HI.out [mo])
      have HES := Lib.hid (dec_short hmod HI.out)
      clear hv4 HCS hmod
      generalize encP ms cs = E at *
      rw [List.append_nil, if_pos rfl] at HED
      rw [if_neg (by simp)] at HEM
      go_wp2_with fail
      refine (decode_any E _ w4 HV4.out HEB.out (HF.out.only HO4.out)).mono ?_
      rintro e w5 hp
      obtain ⟨⟨vn, vd, rfl, hN⟩, _⟩ := post_ok hp HED.out
      obtain ⟨_, an, cn, rfl, _⟩ := id hN.1.1
      obtain ⟨_, ad, cd, rfl, _⟩ := id hN.2.1.1
      have HN := Lib.hid (hN.fresh (Only.alloc _ w5 (.cells #[.slice an ms.length cn, .slice ad cs.length cd] 25)))
      have HO6 := Lib.hid (HO4.out.tr HN.out.2.2)
      have hg1l := heap_lt (hN.2.2.heap HB4.out id)
      have b0 := cells_of_heap (hN.2.2.heap HB4.out id) 0 _ rfl
      have b1 := cells_of_heap (hN.2.2.heap HB4.out id) 1 _ rfl
      have HVx := Lib.hid (HV4.out.only HN.out.2.2)
      clear hp hN HB4 HV4
      go_wp2_with fail
      refine (refSame_any ms ms cs cs _ _ _ _ _ (HM.out.only HO6.out) HN.out.1.rd (HC.out.only HO6.out) HN.out.2.1.rd).mono ?_
      rintro e w6 ⟨rfl, hO7⟩
      rw [← same_y (rfl : ms = ms) (rfl : cs = cs)]
      have HO7 := Lib.hid (HO6.out.tr hO7)
      have HV7 := Lib.hid (HVx.out.only hO7)
      clear hO7 HVx b0 b1 HN HO6 hg1l
      go_wp2_with fail
      go_loopw [6, 12, 13, 14, 15] (fun _ t12 _ _ _ wr => ∃ k : Nat, k ≤ E.length ∧ t12 = .int .i64 k ∧ Hid (Only (fun _ => False) w6 wr)) (fun _ t12 _ _ _ _ => E.length - (intOf t12).toNat)
      case atStart => exact ⟨0, Nat.zero_le _, rfl, Lib.hid (Only.refl _ _)⟩
      case round =>
        obtain ⟨k, hk, rfl, HOr⟩ := hrel
        by_cases hlt : k < E.length
        · obtain ⟨_, ac', cc', hao, _, _, hx⟩ := id HV7.out
          obtain ⟨rfl, _, rfl⟩ : ac4 = ac' ∧ E.length = E.length ∧ cc4 = cc' := by simpa using hao
          obtain ⟨sb, off, rfl, _⟩ := hx (by omega)
          have hsl := slice_upto ⟨sb, off, none⟩ E.length cc4 k hk hcc4
          have HRK := Lib.hid ((HV7.out.only HOr.out).taken k hk k (Nat.le_refl _) (by simp))
          obtain ⟨p, hp, hpk⟩ := HES.out k hlt
          have HPD := Lib.hid hp
          have hi1 : (k : Int) < (E.length : Int) := by omega
          have hpk2 : ¬ (k : Int) < (p : Int) := by omega
          clear hp hx hao
          go_wp2_with fail
          refine (decode_any (E.take k) _ wr HRK.out (fun x hx => HEB.out x (List.mem_of_mem_take hx)) (HF.out.only (HO7.out.tr HOr.out))).mono ?_
          rintro e w8 hp
          obtain ⟨rfl, hO8⟩ := post_bad hp HPD.out
          have HO8 := Lib.hid ((HOr.out.tr hO8).tr (Only.alloc _ w8 (.cells #[.slice none 0 0, .slice none 0 0] 25)))
          clear hp hO8 hsl
          go_wp2_with fail
          go_roundw
          case rel => exact ⟨k + 1, by omega, by go_num, HO8⟩
          case measure => simp [intOf]; omega
        · have HL1 := Lib.hid (litU8 wr)
          have HOx := Lib.hid (HO7.out.tr HOr.out)
          go_wp2_with (at_builtin; refine wl_appendS (E := eU8) rfl _ (.tmp 72) _ rfl 5 1 sliceU8 _ _ [] rfl HL1.out _ E rfl ((HV7.out.only HOr.out).alloc _) (by simp only [List.length_nil]; omega) (by unfold maxLen; simp only [List.length_nil]; omega) ?_)
          intro v8 w8 h8 hO8
          have h8b : OwS eU8 5 (fun k => wr.heap.size ≤ k) w8 v8 E := OwS.framed.mono _ _ _ h8 fun k _ h => h.elim id fun h => Nat.le_of_succ_le h
          have HO8 := Lib.hid ((Only.alloc (fun _ => False) wr (.cells #[] 5)).trans hO8 fun k hk h => by omega)
          have HX8 := Lib.hid (h8b.keep0 (Only.alloc _ w8 (.cells #[.int .u8 mo] 5)))
          have HRL := Lib.hid (Rd.lit (E := eU8) w8 #[.int .u8 mo] 5 (0, 0) 1 1 [mo] rfl rfl (by simp) (by simp [maxLen]))
          clear h8 h8b hO8 HL1
          go_wp2_with (at_builtin; refine wl_appendS (E := eU8) rfl _ (.tmp 75) _ rfl 5 1 sliceU8 _ _ E rfl HX8.out _ [mo] rfl HRL.out (by simp only [List.length_cons, List.length_nil]; omega) (by unfold maxLen; simp only [List.length_cons, List.length_nil]; omega) ?_)
          intro v9 w9 h9 hO9
          have HO9 := Lib.hid ((HOx.out.tr (HO8.out.tr (Only.alloc _ _ _))).trans hO9 fun k hk h => by have h1 := HOx.out.size; omega)
          have HR9 := Lib.hid h9.rd
          clear h9 hO9 HX8 HRL HO8
          go_wp2_with fail
          refine (decode_any (E ++ [mo]) _ w9 HR9.out (fun x hx => (List.mem_append.1 hx).elim (HEB.out x) fun h => by
            obtain rfl : x = mo := by simpa using h
            exact hmo) (HF.out.only HO9.out)).mono ?_
          rintro e w10 hp
          obtain ⟨rfl, hO10⟩ := post_bad hp HEM.out
          have HO10 := Lib.hid (HO9.out.tr hO10)
          clear hp hO10
          go_wp2_with fail
          go_meet
          exact HO10
    · clear HCS hmod
      go_wp2_with fail
      go_meet
      exact HO4
  case rest =>
    clear HCS HO4 HB4
    have HOc := Lib.hid hcut.out
    clear hcut
    cases hd : decP b with
    | ok ms2 cs2 =>
      obtain ⟨hmod, hi2, hb2⟩ := dec_back HBY.out hd
      have HD := Lib.hid hd
      have HI2 := Lib.hid hi2
      have HMO := Lib.hid hmod
      have HBE := Lib.hid hb2
      clear hd hi2 hmod hb2
      go_wp2_with fail
      refine (decode_any b _ wc (HV.out.only HOc.out) HBY.out (HF.out.only HOc.out)).mono ?_
      rintro e w5 hp
      obtain ⟨⟨vn, vd, rfl, hN⟩, _⟩ := post_ok hp HD.out
      obtain ⟨_, an, cn, rfl, _⟩ := id hN.1.1
      obtain ⟨_, ad, cd, rfl, _⟩ := id hN.2.1.1
      have HN := Lib.hid (hN.fresh (Only.alloc _ w5 (.cells #[.slice an ms2.length cn, .slice ad cs2.length cd] 25)))
      have HO6 := Lib.hid (HOc.out.tr HN.out.2.2)
      clear hp hN
      go_wp2_with fail
      refine (encode_ok ms2 cs2 _ _ _ HN.out.1.rd HN.out.2.1.rd HI2.out (HF.out.only HO6.out) HMO.out).mono ?_
      rintro e w7 ⟨v7, rfl, hv7, hO7⟩
      have HO7 := Lib.hid (HO6.out.tr hO7)
      have h7 := hv7.rd
      rw [← HBE.out] at h7
      have hcv := conv_rd h7
      have hcv2 := conv_rd (HV.out.only HO7.out)
      generalize strB b = sb at *
      clear h7 hv7 hO7 HN HBE HD
      go_wp2_with fail
      go_ret
      exact ⟨rfl, HO7.out.below (Nat.le_refl _) (fun _ h => h.elim)⟩
    | bad p er =>
      obtain ⟨hp1, hp2⟩ := dec_in HBY.out p er hd
      have HD := Lib.hid hd
      have hq : (er != 0) = true := by rw [bne_iff_ne]; exact hp2
      have hi0 : (0 : Int) ≤ (p : Int) := by omega
      have hi1 : (p : Int) ≤ (b.length : Int) := by omega
      clear hd
      go_wp2_with fail
      refine (decode_any b _ wc (HV.out.only HOc.out) HBY.out (HF.out.only HOc.out)).mono ?_
      rintro e w5 hp
      obtain ⟨rfl, hO5⟩ := post_bad hp HD.out
      have HO5 := Lib.hid ((HOc.out.tr hO5).tr (Only.alloc _ w5 (.cells #[.slice none 0 0, .slice none 0 0] 25)))
      clear hp hO5
      go_wp2_with fail
      go_ret
      exact ⟨rfl, HO5.out.below (Nat.le_refl _) (fun _ h => h.elim)⟩
end Go.Proofs.YtkocfgaajghggaaDoor
