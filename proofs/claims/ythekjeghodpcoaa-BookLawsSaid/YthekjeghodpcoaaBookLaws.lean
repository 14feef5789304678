/- The law BookLaws: its walk. -/
import Derived.Test.YthekjeghodpcoaaBookLawsB
import Derived.Test.YthekjeghodpcoaaBookDec
import Derived.Deep.RegionHeld3
namespace Go.Proofs.Ythekjeghodpcoaa
open Go.RowKit
set_option linter.unusedVariables false
set_option linter.unusedSimpArgs false

set_option maxRecDepth 100000 in
set_option maxHeartbeats 8000000 in
theorem bookLaws_yes (cap : Int) (h1 : 1 ≤ cap) (h2 : cap ≤ 16) (ds : List DoD) (v : Value) (key : Int) (w : World) (hv : Rd eDo w v ds) :
    Calls Try.prog 3 #[.int .i64 cap, v, .int .u64 key] w fun e w' => e = .returned (.bool true) ∧ Below w.heap.size w w' := by
  obtain ⟨hmx, ao, c, rfl, hcap, _, _⟩ := id hv
  unfold maxLen at hmx
  have HV := Lib.hid hv
  clear hv
  go_enter Try.func3, Try.ntmps3
  go_wp2_with fail
  refine (awake_any _).mono ?_
  rintro e w1 ⟨rfl, hb1⟩
  go_wp2_with fail
  refine (newL NoX.framed NoX.framed (LSt.start hb1) cap h1 h2).mono ?_
  rintro e w2 ⟨b, rfl, hL2⟩
  have HL2 := Lib.hid hL2
  have HG0 := Lib.hid (good_nil h1 h2)
  clear hb1 hL2 h1 h2
  go_wp2_with fail
  go_loopw [10] (fun t wr => ∃ (k : Nat) (xs : List PairD), k ≤ ds.length ∧ t = .int .i64 k ∧ Hid (Good cap xs) ∧ Hid (LSt (BookS b cap xs) NoX NoX w wr)) (fun t _ => ds.length - (intOf t).toNat)
  case atStart => exact ⟨0, [], Nat.zero_le _, rfl, HG0, HL2⟩
  case round =>
    clear HL2 HG0
    obtain ⟨k, xs, hk, rfl, G, V⟩ := hrel
    by_cases hlt : k < ds.length
    · obtain ⟨_, ao', cap', hao, _, _, hx⟩ := HV.out
      obtain ⟨rfl, _, rfl⟩ : ao = ao' ∧ ds.length = ds.length ∧ c = cap' := by simpa using hao
      obtain ⟨sb, off, rfl, hc⟩ := hx (by omega)
      obtain ⟨c0, c1, c2⟩ := do_cells hc k hlt
      have HLB := Lib.hid (Rd.lt HV.out (by omega))
      have HC0 := Lib.hid c0
      have HC1 := Lib.hid c1
      have HC2 := Lib.hid c2
      have hi0 : (0 : Int) ≤ (k : Int) := by omega
      have hi1 : (k : Int) < (ds.length : Int) := by omega
      clear hc hx hao c0 c1 c2
      generalize ds[k].1 = op at *
      generalize ds[k].2.1 = dk at *
      generalize ds[k].2.2 = dv at *
      obtain ⟨d0, d1, d2⟩ := keepD V.out.below HLB.out HC0.out HC1.out HC2.out
      go_wp2_with fail
      go_region_held3 (fun w' => w'.cell? ⟨sb, off + k * 3, none⟩ = some (.int .i64 op) ∧ w'.cell? ⟨sb, off + k * 3 + 1, none⟩ = some (.int .u64 dk) ∧ w'.cell? ⟨sb, off + k * 3 + 2, none⟩ = some (.int .u64 dv))
        ((first | exact ⟨d0, d1, d2⟩ | exact keepD hVi.below HLB.out HC0.out HC1.out HC2.out))
        ((go_at_call 9; refine (doL NoX.framed NoX.framed (V.out.drew BookS.framed NoX.framed NoX.framed) G.out op dk dv).mono ?_; rintro e wi ⟨rfl, hVi⟩))
      have HVi := Lib.hid hVi
      have HGi := Lib.hid (do_good (op := op) (k := dk) (v := dv) G.out)
      clear hVi d0 d1 d2
      go_wp2_with fail
      go_roundw
      case rel => exact ⟨k + 1, _, by omega, by go_num, HGi, HVi⟩
      case measure => simp [intOf]; omega
    · clear HV
      go_wp2_with fail
      refine (bpairsL NoX.framed NoX.framed V.out G.out).mono ?_
      rintro e w3 ⟨v3, rfl, hL3⟩
      have hL3' : LSt (BookS b cap xs) NoX (fun S w => OwS ePair 39 S w v3 xs) w w3 := hL3.wide fun S h => h.2
      obtain ⟨_, hv3⟩ := hL3'.rest
      obtain ⟨_, wo, wc, rfl, _⟩ := hv3.1
      have HL3 := Lib.hid hL3'
      have hFX : Framed (fun S w => OwS ePair 39 S w (.slice wo xs.length wc) xs) := OwS.framed
      have HFX := Lib.hid hFX
      clear hL3 hL3' hv3 V hFX
      go_wp2_with fail
      refine (lenL NoX.framed HFX.out HL3.out).mono ?_
      rintro e w4 ⟨rfl, hL4⟩
      have HL4 := Lib.hid hL4
      have hlen : (xs.length : Int) ≤ cap := G.out.len
      have hx16 : xs.length ≤ 16 := by have := G.out.hi; omega
      clear hL4 HL3
      go_wp2_with fail
      go_loopw [12] (fun t wr => ∃ (m : Nat), (m + 1 ≤ xs.length ∨ m = 0) ∧ t = .int .i64 ((m : Int) + 1) ∧ Hid (LSt (BookS b cap xs) NoX (fun S w => OwS ePair 39 S w (.slice wo xs.length wc) xs) w wr)) (fun t _ => xs.length - (intOf t).toNat)
      case atStart => exact ⟨0, .inr rfl, rfl, HL4⟩
      case round =>
        clear HL4
        obtain ⟨m, hk, rfl, V⟩ := hrel
        by_cases hlt : m + 1 < xs.length
        · obtain ⟨_, hown⟩ := V.out.rest
          have hrd := hown.rd
          obtain ⟨_, ao', cap', hao, _, _, hx⟩ := hrd
          obtain ⟨rfl, _, rfl⟩ : wo = ao' ∧ xs.length = xs.length ∧ wc = cap' := by simpa using hao
          obtain ⟨sb, off, rfl, hc⟩ := hx (by omega)
          have c0 := (pair_cells hc m (by omega)).1
          have c1 := (pair_cells hc (m + 1) hlt).1
          have hri := G.out.rising m (m + 1) (by omega) hlt (by omega)
          have hi0 : (0 : Int) ≤ (m : Int) := by omega
          have hi1 : (m : Int) + 1 < (xs.length : Int) := by omega
          have hi2 : (m : Int) < (xs.length : Int) := by omega
          have hi3 : (0 : Int) ≤ (m : Int) + 1 := by omega
          have hw2 : IntKind.i64.wrap (m : Int) = (m : Int) := by rw [IntKind.wrap_i64]; omega
          have hi4 : ((m : Int) + 1).toNat = m + 1 := by omega
          clear hc hx hao hown
          generalize xs[m].1 = p0 at *
          generalize xs[m + 1].1 = p1 at *
          have hge : ¬ p1 ≤ p0 := by omega
          go_wp2_with fail
          go_region_held3 (fun w' => w'.cell? ⟨sb, off + m * 2, none⟩ = some (.int .u64 p0) ∧ w'.cell? ⟨sb, off + (m + 1) * 2, none⟩ = some (.int .u64 p1)) (go_keep) (fail)
          have HVd := Lib.hid (V.out.drew BookS.framed NoX.framed HFX.out)
          clear c0 c1
          go_wp2_with fail
          go_roundw
          case rel => exact ⟨m + 1, by omega, by go_num, HVd⟩
          case measure => simp [intOf]; omega
        · clear hk
          generalize IntKind.u64.wrap (IntKind.u64.wrap (key * 7) + 1) = val
          rcases law_key G.out key val with ⟨hf, hl, hg, hp⟩ | ⟨A, B, f, o, hA, hB, hg, hp, hfil⟩
          · have HG := Lib.hid hg
            have HP := Lib.hid hp
            clear hg hp hf
            go_wp2_with fail
            refine (doF NoX.framed HFX.out V.out G.out HG.out).mono ?_
            rintro e w5 ⟨rfl, hL5⟩
            have HL5 := Lib.hid hL5
            clear hL5 V
            go_wp2_with fail
            have HL6 := Lib.hid (HL5.out.newX (Y := Blk w5.heap.size (.cells #[.int .i64 0, .bool false, .int .u64 0, .bool false, .int .u64 0, .int .u64 0] 30)) BookS.framed NoX.framed HFX.out Blk.framed ⟨heap_alloc_new w5 _, Nat.le_refl _⟩ (Only.alloc _ _ _))
            have HF6 := Lib.hid (HFX.out.and (Blk.framed (g := w5.heap.size) (o := .cells #[.int .i64 0, .bool false, .int .u64 0, .bool false, .int .u64 0, .int .u64 0] 30)))
            generalize w5.heap.size = g13 at *
            refine (doE NoX.framed HF6.out HL6.out G.out HP.out).mono ?_
            rintro e w7 ⟨rfl, hL7⟩
            have HL7 := Lib.hid hL7
            clear hL7 HL5
            have HL8 := Lib.hid (HL7.out.newX (Y := Blk w7.heap.size (.cells #[.int .i64 40, .bool false, .int .u64 0, .bool false, .int .u64 0, .int .u64 0] 30)) BookS.framed NoX.framed HF6.out Blk.framed ⟨heap_alloc_new w7 _, Nat.le_refl _⟩ (Only.alloc _ _ _))
            have HF8 := Lib.hid (HF6.out.and (Blk.framed (g := w7.heap.size) (o := .cells #[.int .i64 40, .bool false, .int .u64 0, .bool false, .int .u64 0, .int .u64 0] 30)))
            obtain ⟨_, ⟨_, hb13⟩, hb14⟩ := HL8.out.rest
            obtain ⟨a0, a1, a2, a3, a4, a5⟩ := res_cells hb13.1
            obtain ⟨b0, b1, b2, b3, b4, b5⟩ := res_cells hb14.1
            clear hb13 hb14
            go_wp2_with fail
            clear a0 a1 a2 a3 a4 a5 b0 b1 b2 b3 b4 b5 HL7
            refine (bpairsL NoX.framed HF8.out HL8.out G.out).mono ?_
            rintro e w9 ⟨v9, rfl, hL9⟩
            have HL9 := Lib.hid hL9
            clear hL9 HL8
            go_wp2_with fail
            obtain ⟨_, ⟨⟨hw9, _⟩, _⟩, hv9⟩ := HL9.out.rest
            refine (pairsCmpL BookS.framed NoX.framed (HF8.out.and OwS.framed) HL9.out hv9.rd hw9.rd).mono ?_
            rintro e w10 ⟨rfl, hL10⟩
            have HL10 := Lib.hid hL10.below
            clear hL10 HL9
            rw [decide_eq_true (rfl : xs = xs)]
            go_wp2_with fail
            go_ret
            exact ⟨rfl, HL10.out⟩
          · have HG := Lib.hid hg
            have HP := Lib.hid hp
            have HA := Lib.hid hA
            have HB := Lib.hid hB
            have HFI := Lib.hid hfil
            have HG1 := Lib.hid (good_mid G.out hp)
            have hz1 := neq_self 0 f o
            have hz2 := neq_self 0 true val
            have hz3 := neq_self 0 true 0
            have hz4 := neq_self 0 true (IntKind.u64.wrap (val + 3))
            have hz5 := neq_self 0 false 0
            clear hg hp hA hB hfil
            go_wp2_with fail
            refine (doF NoX.framed HFX.out V.out G.out HG.out).mono ?_
            rintro e w5 ⟨rfl, hL5⟩
            have HL5 := Lib.hid hL5
            clear hL5 V
            go_wp2_with fail
            have HL6 := Lib.hid (HL5.out.newX (Y := Blk w5.heap.size (.cells #[.int .i64 0, .bool f, .int .u64 o, .bool false, .int .u64 0, .int .u64 0] 30)) BookS.framed NoX.framed HFX.out Blk.framed ⟨heap_alloc_new w5 _, Nat.le_refl _⟩ (Only.alloc _ _ _))
            have HF6 := Lib.hid (HFX.out.and (Blk.framed (g := w5.heap.size) (o := .cells #[.int .i64 0, .bool f, .int .u64 o, .bool false, .int .u64 0, .int .u64 0] 30)))
            generalize w5.heap.size = g13 at *
            refine (doF NoX.framed HF6.out HL6.out G.out HP.out).mono ?_
            rintro e w7 ⟨rfl, hL7⟩
            have HL7 := Lib.hid hL7
            clear hL7 HL5
            have HL8 := Lib.hid (HL7.out.newX (Y := Blk w7.heap.size (.cells #[.int .i64 0, .bool f, .int .u64 o, .bool false, .int .u64 0, .int .u64 0] 30)) BookS.framed NoX.framed HF6.out Blk.framed ⟨heap_alloc_new w7 _, Nat.le_refl _⟩ (Only.alloc _ _ _))
            have HF8 := Lib.hid (HF6.out.and (Blk.framed (g := w7.heap.size) (o := .cells #[.int .i64 0, .bool f, .int .u64 o, .bool false, .int .u64 0, .int .u64 0] 30)))
            obtain ⟨_, ⟨_, hb13⟩, hb14⟩ := HL8.out.rest
            obtain ⟨a0, a1, a2, a3, a4, a5⟩ := res_cells hb13.1
            obtain ⟨b0, b1, b2, b3, b4, b5⟩ := res_cells hb14.1
            clear hb13 hb14
            go_wp2_with fail
            have HL9 := Lib.hid (HL8.out.wide (X' := fun S w => OwS ePair 39 S w (.slice wo xs.length wc) xs) fun S h => h.1.1)
            clear HL8 HL7 HF8 a0 a1 a2 a3 a4 a5 b0 b1 b2 b3 b4 b5
            refine (doF NoX.framed HFX.out HL9.out HG1.out (do_get_mid cap 1 HA.out)).mono ?_
            rintro e wa ⟨rfl, hLa⟩
            have HLa := Lib.hid hLa
            clear hLa HL9 HL6
            go_wp2_with fail
            refine (doF NoX.framed HFX.out HLa.out HG1.out (do_has_mid cap 1)).mono ?_
            rintro e wb ⟨rfl, hLb⟩
            have HLb := Lib.hid hLb
            clear hLb HLa
            go_wp2_with fail
            refine (doF (o := IntKind.u64.wrap (val + 3)) NoX.framed HFX.out HLb.out HG1.out (do_add_mid cap 3 HA.out)).mono ?_
            rintro e wc2 ⟨rfl, hLc⟩
            have HLc := Lib.hid hLc
            have HG2 := Lib.hid (good_mid HG1.out (do_add_mid cap 3 HA.out))
            clear hLc HLb
            go_wp2_with fail
            refine (doF (o := IntKind.u64.wrap (val + 3)) NoX.framed HFX.out HLc.out HG2.out (do_del_mid cap 9 HA.out)).mono ?_
            rintro e wd ⟨rfl, hLd⟩
            have HLd := Lib.hid hLd
            have HG3 := Lib.hid (good_mid HG2.out (do_del_mid cap 9 HA.out))
            clear hLd HLc
            go_wp2_with fail
            refine (doF NoX.framed HFX.out HLd.out HG3.out (do_del_none cap 9 HA.out HB.out)).mono ?_
            rintro e we ⟨rfl, hLe⟩
            have HLe := Lib.hid hLe
            clear hLe HLd
            go_wp2_with fail
            have HLf := Lib.hid (show LSt (BookS b cap (A ++ B)) (fun S w => OwS ePair 39 S w (.slice none 0 0) ((xs.take 0).filter (fun p => p.1 != key))) (fun S w => OwS ePair 39 S w (.slice wo xs.length wc) xs) w we by
              obtain ⟨tag, AR, h1, h2, h3⟩ := HLe.out
              exact ⟨tag, AR, h1, OwS.nil _ _, h3⟩)
            clear HLe
            go_loopw [15, 16] (fun t15 t16 wr => ∃ (k n c : Nat) (lo : Option Addr), k ≤ xs.length ∧ t16 = .int .i64 k ∧ t15 = .slice lo n c ∧ Hid (LSt (BookS b cap (A ++ B)) (fun S w => OwS ePair 39 S w (.slice lo n c) ((xs.take k).filter (fun p => p.1 != key))) (fun S w => OwS ePair 39 S w (.slice wo xs.length wc) xs) w wr)) (fun _ t16 _ => xs.length - (intOf t16).toNat)
            case atStart => exact ⟨0, 0, 0, none, Nat.zero_le _, rfl, rfl, HLf⟩
            case round =>
              clear HLf
              obtain ⟨j, ln, lc, lo, hj, rfl, rfl, V⟩ := hrel
              by_cases hjl : j < xs.length
              · obtain ⟨_, hown⟩ := V.out.rest
                have hrd := hown.rd
                obtain ⟨_, ao', cap', hao, _, _, hx⟩ := hrd
                obtain ⟨rfl, _, rfl⟩ : wo = ao' ∧ xs.length = xs.length ∧ wc = cap' := by simpa using hao
                obtain ⟨sb, off, rfl, hc⟩ := hx (by omega)
                obtain ⟨c0, c1⟩ := pair_cells hc j hjl
                have hi0 : (0 : Int) ≤ (j : Int) := by omega
                have hi1 : (j : Int) < (xs.length : Int) := by omega
                obtain ⟨p0, p1, hpe⟩ : ∃ p0 p1, xs[j] = ((p0, p1) : PairD) := ⟨_, _, rfl⟩
                rw [hpe] at c0 c1
                clear hc hx hao hown
                by_cases hk : p0 = key
                · have HN := Lib.hid (filt_skip (key := key) hjl (by rw [hpe]; exact hk))
                  clear hpe c1
                  go_wp2_with fail
                  go_roundw
                  case rel => exact ⟨j + 1, ln, lc, lo, by omega, by go_num, rfl, by rw [HN.out]; exact V⟩
                  case measure => simp [intOf]; omega
                · have HN := Lib.hid (show (xs.take (j + 1)).filter (fun p => p.1 != key) = (xs.take j).filter (fun p => p.1 != key) ++ [(p0, p1)] by rw [← hpe]; exact filt_put (key := key) hjl (by rw [hpe]; exact hk))
                  obtain ⟨tag, AR, h1, h2, h3⟩ := V.out.fresh BookS.framed OwS.framed OwS.framed (Only.alloc _ _ (.cells #[.int .u64 p0, .int .u64 p1] 39))
                  have HAR := Lib.hid AR
                  have H1 := Lib.hid h1
                  have H2 := Lib.hid h2
                  have H3 := Lib.hid h3
                  have HFL := Lib.hid (filt_len xs j key)
                  have HRL := Lib.hid (Rd.lit (E := ePair) wr #[.int .u64 p0, .int .u64 p1] 39 (0, 0) 1 1 [(p0, p1)] rfl rfl (by simp) (by simp [maxLen]))
                  clear hpe AR h1 h2 h3
                  go_wp2_with (at_builtin; refine wl_appendS (E := ePair) rfl _ (.tmp 177) _ rfl 39 16 ePair_slice (fun k => tag k = 2) _ ((xs.take j).filter (fun p => p.1 != key)) rfl H2.out _ [(p0, p1)] rfl HRL.out (by have := HFL.out; simp only [List.length_cons, List.length_nil]; omega) (by have := HFL.out; unfold maxLen; simp only [List.length_cons, List.length_nil]; omega) ?_)
                  intro v5 w5 h5 hO5
                  obtain ⟨_, ao5, c5, rfl, _⟩ := id h5.1
                  have HV5 := Lib.hid (LSt.second_ (Q' := fun S w => OwS ePair 39 S w _ _) BookS.framed OwS.framed OwS.framed HAR.out H1.out H3.out (OwS.framed.mono _ (fun k => tag k = 2 ∨ (wr.alloc (.cells #[.int .u64 p0, .int .u64 p1] 39)).heap.size ≤ k) _ h5 fun k _ h => h.imp id fun h => by simpa using h) hO5)
                  clear h5 hO5
                  go_wp2_with fail
                  go_roundw
                  case rel => exact ⟨j + 1, _, c5, ao5, by omega, by go_num, rfl, by rw [HN.out]; exact HV5⟩
                  case measure => simp [intOf]; omega
              · have HE := Lib.hid (show (xs.take j).filter (fun p => p.1 != key) = A ++ B by rw [List.take_of_length_le (by omega)]; exact HFI.out)
                go_wp2_with fail
                refine (bpairsL OwS.framed OwS.framed V.out HG3.out).mono ?_
                rintro e wf ⟨vf, rfl, hLf⟩
                have HLf := Lib.hid hLf
                clear hLf V
                go_wp2_with fail
                obtain ⟨_, hw9⟩ := HLf.out.second
                obtain ⟨_, _, hv9⟩ := HLf.out.rest
                refine (pairsCmpL BookS.framed OwS.framed (OwS.framed.and OwS.framed) HLf.out hv9.rd hw9.rd).mono ?_
                rintro e wg ⟨rfl, hLg⟩
                have HLg := Lib.hid hLg.below
                clear hLg HLf
                rw [decide_eq_true HE.out.symm]
                go_wp2_with fail
                go_ret
                exact ⟨rfl, HLg.out⟩
theorem bookLaws_any (cap : Int) (ds : List DoD) (v : Value) (key : Int) (w : World) (hcap : -9223372036854775808 ≤ cap ∧ cap ≤ 9223372036854775807) (hv : Rd eDo w v ds) (hl : ds.length * 24 ≤ 140737488351232) (hok : ∀ o ∈ ds, DoD.ok o) (hkey : 0 ≤ key ∧ key ≤ 18446744073709551615) :
    Calls Try.prog 3 #[.int .i64 cap, v, .int .u64 key] w fun e w' => e = .returned (.bool true) ∧ Below w.heap.size w w' := by
  by_cases h : cap < 1 ∨ 16 < cap
  · exact bookLaws_bad cap v key w h
  · exact bookLaws_yes cap (by omega) (by omega) ds v key w hv
end Go.Proofs.Ythekjeghodpcoaa
