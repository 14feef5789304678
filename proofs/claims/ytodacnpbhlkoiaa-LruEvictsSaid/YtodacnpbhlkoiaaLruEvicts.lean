/- The law LruEvicts: its walk. -/
import Derived.Test.YtodacnpbhlkoiaaLruAt
import Derived.Test.YtodacnpbhlkoiaaBookKey
import Derived.Deep.RegionHeld3
import Derived.Deep.DeepCutAuto
import Derived.Deep.CutBlock
namespace Go.Proofs.Ytodacnpbhlkoiaa
open Go.RowKit
set_option linter.unusedVariables false
set_option linter.unusedSimpArgs false

set_option maxRecDepth 100000 in
set_option maxHeartbeats 4000000 in
theorem lruEvicts_bad (cap : Int) (v : Value) (w : World) (h : cap < 1 ∨ 16 < cap) :
    Calls Try.prog 3 #[.int .i64 cap, v] w fun e w' => e = .returned (.bool true) ∧ Below w.heap.size w w' := by
  go_enter Try.func3, Try.ntmps3
  go_wp2_with fail
  refine (awake_any _).mono ?_
  rintro e w1 ⟨rfl, hb1⟩
  go_wp2_with fail
  refine (lruNew_bad cap _ h).mono ?_
  rintro e w2 ⟨rfl, ho⟩
  have HB := Lib.hid (hb1.trans (ho.below (B := w.heap.size) hb1.size (fun _ h => h.elim)))
  clear hb1 ho
  go_wp2_with fail
  go_ret
  exact ⟨rfl, HB.out⟩

def doO (op dk dv : Int) : Obj := .cells #[.int .i64 op, .int .u64 dk, .int .u64 dv] 30
theorem doO_cells {w : World} {g : Nat} {op dk dv : Int} (h : w.heap[g]? = some (doO op dk dv)) : w.cell? ⟨g, 0, none⟩ = some (.int .i64 op) ∧ w.cell? ⟨g, 1, none⟩ = some (.int .u64 dk) ∧ w.cell? ⟨g, 2, none⟩ = some (.int .u64 dv) := ⟨blk_cell h 0, blk_cell h 1, blk_cell h 2⟩

abbrev resD (r : ResD) : Obj := resO r.1 r.2.1 r.2.2.1 r.2.2.2.1 r.2.2.2.2.1 r.2.2.2.2.2
/-- what a round has: the call, its answer, the orders before and behind -/
def EvT (t8 t11 : Nat) (op dk dv : Int) (r : ResD) (v1 : Value) (od : List Int) (v2 : Value) (od2 : List Int) (S : Nat → Prop) (w : World) : Prop :=
  Blk t8 (doO op dk dv) S w ∧ OwS eU64 28 S w v1 od ∧ Blk t11 (resD r) S w ∧ OwS eU64 28 S w v2 od2
theorem EvT.framed {t8 t11 : Nat} {op dk dv : Int} {r : ResD} {v1 v2 : Value} {od od2 : List Int} : Framed (EvT t8 t11 op dk dv r v1 od v2 od2) := Framed.and Blk.framed (Framed.and OwS.framed (Framed.and Blk.framed OwS.framed))
set_option maxRecDepth 100000 in
set_option maxHeartbeats 8000000 in
theorem lruEvicts_yes (cap : Int) (h1 : 1 ≤ cap) (h2 : cap ≤ 16) (ds : List DoD) (v : Value) (w : World) (hv : Rd eDo w v ds) :
    Calls Try.prog 3 #[.int .i64 cap, v] w fun e w' => e = .returned (.bool true) ∧ Below w.heap.size w w' := by
  obtain ⟨hmx, ao, c, rfl, hcap, _, _⟩ := id hv
  unfold maxLen at hmx
  have HV := Lib.hid hv
  have HG0 := Lib.hid (lgood_nil h1 h2)
  clear hv
  go_enter Try.func3, Try.ntmps3
  go_wp2_with fail
  refine (awake_any _).mono ?_
  rintro e w1 ⟨rfl, hb1⟩
  go_wp2_with fail
  refine (lruNewU Emp.framed (St.start hb1) h1 h2).mono ?_
  rintro e w2 ⟨g, rfl, b, hL2⟩
  have HL2 := Lib.hid hL2
  clear hb1 hL2 h1 h2
  go_wp2_with fail
  go_loopw [7, 8, 9, 10, 11, 12, 13, 14, 15] (fun t7 _ _ _ _ _ _ _ _ wr => ∃ (k : Nat) (s : List PairD × List Int), k ≤ ds.length ∧ k ≤ 3000 ∧ t7 = .int .i64 k ∧ Hid (LGood cap s) ∧ Hid (St (Sep (LruS g b cap s) Emp) w wr)) (fun t7 _ _ _ _ _ _ _ _ _ => ds.length - (intOf t7).toNat)
  case atStart => exact ⟨0, ([], []), Nat.zero_le _, by decide, rfl, HG0, HL2⟩
  case round => as_aux_lemma =>
    clear HL2 HG0
    obtain ⟨k, s, hk, hk3, rfl, HG, V⟩ := hrel
    by_cases hlt : k < ds.length ∧ k < 3000
    · obtain ⟨hlt, hl3⟩ := hlt
      obtain ⟨_, ao', cap', hao, _, _, hx⟩ := HV.out
      obtain ⟨rfl, -, rfl⟩ : ao = ao' ∧ ds.length = ds.length ∧ c = cap' := by simpa using hao
      obtain ⟨sb, off, rfl, hc⟩ := hx (by omega)
      obtain ⟨c0, c1, c2⟩ := do_cells hc k hlt
      have hlb := Rd.lt HV.out (by omega)
      have hi0 : (0 : Int) ≤ (k : Int) := by omega
      have hi1 : (k : Int) < (ds.length : Int) := by omega
      clear hc hx hao
      generalize ds[k].1 = op at *
      generalize ds[k].2.1 = dk at *
      generalize ds[k].2.2 = dv at *
      obtain ⟨d0, d1, d2⟩ := keepD (St.below V.out) hlb c0 c1 c2
      clear c0 c1 c2 hlb
      have HVa := Lib.hid (V.out.loc' LruS.framed Emp.framed (doO op dk dv))
      go_wp2_with fail
      obtain ⟨t8, ht8⟩ : ∃ t8, t8 = wr.heap.size := ⟨_, rfl⟩
      rw [← ht8] at HVa ⊢
      refine (lruOrderU (Framed.and Emp.framed Blk.framed) HVa.out HG.out).mono ?_
      rintro e w3 ⟨v1, rfl, hV3⟩
      have HV3 := Lib.hid (hV3.rest (R' := fun S w => Blk t8 (doO op dk dv) S w ∧ OwS eU64 28 S w v1 s.2) fun T h => ⟨h.1.2, h.2⟩)
      clear hV3 HVa d0 d1 d2 V ht8
      obtain ⟨_, hb, hw⟩ := HV3.out.getR
      obtain ⟨d0, d1, d2⟩ := doO_cells hb.1
      obtain ⟨r0, ao1, cp1, rfl, hl1, hl2, hl3'⟩ := id hw.rd
      have HR1 := Lib.hid hw.rd
      clear hb hw
      go_wp2_with fail
      refine (HV3.out.callRead (Sep.framed LruS.framed (Framed.and Blk.framed OwS.framed)) (E := fun e => ∃ r : Int, e = .returned (.int .i64 r) ∧ (r < 0 ↔ ¬ dk ∈ s.2) ∧ -1 ≤ r) (at_any s.2 _ dk w3 HR1.out)).mono ?_
      rintro e w4 ⟨⟨r, rfl, hr1, hr2⟩, hV4⟩
      have HV4 := Lib.hid hV4
      have hhad : decide (0 ≤ r) = decide (dk ∈ s.2) := by
        by_cases hm : dk ∈ s.2
        · have : ¬ r < 0 := fun h => hr1.1 h hm
          simp [hm]; omega
        · have := hr1.2 hm
          simp [hm]; omega
      obtain ⟨_, hb, _⟩ := hV4.getR
      obtain ⟨d0, d1, d2⟩ := doO_cells hb.1
      clear hV4 HV3 hb hr1 hr2
      obtain ⟨x0, x1, x2, x3, x4, x5, s2, hd⟩ : ∃ x0 x1 x2 x3 x4 x5 s2, lruP cap s op dk dv = ((x0, x1, x2, x3, x4, x5), s2) := ⟨_, _, _, _, _, _, _, rfl⟩
      have HL := Lib.hid (ev_law HG.out hd)
      have HD := Lib.hid hd
      have HG2 := Lib.hid (show LGood cap s2 by have := lru_good (op := op) (k := dk) (v := dv) HG.out; rwa [hd] at this)
      clear hd
      go_wp2_with fail
      refine (lruDoU (Framed.and Blk.framed OwS.framed) HV4.out HG.out HD.out).mono ?_
      rintro e w5 ⟨rfl, hV5⟩
      have HV5 := Lib.hid (hV5.loc' LruS.framed (Framed.and Blk.framed OwS.framed) (resO x0 x1 x2 x3 x4 x5))
      clear hV5 HV4 d0 d1 d2 hhad
      go_wp2_with fail
      obtain ⟨t11, ht11⟩ : ∃ t11, t11 = w5.heap.size := ⟨_, rfl⟩
      rw [← ht11] at HV5 ⊢
      refine (lruOrderU (Framed.and (Framed.and Blk.framed OwS.framed) Blk.framed) HV5.out HG2.out).mono ?_
      rintro e w6 ⟨v2, rfl, hV6⟩
      have HV6 := Lib.hid (hV6.rest (R' := EvT t8 t11 op dk dv (x0, x1, x2, x3, x4, x5) (.slice ao1 s.2.length cp1) s.2 v2 s2.2) fun T h => ⟨h.1.1.1, h.1.1.2, h.1.2, h.2⟩)
      obtain ⟨_, hb8, hw1, hb11, hw2⟩ := HV6.out.getR
      obtain ⟨d0, d1, d2⟩ := doO_cells hb8.1
      obtain ⟨e0, e1, e2, e3, e4, e5⟩ := res_cells hb11.1
      obtain ⟨q0, ao2, cp2, rfl, _, _, _⟩ := id hw2.rd
      clear hV6 HV5 hb8 hb11 hw1 hw2 ht11 HR1 hl3'
      generalize hh : decide (dk ∈ s.2) = had at *
      have HH := Lib.hid hh
      clear hh
      go_upto_region 14 with (fail)
      go_cut [13] (fun t13 wc => t13 = .bool (decide (op = 2) || decide (op = 4)) ∧ wc = w6)
      case first => as_aux_lemma =>
        by_cases h2 : op = 2
        · subst h2
          go_wp2_with fail
          go_meet
          case rel => exact ⟨rfl, rfl⟩
        · by_cases h4 : op = 4
          · subst h4
            go_wp2_with fail
            go_meet
            case rel => exact ⟨rfl, rfl⟩
          · have hb2 : (op == 2) = false := by simpa using h2
            have hb4 : (op == 4) = false := by simpa using h4
            go_wp2_with fail
            go_meet
            case rel => exact ⟨by simp [h2, h4], rfl⟩
      case rest => as_aux_lemma =>
        obtain ⟨rfl, rfl⟩ := hcut
        generalize hp : (decide (op = 2) || decide (op = 4)) = p at *
        generalize hWW : (if x3 then s.2.take (s.2.length - 1) else s.2) = W at *
        have HW := Lib.hid hWW
        clear hp hWW
        have hlens : ((s2.2.length : Int) != (s2.1.length : Int)) = false := by simp [HG2.out.len]
        have hlenc : ¬ (cap < (s2.1.length : Int)) := by have := HG2.out.good.len; omega
        obtain ⟨cp0, hgl⟩ := lruPtrU HV6.out
        go_upto_region 15 with (fail)
        go_cut [108] (fun t108 wd => t108 = .bool false ∧ Hid (St (Sep (LruS g b cap s2) (EvT t8 t11 op dk dv (x0, x1, x2, x3, x4, x5) (.slice ao1 s.2.length cp1) s.2 (.slice ao2 s2.2.length cp2) s2.2)) w wd))
        case first => as_aux_lemma =>
          have HC := Lib.hid HL.out.cases
          clear HL HW
          rcases HC.out with ⟨rfl, rfl, rfl, hlc⟩ | ⟨rfl, rfl, rfl, hlc⟩ | ⟨rfl, rfl, rfl⟩ | ⟨rfl, rfl⟩
          all_goals
            clear HC
            go_wp2_with fail
            refine (lruLenU EvT.framed HV6.out).mono ?_
            rintro e w7 ⟨rfl, hV7⟩
            have HV7 := Lib.hid hV7
            obtain ⟨cp7, hgl7⟩ := lruPtrU hV7
            clear hV7
            go_wp2_with fail
            refine (lruLenU EvT.framed HV7.out).mono ?_
            rintro e w8 ⟨rfl, hV8⟩
            have HV8 := Lib.hid hV8
            clear hV8
            go_wp2_with fail
            go_meet
            case rel => exact ⟨by simp only [Value.bool.injEq, decide_eq_false_iff_not]; omega, HV8⟩
        case rest => as_aux_lemma =>
          obtain ⟨rfl, HV8⟩ := hcut
          clear HV6 d0 d1 d2 e0 e1 e2 e3 e4 e5 cp0 hgl hlens hlenc
          obtain ⟨_, hb8, hw1, hb11, hw2⟩ := HV8.out.getR
          obtain ⟨d0, d1, d2⟩ := doO_cells hb8.1
          obtain ⟨e0, e1, e2, e3, e4, e5⟩ := res_cells hb11.1
          have HRW := Lib.hid hw1.rd
          clear hb8 hb11 hw1 hw2
          go_upto_if 110 with (fail)
          go_cut [9] (fun t9 wd => t9 = .slice ao1 W.length cp1 ∧ Hid (St (Sep (LruS g b cap s2) (EvT t8 t11 op dk dv (x0, x1, x2, x3, x4, x5) (.slice ao1 s.2.length cp1) s.2 (.slice ao2 s2.2.length cp2) s2.2)) w wd))
          case first => as_aux_lemma =>
            have HO := Lib.hid HL.out.out
            have HN := Lib.hid HL.out.no
            clear HL HW
            cases x3
            · obtain ⟨rfl, rfl, rfl⟩ := HN.out rfl
              clear HN HO
              go_wp2_with fail
              go_meet
              case rel => exact ⟨rfl, HV8⟩
            · obtain ⟨h0, rfl, hWt⟩ := HO.out rfl
              clear HN HO
              obtain ⟨m, hm⟩ : ∃ m, m = s.2.length - 1 := ⟨_, rfl⟩
              have hml : m < s.2.length := by omega
              have hlast : lastP s.2 = s.2[m] := by subst hm; exact last_at h0
              obtain ⟨_, ao', c', hao, _, _, hx⟩ := HRW.out
              obtain ⟨rfl, -, rfl⟩ : ao1 = ao' ∧ s.2.length = s.2.length ∧ cp1 = c' := by simpa using hao
              obtain ⟨wb, wo, rfl, hc⟩ := hx h0
              have f0 := hc m _ (eU64_at s.2 m hml)
              rw [← hlast] at f0
              have hsub : IntKind.i64.wrap ((s.2.length : Int) - 1) = (m : Int) := by rw [IntKind.wrap_i64]; unfold maxLen at r0; omega
              have hsub2 : IntKind.i64.wrap (m : Int) = (m : Int) := by rw [IntKind.wrap_i64]; unfold maxLen at r0; omega
              have hm0 : (0 : Int) ≤ (m : Int) := by omega
              have hm1 : (m : Int) < (s.2.length : Int) := by omega
              have hm2 : (m : Int) ≤ (cp1 : Int) := by omega
              have hm3 : m ≤ cp1 := by omega
              have hq : (lastP s.2 != lastP s.2) = false := by simp
              have HWL := Lib.hid (show W.length = m by rw [hWt, List.length_take]; omega)
              clear hc hx hao hlast hm hWt
              generalize lastP s.2 = l at *
              go_wp2_with fail
              go_quiet (fail)
              go_wp2_with fail
              go_meet
              case rel => exact ⟨by rw [HWL.out], Lib.hid (HV8.out.fresh (Sep.framed LruS.framed EvT.framed) ((Only.refl _ _).drewN _))⟩
          case rest => as_aux_lemma =>
            obtain ⟨rfl, HV9⟩ := hcut
            have HWT := Lib.hid (show W.length ≤ s.2.length ∧ W = s.2.take W.length by
              have h := HW.out
              cases x3
              · have h' : s.2 = W := h
                subst h'; simp
              · have h' : s.2.take (s.2.length - 1) = W := h
                subst h'; simp)
            have hW16 : W.length ≤ 16 := by have := HWT.out.1; have := HG.out.len; have := HG.out.good.len; have := HG.out.good.hi; omega
            have HLL := Lib.hid HL.out.list
            clear HV8 d0 d1 d2 e0 e1 e2 e3 e4 e5 HRW HL HW
            go_wp2_with fail
            go_loopw [14, 15] (fun t14 t15 wq => ∃ (j : Nat) (xs : List Int) (vo : Option Addr) (vc : Nat), j ≤ W.length ∧ xs.length ≤ 16 ∧ t15 = .int .i64 j ∧ t14 = .slice vo xs.length vc ∧ Hid (xs = dropK (W.take j) dk) ∧ Hid (St (Sep (fun S w => OwS eU64 28 S w (.slice vo xs.length vc) xs) (Sep (LruS g b cap s2) (EvT t8 t11 op dk dv (x0, x1, x2, x3, x4, x5) (.slice ao1 s.2.length cp1) s.2 (.slice ao2 s2.2.length cp2) s2.2))) w wq)) (fun _ t15 _ => W.length - (intOf t15).toNat)
            case atStart => exact ⟨0, [], none, 0, Nat.zero_le _, by decide, rfl, rfl, Lib.hid rfl, Lib.hid (HV9.out.imp fun T h => Sep.nilL h)⟩
            case round => as_aux_lemma =>
              clear HV9
              obtain ⟨j, xs, vo, vc, hj, hxl, rfl, rfl, HX, HQ⟩ := hrel
              obtain ⟨_, hsep⟩ := HQ.out.getR
              obtain ⟨_, _, _, _, _, _, hb8, hw1, hb11, hw2⟩ := hsep
              obtain ⟨d0, d1, d2⟩ := doO_cells hb8.1
              have HRW := Lib.hid (show Rd eU64 _ (.slice ao1 W.length cp1) W by
                have h := hw1.rd.taken W.length HWT.out.1 cp1 (by have := HWT.out.1; omega) hl2
                rwa [← HWT.out.2] at h)
              have HRN := Lib.hid hw2.rd
              clear hb8 hw1 hb11 hw2
              by_cases hjl : j < W.length
              · skip
                obtain ⟨_, ao', c', hao, _, _, hx⟩ := HRW.out
                obtain ⟨rfl, -, rfl⟩ : ao1 = ao' ∧ W.length = W.length ∧ cp1 = c' := by simpa using hao
                obtain ⟨wb, wo, rfl, hc⟩ := hx (by omega)
                have f0 := hc j _ (eU64_at W j hjl)
                have hm0 : (0 : Int) ≤ (j : Int) := by omega
                have hm1 : (j : Int) < (W.length : Int) := by omega
                have HS := Lib.hid (show (W[j] = dk → dropK (W.take (j + 1)) dk = dropK (W.take j) dk) ∧ (W[j] ≠ dk → dropK (W.take (j + 1)) dk = dropK (W.take j) dk ++ [W[j]]) from ⟨dropK_skip hjl, dropK_put hjl⟩)
                clear hc hx hao
                generalize W[j] = p0 at *
                by_cases hpk : p0 = dk
                · have hpb : (p0 != dk) = false := by simpa using hpk
                  have HS2 := Lib.hid (HX.out.trans (HS.out.1 hpk).symm)
                  clear hpk
                  go_wp2_with fail
                  go_quiet (fail)
                  go_wp2_with fail
                  go_roundw
                  case rel => exact ⟨j + 1, xs, vo, vc, by omega, hxl, by go_num, rfl, HS2, Lib.hid (HQ.out.fresh (Sep.framed OwS.framed (Sep.framed LruS.framed EvT.framed)) ((Only.refl _ _).drewN _))⟩
                  case measure => simp [intOf]; omega
                · have hpb : (p0 != dk) = true := by simpa using hpk
                  have HS2 := Lib.hid (show xs ++ [p0] = dropK (W.take (j + 1)) dk by rw [HX.out]; exact (HS.out.2 hpk).symm)
                  have hxl2 : (xs ++ [p0]).length ≤ 16 := by
                    rw [HS2.out]
                    exact Nat.le_trans (List.length_filter_le _ _) (by simp; omega)
                  have HLN := Lib.hid (show (xs ++ [p0]).length = xs.length + 1 by simp)
                  clear hpk
                  go_wp2_with fail
                  go_quiet (fail)
                  have HQ2 := Lib.hid (HQ.out.fresh (Sep.framed OwS.framed (Sep.framed LruS.framed EvT.framed)) (((Only.refl _ _).drewN nq).tr (Only.alloc (fun _ => False) _ (.cells #[.int .u64 p0] 28))))
                  obtain ⟨A, hA, hbk⟩ := HQ2.out.call (Sep.framed LruS.framed EvT.framed) OwS.framed
                  have HA := Lib.hid hA
                  have HB := Lib.hid hbk
                  have HRL := Lib.hid (Rd.lit (E := eU64) (World.drewN wr nq) #[.int .u64 p0] 28 (0, 0) 1 1 [p0] rfl rfl (by simp) (by simp [maxLen]))
                  clear hA hbk
                  go_wp2_with (at_builtin; refine wl_appendS (E := eU64) rfl _ (.tmp 151) _ rfl 28 8 eU64_sl A _ xs rfl HA.out _ [p0] rfl HRL.out (by simp only [List.length_cons, List.length_nil]; omega) (by unfold maxLen; simp only [List.length_cons, List.length_nil]; omega) ?_)
                  intro va wa ha hOa
                  have HQ3 := Lib.hid (HB.out (fun S w => OwS eU64 28 S w va (xs ++ [p0])) wa OwS.framed ⟨OwS.framed.mono _ _ _ ha fun k _ h => h.imp id fun h => by simpa using h, hOa⟩)
                  obtain ⟨_, xo2, xc2, rfl, _⟩ := id ha.1
                  clear ha hOa HB HA HQ2 HRL
                  go_wp2_with fail
                  go_roundw
                  case rel => exact ⟨j + 1, xs ++ [p0], xo2, xc2, by omega, hxl2, by go_num, rfl, HS2, HQ3⟩
                  case measure => simp [intOf]; omega
              · obtain rfl : j = W.length := by omega
                have HX2 := Lib.hid (show xs = dropK W dk by have := HX.out; rwa [List.take_length] at this)
                clear HX
                go_upto_region 29 with (fail)
                go_cut [161] (fun t161 wd => t161 = .bool (p || (decide (op = 0) && had)) ∧ wd = wr)
                case first => as_aux_lemma =>
                  clear HLL
                  cases p
                  · by_cases h0 : op = 0
                    · subst h0
                      cases had
                      all_goals
                        go_wp2_with fail
                        go_meet
                        case rel => exact ⟨rfl, rfl⟩
                    · have hb0 : (op == 0) = false := by simpa using h0
                      go_wp2_with fail
                      go_meet
                      case rel => exact ⟨by simp [h0], rfl⟩
                  · go_wp2_with fail
                    go_meet
                    case rel => exact ⟨rfl, rfl⟩
                case rest => as_aux_lemma =>
                  obtain ⟨rfl, rfl⟩ := hcut
                  generalize hbb : (p || (decide (op = 0) && had)) = bb at *
                  clear hbb
                  go_upto_if 161 with (fail)
                  go_cut [14] (fun t14 wd => ∃ fo fc, t14 = .slice fo s2.2.length fc ∧ Hid (Rd eU64 wd (.slice fo s2.2.length fc) s2.2) ∧ Hid (St (Sep (LruS g b cap s2) (EvT t8 t11 op dk dv (x0, x1, x2, x3, x4, x5) (.slice ao1 s.2.length cp1) s.2 (.slice ao2 s2.2.length cp2) s2.2)) w wd))
                  case first => as_aux_lemma =>
                    cases bb
                    · by_cases h3 : op = 3
                      · subst h3
                        have HLL2 := Lib.hid (show s2.2 = xs by rw [HLL.out, HX2.out]; rfl)
                        have HXR := Lib.hid (show Rd eU64 wc (.slice vo xs.length vc) xs from by
                          obtain ⟨_, h⟩ := HQ.out.getL; exact h.rd)
                        have HQ2 := Lib.hid (HQ.out.imp fun T h => h.right (Sep.framed LruS.framed EvT.framed))
                        clear HLL HX2
                        go_wp2_with fail
                        go_meet
                        case rel => exact ⟨vo, vc, by rw [HLL2.out], Lib.hid (by rw [HLL2.out]; exact HXR.out), HQ2⟩
                      · have hb3 : (op != 3) = true := by simpa using h3
                        have HLL2 := Lib.hid (show s2.2 = W by rw [HLL.out]; simp [h3])
                        have HQ2 := Lib.hid (HQ.out.imp fun T h => h.right (Sep.framed LruS.framed EvT.framed))
                        clear HLL HX2 h3
                        go_wp2_with fail
                        go_meet
                        case rel => exact ⟨ao1, cp1, by rw [HLL2.out], Lib.hid (by rw [HLL2.out]; exact HRW.out), HQ2⟩
                    · have HLL2 := Lib.hid (show s2.2 = dk :: xs by rw [HLL.out, HX2.out]; rfl)
                      have HRX := Lib.hid (show Rd eU64 (wc.alloc (.cells #[.int .u64 dk] 28)) (.slice vo xs.length vc) xs from by
                        obtain ⟨_, h⟩ := HQ.out.getL; exact h.rd.alloc _)
                      have HQ2 := Lib.hid (HQ.out.imp fun T h => h.right (Sep.framed LruS.framed EvT.framed))
                      have HQ3 := Lib.hid (HQ2.out.fresh (Sep.framed LruS.framed EvT.framed) (Only.alloc (fun _ => False) _ (.cells #[.int .u64 dk] 28)))
                      have HLT : Hid (OwS eU64 28 (fun k => wc.heap.size ≤ k) (wc.alloc (.cells #[.int .u64 dk] 28)) (.slice (some ⟨wc.heap.size, 0, none⟩) 1 1) [dk]) := Lib.hid ⟨Ow.lit (E := eU64) wc 0 #[.int .u64 dk] 28 1 [dk] rfl rfl (by simp [maxLen]) (Nat.zero_le _), fun k hk => by simp [Value.ownBlock] at hk; omega⟩
                      have HSZ := Lib.hid (size_le_alloc wc (.cells #[.int .u64 dk] 28))
                      have HQ4 := Lib.hid HQ2.out
                      clear HLL HX2 HQ2
                      go_wp2_with (at_builtin; refine wl_appendS (E := eU64) rfl _ (.tmp 165) _ rfl 28 8 eU64_sl _ _ [dk] rfl HLT.out _ xs rfl HRX.out (by simp only [List.length_cons, List.length_nil]; omega) (by unfold maxLen; simp only [List.length_cons, List.length_nil]; omega) ?_)
                      intro va wa ha hOa
                      have HO2 := Lib.hid (show Only (fun _ => False) wc wa from (Only.alloc (fun _ => False) wc (.cells #[.int .u64 dk] 28)).trans hOa fun k hk h => by omega)
                      have HQ5 := Lib.hid (HQ4.out.fresh (Sep.framed LruS.framed EvT.framed) HO2.out)
                      have HRA := Lib.hid ha.rd
                      obtain ⟨_, xo2, xc2, rfl, _⟩ := id ha.1
                      clear ha hOa HQ4 HO2
                      go_wp2_with fail
                      go_meet
                      case rel => exact ⟨xo2, xc2, by rw [HLL2.out], Lib.hid (by rw [HLL2.out]; exact HRA.out), HQ5⟩
                  case rest => as_aux_lemma =>
                    obtain ⟨fo, fc, rfl, HRF, HVF⟩ := hcut
                    have HRN2 := Lib.hid (show Rd eU64 _ (.slice ao2 s2.2.length cp2) s2.2 from by
                      obtain ⟨_, h⟩ := HVF.out.getR; exact h.2.2.2.rd)
                    clear HQ HRW HRN d0 d1 d2 HX2 HLL
                    go_wp2_with fail
                    refine (HVF.out.callRead (Sep.framed LruS.framed EvT.framed) (E := fun e => e = .returned (.bool true)) ((numbers_eq s2.2 _ _ _ HRN2.out HRF.out).mono fun _ _ ⟨h1, n, h2⟩ => ⟨h1, by rw [h2]; exact (Only.refl _ _).drewN n⟩)).mono ?_
                    rintro e wz ⟨rfl, hVZ⟩
                    have HVZ := Lib.hid (hVZ.rest (R' := Emp) fun _ _ => trivial)
                    clear hVZ HVF HRF HRN2
                    go_wp2_with fail
                    go_roundw
                    case rel => exact ⟨k + 1, s2, by omega, by omega, by go_num, HG2, HVZ⟩
                    case measure => simp [intOf]; omega
    · have HGL := Lib.hid HG.out.good.len
      have hor : ¬ k < ds.length ∨ (k < ds.length ∧ ¬ k < 3000) := by omega
      have hi0 : (0 : Int) ≤ (k : Int) := by omega
      obtain ⟨cp0, hgl⟩ := lruPtrU V.out
      rcases hor with hno | ⟨hy, hno⟩
      all_goals
        clear hlt
        go_wp2_with fail
        refine (lruPairsU Emp.framed V.out HG.out).mono ?_
        rintro e w3 ⟨v1, rfl, hV3⟩
        have HV3 := Lib.hid (hV3.rest (R' := fun S w => OwS ePair 46 S w v1 s.1) fun T h => h.2)
        obtain ⟨_, hown⟩ := HV3.out.getR
        obtain ⟨q0, pa, pc, rfl, _, _, _⟩ := id hown.rd
        clear hV3 hown V cp0
        go_wp2_with fail
        go_loopw [17] (fun t17 wr => ∃ j : Nat, j ≤ s.1.length ∧ t17 = .int .i64 j ∧ Hid (St (Sep (LruS g b cap s) (fun S w => OwS ePair 46 S w (.slice pa s.1.length pc) s.1)) w wr)) (fun t17 _ => s.1.length - (intOf t17).toNat)
        case atStart => exact ⟨0, Nat.zero_le _, rfl, HV3⟩
        case round => as_aux_lemma =>
          clear HV3
          obtain ⟨j, hj, rfl, V⟩ := hrel
          obtain ⟨cp0, hgl2⟩ := lruPtrU V.out
          by_cases hjl : j < s.1.length
          · obtain ⟨_, hown⟩ := V.out.getR
            obtain ⟨_, ao', c', hao, _, _, hx⟩ := hown.rd
            obtain ⟨rfl, -, rfl⟩ : pa = ao' ∧ s.1.length = s.1.length ∧ pc = c' := by simpa using hao
            obtain ⟨pb, po, rfl, hc⟩ := hx (by omega)
            obtain ⟨f0, _⟩ := pair_cells hc j hjl
            have HM := Lib.hid (show s.1[j].1 ∈ s.2 from (HG.out.keys _).2 (mem_has.2 ⟨s.1[j].2, List.getElem_mem hjl⟩))
            have HKP := Lib.hid (fun (W : World) (v' : Value) (h : St (Sep (LruS g b cap s) (fun S w => OwS ePair 46 S w (.slice (some ⟨pb, po, none⟩) s.1.length pc) s.1 ∧ OwS eU64 28 S w v' s.2)) w W) => show W.cell? ⟨pb, po + j * 2, none⟩ = some (.int .u64 s.1[j].1) from by
              obtain ⟨_, h, _⟩ := h.getR
              obtain ⟨_, ao', c', hao, _, _, hx⟩ := h.rd
              obtain ⟨hab, -, -⟩ : some (⟨pb, po, none⟩ : Addr) = ao' ∧ s.1.length = s.1.length ∧ pc = c' := by simpa using hao
              obtain ⟨sb, off, hso, hc⟩ := hx (by omega)
              obtain ⟨rfl, rfl⟩ : pb = sb ∧ po = off := by rw [hso] at hab; simpa using hab
              exact (pair_cells hc j hjl).1)
            have hm0 : (0 : Int) ≤ (j : Int) := by omega
            have hm1 : (j : Int) < (s.1.length : Int) := by omega
            have h16 : s.1.length ≤ 16 := by have := HG.out.good.len; have := HG.out.good.hi; omega
            clear hc hx hao hown
            generalize s.1[j].1 = key at *
            go_wp2_with fail
            go_region_held3 (fun w' => w'.cell? ⟨pb, po + j * 2, none⟩ = some (.int .u64 key))
              ((first | exact f0 | exact HKP.out _ _ hVi))
              ((first
                | (go_at_call 9; refine (lruOrderU OwS.framed (V.out.drewU (Sep.framed LruS.framed OwS.framed)) HG.out).mono ?_; rintro e wi ⟨v', rfl, hVi⟩)
                | (go_at_call 10; refine (hVi.callRead (Sep.framed LruS.framed (Framed.and OwS.framed OwS.framed)) (E := fun e => ∃ r : Nat, e = .returned (.int .i64 (r : Int))) (at_mem s.2 _ key _ (by obtain ⟨_, h⟩ := hVi.getR; exact h.2.rd) HM.out)).mono ?_; rintro e wj ⟨⟨r, rfl⟩, hVi⟩)))
            all_goals
              have HVi := Lib.hid (hVi.rest (R' := fun S w => OwS ePair 46 S w (.slice (some ⟨pb, po, none⟩) s.1.length pc) s.1) fun T h => h.1)
              have hr3 : (0 : Int) ≤ (r : Int) := by omega
              clear hVi HKP f0 V cp0
              go_wp2_with fail
              go_roundw
              case rel => exact ⟨j + 1, by omega, by go_num, HVi⟩
              case measure => simp [intOf]; omega
          · obtain rfl : j = s.1.length := by omega
            have heq : ((s.1.length : Int) == (s.1.length : Int)) = true := by simp
            go_wp2_with fail
            refine (lruLenU OwS.framed V.out).mono ?_
            rintro e w5 ⟨rfl, hV5⟩
            have HB := Lib.hid (St.below hV5)
            clear hV5 V
            go_wp2_with fail
            go_ret
            exact ⟨rfl, HB.out⟩
theorem lruEvicts_any (cap : Int) (ds : List DoD) (v : Value) (w : World) (hcap : -9223372036854775808 ≤ cap ∧ cap ≤ 9223372036854775807) (hv : Rd eDo w v ds) (hl : ds.length * 24 ≤ 140737488351232) (hok : ∀ o ∈ ds, DoD.ok o) :
    Calls Try.prog 3 #[.int .i64 cap, v] w fun e w' => e = .returned (.bool true) ∧ Below w.heap.size w w' := by
  by_cases h : cap < 1 ∨ 16 < cap
  · exact lruEvicts_bad cap v w h
  · exact lruEvicts_yes cap (by omega) (by omega) ds v w hv
end Go.Proofs.Ytodacnpbhlkoiaa
