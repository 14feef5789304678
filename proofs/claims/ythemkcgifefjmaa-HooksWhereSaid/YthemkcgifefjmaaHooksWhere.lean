/- The law HooksWhere: its walk. -/
import Derived.Test.YthemkcgifefjmaaHooksMany
import Derived.IntWalk
namespace Go.Proofs.Ythemkcgifefjmaa
open Go.RowKit
set_option linter.unusedVariables false

theorem whereTo_mem {hs : List Pub} {ps : List Int} {n : Nat} (hn : n ≤ hs.length) {x : Int} (h : x ∈ whereTo hs ps n) : currentOf hs x = ((getH hs x).1, (getH hs x).2, true) ∧ (getH hs x).2 ∈ ps ∧ 0 ≤ x := by
  unfold whereTo at h
  obtain ⟨k, hk, rfl⟩ := List.mem_map.1 h
  obtain ⟨h1, h2⟩ := List.mem_filter.1 hk
  rw [Bool.and_eq_true, decide_eq_true_iff, decide_eq_true_iff] at h2
  have hkl : k < n := by simpa using h1
  refine ⟨?_, h2.2, by omega⟩
  unfold currentOf
  rw [if_neg (by unfold bad; omega), if_pos h2.1]
theorem whereTo_prefix (hs : List Pub) (ps : List Int) {j n : Nat} (h : j ≤ n) : whereTo hs ps j <+: whereTo hs ps n := by
  induction n with
  | zero =>
    obtain rfl : j = 0 := by omega
    exact List.prefix_rfl
  | succ n ih =>
    by_cases e : j = n + 1
    · subst e; exact List.prefix_rfl
    · refine (ih (by omega)).trans ?_
      by_cases hq : 0 < (getH hs n).1 ∧ (getH hs n).2 ∈ ps
      · rw [whereTo_yes hq.1 hq.2]; exact List.prefix_append _ _
      · rw [whereTo_no hq]; exact List.prefix_rfl
theorem whereTo_at {hs : List Pub} {ps : List Int} {j n : Nat} (h : j < n) (hq : 0 < (getH hs (j : Int)).1 ∧ (getH hs (j : Int)).2 ∈ ps) : ∃ hl : (whereTo hs ps j).length < (whereTo hs ps n).length, (whereTo hs ps n)[(whereTo hs ps j).length] = (j : Int) := by
  obtain ⟨t, ht⟩ := whereTo_prefix hs ps (show j + 1 ≤ n by omega)
  rw [whereTo_yes hq.1 hq.2] at ht
  have hl : (whereTo hs ps j).length < (whereTo hs ps n).length := by rw [← ht]; simp
  refine ⟨hl, ?_⟩
  have : (whereTo hs ps n)[(whereTo hs ps j).length]? = some (j : Int) := by rw [← ht]; simp
  rw [List.getElem?_eq_getElem hl] at this
  simpa using this
theorem whereTo_none (hs : List Pub) (n : Nat) : whereTo hs [] n = [] := by simp [whereTo]
/-- the first i overwritten -/
def over (ws : List Int) (i : Nat) : List Int := List.replicate i (-5) ++ ws.drop i
theorem over_len (ws : List Int) (i : Nat) (h : i ≤ ws.length) : (over ws i).length = ws.length := by simp [over]; omega
theorem over_at (ws : List Int) (i : Nat) (h : i < ws.length) : (over ws i)[i]'(by rw [over_len _ _ (by omega)]; exact h) = ws[i] := by simp [over]
theorem over_prev (ws : List Int) (i : Nat) (h : i < ws.length) (h0 : 0 < i) : (over ws i)[i - 1]'(by rw [over_len _ _ (by omega)]; omega) = -5 := by
  simp only [over]
  rw [List.getElem_append_left (by simp; omega), List.getElem_replicate]
theorem over_set (ws : List Int) (i : Nat) (h : i < ws.length) : (over ws i).set i (-5) = over ws (i + 1) := by
  unfold over
  rw [List.set_append, if_neg (by simp), List.length_replicate, Nat.sub_self, List.drop_eq_getElem_cons h, List.set_cons_zero, List.replicate_succ', List.append_assoc]
  rfl

set_option maxRecDepth 100000 in
set_option maxHeartbeats 8000000 in
theorem hooksWhere_yes (n : Nat) (ops : List OpD) (v : Value) (ls : List Int) (vl : Value) (w : World) (h1 : 1 ≤ n) (h4 : n ≤ 4) (hv : Rd eOp w v ops) (hl : ops.length * 48 ≤ 140737488351232) (hvl : Rd (eInt .i64) w vl ls) (hll : ls.length ≤ 17592186043904) :
    Calls Try.prog 3 #[.int .i64 (n : Int), v, vl] w fun e w' => e = .returned (.bool true) ∧ Below w.heap.size w w' := by
  obtain ⟨_, ao, cap, rfl, hcap, _, _⟩ := id hv
  obtain ⟨_, lo, lc, rfl, hlc, _, _⟩ := id hvl
  have HVL := Lib.hid hvl
  obtain ⟨L, hL⟩ : ∃ L, L = ls.length := ⟨_, rfl⟩
  have HL := Lib.hid hL
  rw [← hL] at hll hlc HVL
  rw [← hL]
  clear hL hvl
  go_enter Try.func3, Try.ntmps3
  go_wp2_with fail
  refine (awake_any _).mono ?_
  rintro e w1 ⟨rfl, hb1⟩
  go_wp2_with fail
  refine (new_any n _ h1 h4).mono ?_
  rintro e w2 ⟨g, rfl, hT, hO2⟩
  obtain ⟨tag2, A2, f2, n2, k2⟩ := (Arena.of_below hb1 (Nat.le_refl _)).step hO2 1 (fun _ h => h.elim)
  have hT2 := n2 _ TabS.framed (TabS.framed.mono _ _ _ hT (fun k _ h => .inr h))
  have hI : TSt No No g w 0 (List.replicate n (0, 0)) w2 := ⟨tag2, A2, hT2, trivial, trivial⟩
  clear hT hT2 f2 n2 k2 hO2 A2 hb1
  go_wp2_with fail
  go_loopw [9] (fun i wr => ∃ (k : Nat) (last : Int) (hs : List Pub), k ≤ ops.length ∧ i = .int .i64 k ∧ TSt No No g w last hs wr ∧ hs.length = n ∧ 0 ≤ last ∧ last ≤ k) (fun i _ => ops.length - (intOf i).toNat)
  case atStart => exact ⟨0, 0, _, Nat.zero_le _, rfl, hI, by simp, by omega, by omega⟩
  case round =>
    clear hI
    obtain ⟨k, last, hs, hk, rfl, V, hln, hl0, hlk⟩ := hrel
    by_cases hlt : k < ops.length
    · obtain ⟨_, ao', cap', hao, _, _, hx⟩ := hv.grow V.below
      obtain ⟨rfl, _, rfl⟩ : ao = ao' ∧ ops.length = ops.length ∧ cap = cap' := by simpa using hao
      obtain ⟨b, off, rfl, hc⟩ := hx (by omega)
      have c0 : wr.cell? ⟨b, off + k * 4, none⟩ = some (.int .i64 ops[k].1) := hc (k * 4) _ ((eOp.all_at ops k 0 hlt (by decide)).trans rfl)
      have c1 : wr.cell? ⟨b, off + k * 4 + 1, none⟩ = some (.int .i64 ops[k].2.1) := by have := hc (k * 4 + 1) _ ((eOp.all_at ops k 1 hlt (by decide)).trans rfl); rw [← Nat.add_assoc] at this; exact this
      have c2 : wr.cell? ⟨b, off + k * 4 + 2, none⟩ = some (.int .i64 ops[k].2.2.1) := by have := hc (k * 4 + 2) _ ((eOp.all_at ops k 2 hlt (by decide)).trans rfl); rw [← Nat.add_assoc] at this; exact this
      clear hc hx hao
      generalize ops[k].1 = kind at c0
      generalize ops[k].2.1 = hook at c1
      generalize ops[k].2.2.1 = prog at c2
      have hi0 : (0 : Int) ≤ (k : Int) := by omega
      have hi1 : (k : Int) < (ops.length : Int) := by omega
      by_cases hk1 : kind = 1
      · subst hk1
        go_wp2_with fail
        go_still_tail 11, (by kernel_rfl)
        go_wp2_with fail
        obtain ⟨a1, a2, a3⟩ := swapOf_len hs last hook prog
        refine (swapT noF noF (V.fresh noF noF ((Only.refl _ wr).drew_)) (by omega) hl0 (by omega) hook prog).mono ?_
        rintro e w3 ⟨rfl, V3⟩
        clear c0 c1 c2 V
        go_wp2_with fail
        go_roundw
        case rel => exact ⟨k + 1, _, _, by omega, by go_num, V3, by omega, by omega, by omega⟩
        case measure => simp [intOf]; omega
      · have hk1b : (kind == 1) = false := by simpa using hk1
        clear hk1
        go_wp2_with fail
        go_still_tail 11, (by kernel_rfl)
        go_wp2_with fail
        obtain ⟨a1, a2, a3⟩ := attachOf_len hs last hook prog
        refine (attachT noF noF (V.fresh noF noF ((Only.refl _ wr).drew_)) (by omega) hl0 (by omega) hook prog).mono ?_
        rintro e w3 ⟨rfl, V3⟩
        clear c0 c1 c2 V
        go_wp2_with fail
        go_roundw
        case rel => exact ⟨k + 1, _, _, by omega, by go_num, V3, by omega, by omega, by omega⟩
        case measure => simp [intOf]; omega
    · have hk4 : hs.length ≤ 4 := by omega
      go_wp2_with fail
      refine (whereT noF noF V hk4 _ ls (HVL.out.grow V.below)).mono ?_
      rintro e w3 ⟨va, rfl, ha3, ho3⟩
      have V3 := V.newX noF OwS.framed ha3 ho3
      clear V ha3 ho3
      go_wp2_with fail
      refine (whereT OwS.framed noF V3 hk4 _ ls (HVL.out.grow V3.below)).mono ?_
      rintro e w4 ⟨vb, rfl, hb4, ho4⟩
      have V4 := V3.newY OwS.framed OwS.framed hb4 ho4
      clear V3 hb4 ho4
      have hwl := whereTo_len hs ls hs.length
      have hmem := fun x => whereTo_mem (hs := hs) (ps := ls) (Nat.le_refl hs.length) (x := x)
      have HME := Lib.hid hmem
      have hat := fun j h hq => whereTo_at (hs := hs) (ps := ls) (j := j) (n := hs.length) h hq
      have HAT := Lib.hid hat
      clear hmem hat
      obtain ⟨ws, hws⟩ : ∃ ws, ws = whereTo hs ls hs.length := ⟨_, rfl⟩
      have HWS := Lib.hid hws
      rw [← hws] at V4 hwl HME
      clear hws
      obtain ⟨Sa, Xa⟩ := V4.getX
      obtain ⟨Sb, Yb⟩ := V4.getY
      obtain ⟨_, aa, ac, rfl, hac, _⟩ := id Xa.1
      obtain ⟨_, ba, bc, rfl, hbc, _⟩ := id Yb.1
      obtain ⟨N, hN⟩ : ∃ N, N = ws.length := ⟨_, rfl⟩
      have HN := Lib.hid hN
      rw [← hN] at V4 hwl hac hbc
      rw [← hN]
      clear hN Xa Yb
      go_wp2_with fail
      go_loopw [12, 13, 14, 15, 16, 17] (fun iv _ _ _ _ _ wq => ∃ i : Nat, i ≤ N ∧ iv = .int .i64 i ∧ TSt (fun S w => OwS (eInt .i64) 3 S w (.slice aa N ac) (over ws i)) (fun S w => OwS (eInt .i64) 3 S w (.slice ba N bc) ws) g w last hs wq) (fun iv _ _ _ _ _ _ => N - (intOf iv).toNat)
      case atStart => exact ⟨0, Nat.zero_le _, rfl, by simpa [over] using V4⟩
      case round =>
        clear V4
        obtain ⟨i, hi, rfl, V⟩ := hrel
        by_cases hiN : i < N
        · have hiw : i < ws.length := by have := HN.out; omega
          obtain ⟨Sa, Xa⟩ := V.getX
          obtain ⟨ab, af, rfl, _, hat⟩ := Xa.1.at_ i (by rw [over_len _ _ (by omega)]; exact hiw)
          have x0 : wr.cell? ⟨ab, af + i, none⟩ = some (.int .i64 ws[i]) := by
            have := (hat 0 (by decide)).1
            simp only [eInt, Nat.mul_one, Nat.add_zero] at this
            rw [this, over_at ws i hiw]; rfl
          obtain ⟨hcu, hpm, hxp⟩ := HME.out _ (List.getElem_mem hiw)
          generalize hxx : ws[i] = x at *
          have HXX := Lib.hid hxx
          clear hxx hat Xa
          have HCU := Lib.hid hcu
          clear hcu
          go_wp2_with fail
          refine (currentT OwS.framed OwS.framed V hk4 x).mono ?_
          rintro e w5 ⟨rfl, V5⟩
          rw [HCU.out]
          generalize (getH hs x).1 = ver at *
          generalize (getH hs x).2 = p at *
          have HPM := Lib.hid hpm
          clear V x0 hpm
          go_wp2_with fail
          go_loopw [16, 17] (fun nv jv wq => ∃ j : Nat, j ≤ L ∧ jv = .int .i64 j ∧ nv = .bool (decide (p ∈ ls.take j)) ∧ wq = w5) (fun _ jv _ => L - (intOf jv).toNat)
          case atStart => exact ⟨0, Nat.zero_le _, rfl, by simp, rfl⟩
          case round =>
            obtain ⟨j, hj, rfl, rfl, rfl⟩ := hrel
            by_cases hjl : j < L
            · have hjls : j < ls.length := by have := HL.out; omega
              obtain ⟨lb, lf, rfl, x0⟩ := ints_at (HVL.out.grow V5.below) j hjls
              have HIN := Lib.hid (in_step hjls p)
              generalize ls[j] = y at *
              cases hm1 : decide (p ∈ ls.take j)
              · have HM1 := Lib.hid hm1
                clear hm1
                by_cases hxy : y = p
                · have hb : (y == p) = true := by simp [hxy]
                  have HXY := Lib.hid hxy
                  clear hxy
                  go_wp2_with fail
                  go_roundw
                  case rel => exact ⟨j + 1, by omega, by go_num, by rw [HIN.out, HM1.out, HXY.out]; simp, trivial⟩
                  case measure => simp [intOf]; omega
                · have hb : (y == p) = false := by simp [hxy]
                  have HXY := Lib.hid hxy
                  clear hxy
                  go_wp2_with fail
                  go_roundw
                  case rel => exact ⟨j + 1, by omega, by go_num, by rw [HIN.out, HM1.out]; simp [HXY.out], trivial⟩
                  case measure => simp [intOf]; omega
              · have HM1 := Lib.hid hm1
                clear hm1
                go_wp2_with fail
                go_roundw
                case rel => exact ⟨j + 1, by omega, by go_num, by rw [HIN.out, HM1.out]; rfl, trivial⟩
                case measure => simp [intOf]; omega
            · have hfull : ls.take j = ls := List.take_of_length_le (by have := HL.out; omega)
              have hpt : decide (p ∈ ls) = true := by simpa using HPM.out
              rw [hfull, hpt]
              obtain ⟨Sa, Xa⟩ := V5.getX
              obtain ⟨ab2, af2, hab, _, hat⟩ := Xa.1.at_ i (by rw [over_len _ _ (by omega)]; exact hiw)
              obtain ⟨rfl, rfl⟩ : ab = ab2 ∧ af = af2 := by simpa using hab
              obtain ⟨x0, y0⟩ := hat 0 (by decide)
              simp only [eInt, Nat.mul_one, Nat.add_zero] at x0 y0
              rw [over_at ws i hiw, HXX.out] at x0
              have x0' : wr.cell? ⟨ab, af + i, none⟩ = some (.int .i64 x) := x0
              have hprev : 0 < i → wr.cell? ⟨ab, af + (i - 1), none⟩ = some (.int .i64 (-5)) := fun h0 => by
                obtain ⟨ab3, af3, hab3, _, hat3⟩ := Xa.1.at_ (i - 1) (by rw [over_len _ _ (by omega)]; omega)
                obtain ⟨rfl, rfl⟩ : ab = ab3 ∧ af = af3 := by simpa using hab3
                have h := (hat3 0 (by decide)).1
                simp only [eInt, Nat.mul_one, Nat.add_zero] at h
                rw [h, over_prev ws i hiw h0]; rfl
              have hup := fun q => (V5.fresh OwS.framed OwS.framed ((Only.refl _ wr).drewN q)).updX OwS.framed (X' := fun S w => OwS (eInt .i64) 3 S w (.slice (some ⟨ab, af, none⟩) N ac) (over ws (i + 1))) (w' := (wr.drewN q).setCell ⟨ab, af + i, none⟩ (.int .i64 (-5))) (fun S hx => by
                have h := hx.store i (by rw [over_len _ _ (by omega)]; exact hiw) (-5)
                rw [over_set ws i hiw] at h
                have e : (wr.drewN q).setCells ab (af + i * (eInt .i64).size) ((eInt .i64).cells (-5)) = (wr.drewN q).setCell ⟨ab, af + i, none⟩ (.int .i64 (-5)) := by simp [World.setCells, eInt]
                rw [e] at h
                exact ⟨OwS.framed.mono _ _ _ h.1 (fun _ _ h => .inl h), h.2⟩) OwS.framed
              have HUP := Lib.hid hup
              have HPR := Lib.hid hprev
              clear hup hprev hat hab Xa x0 hfull hpt V5 HPM HME HAT
              have hge : decide (x ≤ -5) = false := by simp; omega
              cases i with
              | zero =>
                have hup0 := HUP.out
                simp only [Nat.add_zero] at x0' y0 hup0
                have HUP0 := Lib.hid hup0
                have hN0 : (0 : Int) < (N : Int) := by omega
                have hN1 : 0 < N := by omega
                clear hup0 HUP
                go_wp2_with fail
                go_quiet (fail)
                go_wp2_with fail
                go_roundw
                case rel => exact ⟨1, by omega, rfl, by simpa using HUP0.out nq⟩
                case measure => simp [intOf]; omega
              | succ m =>
                have z0 := HPR.out (by omega)
                rw [Nat.add_sub_cancel] at z0
                have hm0 : (0 : Int) ≤ (m : Int) := by omega
                have hm1 : (m : Int) < (N : Int) := by omega
                have hm2 : (m : Int) + 1 < (N : Int) := by omega
                have hm3 : (0 : Int) ≤ (m : Int) + 1 := by omega
                have hm4 : ((m : Int) + 1).toNat = m + 1 := by omega
                have hw : IntKind.i64.wrap ((m : Int) + 1 - 1) = (m : Int) := by rw [show (m : Int) + 1 - 1 = m by omega]; exact IntWalk.i64_in _ ⟨by omega, by omega⟩
                have hw2 : IntKind.i64.wrap (m : Int) = (m : Int) := IntWalk.i64_in _ ⟨by omega, by omega⟩
                have hgt : decide ((0 : Int) < (m : Int) + 1) = true := decide_eq_true (by omega)
                go_wp2_with fail
                go_quiet (fail)
                clear hw hw2 hm4
                go_wp2_with fail
                go_roundw
                case rel => exact ⟨m + 1 + 1, by omega, by go_num, HUP.out nq⟩
                case measure => simp [intOf]; omega
        · obtain rfl : i = N := by omega
          obtain ⟨tagc, Ac, tc, xc, yc⟩ := V
          have hol : (over ws i).length = i := by rw [over_len ws i (by have := HN.out; omega)]; exact HN.out.symm
          have hob := OwS.framed.alloc xc (.cells #[.int .i64 1, .int .i64 2] 3)
          have hrd : Rd (eInt .i64) (wr.alloc (.cells #[.int .i64 1, .int .i64 2] 3)) _ [1, 2] := Rd.lit wr #[.int .i64 1, .int .i64 2] 3 (0, 0) 2 2 [1, 2] (by simp [Enc.all, eInt]) rfl (Nat.le_refl _) (by decide)
          have hwn : (whereTo hs ls hs.length).length ≤ hs.length := whereTo_len _ _ _
          have hN4 : i ≤ 4 := by omega
          go_wp2_with (at_builtin; refine wl_appendS (E := eInt .i64) rfl _ (.tmp 143) _ rfl 3 8 sliceI _ _ (over ws i) rfl hob _ [1, 2] rfl hrd (by rw [hol]; simp; omega) (by rw [hol]; unfold maxLen; simp; omega) ?_)
          intro v6 w6 h6 hO6
          obtain ⟨tagd, Ad, fd, nd, _⟩ := Ac.step ((Only.alloc _ wr _).tr hO6) 8 (fun _ h => by omega)
          have V6 : TSt No (fun S w => OwS (eInt .i64) 3 S w (.slice ba i bc) ws) g w last hs w6 := ⟨tagd, Ad, fd _ TabS.framed _ tc (fun _ _ h => by omega), trivial, fd _ OwS.framed _ yc (fun _ _ h => by omega)⟩
          obtain ⟨_, a6, c6, rfl, _⟩ := id h6.1
          have hl6 : (over ws i ++ [1, 2]).length = i + 2 := by rw [List.length_append, hol]; rfl
          rw [hl6]
          clear hob hrd h6 hO6 Ac tc xc yc Ad fd nd hl6 hol hwn
          go_wp2_with fail
          go_loopw [18, 19, 20, 21, 22, 23, 24] (fun cv jv _ _ _ _ _ wq => ∃ j : Nat, j ≤ n ∧ jv = .int .i64 j ∧ cv = .int .i64 ((whereTo hs ls j).length : Nat) ∧ TSt No (fun S w => OwS (eInt .i64) 3 S w (.slice ba i bc) ws) g w last hs wq) (fun _ jv _ _ _ _ _ _ => n - (intOf jv).toNat)
          case atStart => exact ⟨0, Nat.zero_le _, rfl, by simp [whereTo], V6⟩
          case round =>
            clear V6
            obtain ⟨j, hj, rfl, rfl, V⟩ := hrel
            by_cases hjn : j < n
            · go_wp2_with fail
              refine (currentT noF OwS.framed V hk4 (j : Int)).mono ?_
              rintro e w7 ⟨rfl, V7⟩
              have hnb : ¬ bad hs (j : Int) := by unfold bad; omega
              have hqq : ((currentOf hs (j : Int)).2.2 = true ∧ (currentOf hs (j : Int)).2.1 ∈ ls) ↔ (0 < (getH hs (j : Int)).1 ∧ (getH hs (j : Int)).2 ∈ ls) := by
                unfold currentOf
                rw [if_neg hnb]
                by_cases h : 0 < (getH hs (j : Int)).1 <;> simp [h]
              have hyes := fun (h : 0 < (getH hs (j : Int)).1 ∧ (getH hs (j : Int)).2 ∈ ls) => whereTo_yes (hs := hs) (ps := ls) (k := j) h.1 h.2
              have hno := fun h => whereTo_no (hs := hs) (ps := ls) (k := j) h
              have hjat := fun h => HAT.out j (by omega) h
              simp only [← HWS.out] at hjat
              rw [← hqq] at hyes hno hjat
              have HY := Lib.hid hyes
              have HNO := Lib.hid hno
              have HJ := Lib.hid hjat
              have hcl := whereTo_len hs ls j
              clear hyes hno hjat hqq hnb V
              generalize (currentOf hs (j : Int)).1 = ver at *
              generalize (currentOf hs (j : Int)).2.1 = p at *
              generalize (currentOf hs (j : Int)).2.2 = ok at *
              go_wp2_with fail
              go_loopw [23, 24] (fun nv qv wq => ∃ q : Nat, q ≤ L ∧ qv = .int .i64 q ∧ nv = .bool (decide (p ∈ ls.take q)) ∧ wq = w7) (fun _ qv _ => L - (intOf qv).toNat)
              case atStart => exact ⟨0, Nat.zero_le _, rfl, by simp, rfl⟩
              case round =>
                obtain ⟨q, hq, rfl, rfl, rfl⟩ := hrel
                by_cases hql : q < L
                · have hqls : q < ls.length := by have := HL.out; omega
                  obtain ⟨lb, lf, rfl, x0⟩ := ints_at (HVL.out.grow V7.below) q hqls
                  have HIN := Lib.hid (in_step hqls p)
                  generalize ls[q] = y at *
                  cases hm1 : decide (p ∈ ls.take q)
                  · have HM1 := Lib.hid hm1
                    clear hm1
                    by_cases hxy : y = p
                    · have hb : (y == p) = true := by simp [hxy]
                      have HXY := Lib.hid hxy
                      clear hxy
                      go_wp2_with fail
                      go_roundw
                      case rel => exact ⟨q + 1, by omega, by go_num, by rw [HIN.out, HM1.out, HXY.out]; simp, trivial⟩
                      case measure => simp [intOf]; omega
                    · have hb : (y == p) = false := by simp [hxy]
                      have HXY := Lib.hid hxy
                      clear hxy
                      go_wp2_with fail
                      go_roundw
                      case rel => exact ⟨q + 1, by omega, by go_num, by rw [HIN.out, HM1.out]; simp [HXY.out], trivial⟩
                      case measure => simp [intOf]; omega
                  · have HM1 := Lib.hid hm1
                    clear hm1
                    go_wp2_with fail
                    go_roundw
                    case rel => exact ⟨q + 1, by omega, by go_num, by rw [HIN.out, HM1.out]; rfl, trivial⟩
                    case measure => simp [intOf]; omega
                · have hfull : ls.take q = ls := List.take_of_length_le (by have := HL.out; omega)
                  rw [hfull]
                  clear hfull
                  by_cases hqual : ok = true ∧ p ∈ ls
                  · obtain ⟨rfl, hpl⟩ := hqual
                    have hpt : decide (p ∈ ls) = true := by simpa using hpl
                    rw [hpt]
                    obtain ⟨hlt2, hat2⟩ := HJ.out ⟨rfl, hpl⟩
                    have hy2 := HY.out ⟨rfl, hpl⟩
                    obtain ⟨Sb, Yb⟩ := V7.getY
                    obtain ⟨bb, bf, rfl, _, hat⟩ := Yb.1.at_ _ hlt2
                    have x0 := (hat 0 (by decide)).1
                    simp only [eInt, Nat.mul_one, Nat.add_zero] at x0
                    rw [hat2] at x0
                    have hcN : (whereTo hs ls j).length < i := by have := HN.out; omega
                    have HY2 := Lib.hid hy2
                    have V7' := Lib.hid V7
                    clear hpl hpt hat2 hy2 hat Yb HJ HY HNO V7 HME HAT HWS hlt2
                    generalize hcc : (whereTo hs ls j).length = cnt at *
                    have HCC := Lib.hid hcc
                    clear hcc
                    have x0' : wr.cell? ⟨bb, bf + cnt, none⟩ = some (.int .i64 (j : Int)) := x0
                    have hge : decide ((i : Int) ≤ (cnt : Int)) = false := decide_eq_false (by omega)
                    have hjj : ((j : Int) != (j : Int)) = false := by simp
                    clear x0
                    go_wp2_with fail
                    go_roundw
                    case rel => exact ⟨j + 1, by omega, by go_num, by rw [HY2.out, List.length_append, HCC.out]; rfl, V7'.out⟩
                    case measure => simp [intOf]; omega
                  · have hno2 := HNO.out hqual
                    have HNO2 := Lib.hid hno2
                    have hb2 : (ok && decide (p ∈ ls)) = false := by
                      cases ok
                      · rfl
                      · simpa using fun h => hqual ⟨rfl, h⟩
                    have V7' := Lib.hid V7
                    clear hno2 HJ HY HNO hqual V7
                    generalize decide (p ∈ ls) = th at *
                    cases ok
                    · go_wp2_with fail
                      go_roundw
                      case rel => exact ⟨j + 1, by omega, by go_num, by rw [HNO2.out], V7'.out⟩
                      case measure => simp [intOf]; omega
                    · obtain rfl : th = false := by simpa using hb2
                      go_wp2_with fail
                      go_roundw
                      case rel => exact ⟨j + 1, by omega, by go_num, by rw [HNO2.out], V7'.out⟩
                      case measure => simp [intOf]; omega
            · have hjh : j = hs.length := by omega
              have hcnt : (whereTo hs ls j).length = i := by rw [hjh, ← HWS.out]; exact HN.out.symm
              rw [hcnt]
              clear hcnt hjh
              go_wp2_with fail
              refine (whereT noF OwS.framed V hk4 _ [] (Rd.nil _)).mono ?_
              rintro e w8 ⟨v8, rfl, h8, ho8⟩
              have V8 := V.fresh noF OwS.framed ho8
              obtain ⟨_, a8, c8, rfl, _⟩ := id h8.1
              have hl8 : (whereTo hs [] hs.length).length = 0 := by rw [whereTo_none]; rfl
              rw [hl8]
              clear h8 hl8 V ho8
              go_wp2_with fail
              go_ret
              exact ⟨rfl, V8.below⟩

set_option maxRecDepth 100000 in
set_option maxHeartbeats 1000000 in
theorem hooksWhere_any (n : Int) (ops : List OpD) (v : Value) (ls : List Int) (vl : Value) (w : World) (hn : -9223372036854775808 ≤ n ∧ n ≤ 9223372036854775807) (hv : Rd eOp w v ops) (hl : ops.length * 48 ≤ 140737488351232) (hok : ∀ o ∈ ops, OpD.ok o) (hvl : Rd (eInt .i64) w vl ls) (hll : ls.length * 8 ≤ 140737488351232) (hlw : ∀ x ∈ ls, (Lit.int .i64 x).wf = true) :
    Calls Try.prog 3 #[.int .i64 n, v, vl] w fun e w' => e = .returned (.bool true) ∧ Below w.heap.size w w' := by
  by_cases hr : n < 1 ∨ 4 < n
  · clear hok hlw
    go_enter Try.func3, Try.ntmps3
    go_wp2_with fail
    refine (awake_any _).mono ?_
    rintro e w1 ⟨rfl, hb1⟩
    go_wp2_with fail
    refine (new_not n _ hr).mono ?_
    rintro e w2 ⟨rfl, rfl⟩
    go_wp2_with fail
    go_ret
    exact ⟨rfl, hb1⟩
  · obtain ⟨m, rfl⟩ : ∃ m : Nat, n = (m : Int) := ⟨n.toNat, by omega⟩
    exact hooksWhere_yes m ops v ls _ w (by omega) (by omega) hv hl hvl (by omega)
end Go.Proofs.Ythemkcgifefjmaa
