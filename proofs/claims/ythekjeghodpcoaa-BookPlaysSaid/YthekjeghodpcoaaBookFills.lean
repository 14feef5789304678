/- The law BookFills: its walk. -/
import Derived.Test.YthekjeghodpcoaaBookFill
import Derived.Test.YthekjeghodpcoaaBookDec
import Derived.Deep.RegionHeld3
namespace Go.Proofs.Ythekjeghodpcoaa
open Go.RowKit
set_option linter.unusedVariables false
set_option linter.unusedSimpArgs false

/-- a new book, the second of the two -/
theorem newL2 {P Q X : (Nat → Prop) → World → Prop} {w0 w : World} (hP : Framed P) (hQ : Framed Q) (hX : Framed X) (h : LSt P Q X w0 w) (cap : Int) (h1 : 1 ≤ cap) (h2 : cap ≤ 16) :
    Calls Try.prog 8 #[.int .i64 cap] w fun e w' => ∃ b, e = .returned (.tuple #[.pointer (some ⟨b, 0, none⟩), .int .i64 0]) ∧ LSt P (BookS b cap []) X w0 w' :=
  (newL hP hX (h.swap hP hQ hX) cap h1 h2).mono fun e w' ⟨b, he, hl⟩ => ⟨b, he, hl.swap BookS.framed hP hX⟩
theorem LSt.third_ {P Q X' : (Nat → Prop) → World → Prop} {w0 w w' : World} {tag : Nat → Nat} (hP : Framed P) (hQ : Framed Q) (hX' : Framed X') (A : Arena w0.heap.size w0 w tag) (h1 : P (fun k => tag k = 1) w) (h2 : Q (fun k => tag k = 2) w)
    (hx : X' (fun k => tag k = 3 ∨ w.heap.size ≤ k) w') (ho : Only (fun k => tag k = 3) w w') : LSt P Q X' w0 w' := by
  obtain ⟨tag', A', f, n, _⟩ := A.step ho 3 (fun _ h => by omega)
  exact ⟨tag', A', f _ hP _ h1 (fun _ _ h => by omega), f _ hQ _ h2 (fun _ _ h => by omega), n _ hX' hx⟩

theorem keepP {w0 w w' : World} {sb o0 o1 : Nat} {v u : Value} (h' : Below w0.heap.size w0 w') (h : Below w0.heap.size w0 w) (l : sb < w0.heap.size) (c : w.cell? ⟨sb, o0, none⟩ = some v) (c2 : w.cell? ⟨sb, o1, none⟩ = some u) :
    w'.cell? ⟨sb, o0, none⟩ = some v ∧ w'.cell? ⟨sb, o1, none⟩ = some u := ⟨(h'.cell l).trans ((h.cell l).symm.trans c), (h'.cell l).trans ((h.cell l).symm.trans c2)⟩
set_option maxRecDepth 100000 in
set_option maxHeartbeats 4000000 in
theorem bookFills_bad (cap : Int) (v : Value) (w : World) (h : cap < 1 ∨ 16 < cap) :
    Calls Try.prog 5 #[.int .i64 cap, v] w fun e w' => e = .returned (.bool true) ∧ Below w.heap.size w w' := by
  go_enter Try.func5, Try.ntmps5
  go_wp2_with fail
  refine (awake_any _).mono ?_
  rintro e w1 ⟨rfl, hb1⟩
  go_wp2_with fail
  refine (new_bad cap _ h).mono ?_
  rintro e w2 ⟨rfl, ho⟩
  have HB := Lib.hid (hb1.trans (ho.below (B := w.heap.size) hb1.size (fun _ h => h.elim)))
  clear hb1 ho
  go_wp2_with fail
  refine (new_bad cap _ h).mono ?_
  rintro e w3 ⟨rfl, ho⟩
  have HB2 := Lib.hid (HB.out.trans (ho.below (B := w.heap.size) HB.out.size (fun _ h => h.elim)))
  clear HB ho
  go_wp2_with fail
  go_ret
  exact ⟨rfl, HB2.out⟩

set_option maxRecDepth 100000 in
set_option maxHeartbeats 8000000 in
theorem bookFills_yes (cap : Int) (h1 : 1 ≤ cap) (h2 : cap ≤ 16) (ps : List PairD) (v : Value) (w : World) (hv : Rd ePair w v ps) (hl : ps.length * 16 ≤ 140737488351232) :
    Calls Try.prog 5 #[.int .i64 cap, v] w fun e w' => e = .returned (.bool true) ∧ Below w.heap.size w w' := by
  obtain ⟨hmx, ao, c, rfl, hcap, _, _⟩ := id hv
  unfold maxLen at hmx
  have HV := Lib.hid hv
  have HC := Lib.hid (show 1 ≤ cap ∧ cap ≤ 16 from ⟨h1, h2⟩)
  have HG0 := Lib.hid (good_nil h1 h2)
  obtain ⟨A1, N, hfp⟩ : ∃ A1 N, fillP cap [] ps = (A1, N) := ⟨_, _, rfl⟩
  have HFP := Lib.hid hfp
  have HGA := Lib.hid (show Good cap A1 ∧ N ≤ ps.length by have := fillP_good HG0.out ps ps.length (Nat.le_refl _); rwa [List.take_length, hfp] at this)
  clear hv h1 h2 hfp
  go_enter Try.func5, Try.ntmps5
  go_wp2_with fail
  refine (awake_any _).mono ?_
  rintro e w1 ⟨rfl, hb1⟩
  go_wp2_with fail
  refine (newL NoX.framed NoX.framed (LSt.start hb1) cap HC.out.1 HC.out.2).mono ?_
  rintro e w2 ⟨a, rfl, hL2⟩
  have HL2 := Lib.hid hL2
  clear hb1 hL2
  go_wp2_with fail
  refine (newL2 BookS.framed NoX.framed NoX.framed HL2.out cap HC.out.1 HC.out.2).mono ?_
  rintro e w3 ⟨b, rfl, hL3⟩
  have HL3 := Lib.hid hL3
  have HRD := Lib.hid ((HV.out.grow hL3.below).alloc (.cells #[] 39))
  have HE := Lib.hid (show OwS ePair 39 (fun k => w3.heap.size ≤ k) (w3.alloc (.cells #[] 39)) (.slice (some ⟨w3.heap.size, 0, none⟩) 0 0) [] from
    ⟨Ow.lit (E := ePair) w3 0 #[] 39 0 [] (by simp [Enc.all]) rfl (by simp) (Nat.zero_le _), fun k hk => by simp [Value.ownBlock] at hk; omega⟩)
  clear hL3 HL2
  go_wp2_with (at_builtin; refine wl_appendS (E := ePair) rfl _ (.tmp 48) _ rfl 39 16 ePair_slice _ _ [] rfl HE.out _ ps rfl HRD.out (by simp; omega) (by unfold maxLen; simp; omega) ?_)
  intro v5 w5 h5 hO5
  have HL5 := Lib.hid (HL3.out.newX (Y := fun S w => OwS ePair 39 S w v5 ps) BookS.framed BookS.framed NoX.framed OwS.framed
    (OwS.framed.mono _ _ _ h5 fun k _ h => by
      rcases h with h | h
      · exact h
      · have := size_le_alloc w3 (.cells #[] 39); omega)
    ((Only.alloc (fun _ => False) w3 _).trans hO5 fun k hk h => by omega))
  have HL5b := Lib.hid (HL5.out.wide (X' := fun S w => OwS ePair 39 S w v5 ps) fun S h => h.2)
  have hOF : Framed (fun S w => OwS ePair 39 S w v5 ps) := OwS.framed
  have HOF := Lib.hid hOF
  clear h5 hO5 HE HRD HL3 HL5 hOF
  go_wp2_with fail
  have hfill := fillL BookS.framed HOF.out HL5b.out HG0.out (fun zs W h => by obtain ⟨_, h⟩ := h.rest; exact h.rd)
  rw [HFP.out] at hfill
  refine hfill.mono ?_
  rintro e w6 ⟨rfl, hL6⟩
  have HL6 := Lib.hid hL6
  clear hL6 HL5b hfill
  go_wp2_with fail
  refine (lenL BookS.framed HOF.out (HL6.out.swap BookS.framed BookS.framed HOF.out)).mono ?_
  rintro e w7 ⟨rfl, hL7⟩
  have HL7 := Lib.hid hL7
  clear hL7 HL6
  go_wp2_with fail
  obtain ⟨_, hin⟩ := HL7.out.rest
  refine (pairsCmpL BookS.framed BookS.framed HOF.out HL7.out hin.rd (HV.out.grow HL7.out.below)).mono ?_
  rintro e w8 ⟨rfl, hL8⟩
  have HL8 := Lib.hid (hL8.wide (X' := NoX) fun _ _ => trivial)
  rw [decide_eq_true (rfl : ps = ps)]
  clear hL8 HL7 hin HOF
  go_wp2_with fail
  go_loopw [11, 12] (fun t11 t12 wr => ∃ (k m : Nat) (zs : List PairD), k ≤ ps.length ∧ m ≤ k ∧ t12 = .int .i64 k ∧ t11 = .int .i64 m ∧ Hid (fillP cap [] (ps.take k) = (zs, m)) ∧ Hid (Good cap zs) ∧ Hid (LSt (BookS b cap zs) (BookS a cap A1) NoX w wr)) (fun _ t12 _ => ps.length - (intOf t12).toNat)
  case atStart => exact ⟨0, 0, [], Nat.zero_le _, Nat.le_refl _, rfl, rfl, Lib.hid rfl, HG0, HL8⟩
  case round =>
    clear HL8
    obtain ⟨k, m, zs, hk, hm, rfl, rfl, HF, G, V⟩ := hrel
    by_cases hlt : k < ps.length
    · obtain ⟨_, ao', cap', hao, _, _, hx⟩ := HV.out.grow V.out.below
      obtain ⟨rfl, _, rfl⟩ : ao = ao' ∧ ps.length = ps.length ∧ c = cap' := by simpa using hao
      obtain ⟨sb, off, rfl, hc⟩ := hx (by omega)
      obtain ⟨c0, c1⟩ := pair_cells hc k hlt
      have HLB := Lib.hid (Rd.lt HV.out (by omega))
      have hi0 : (0 : Int) ≤ (k : Int) := by omega
      have hi1 : (k : Int) < (ps.length : Int) := by omega
      have HS := Lib.hid (show fillP cap [] (ps.take (k + 1)) = ((doP cap zs 2 ps[k].1 ps[k].2).2, if (doP cap zs 2 ps[k].1 ps[k].2).1.1 = 0 then m + 1 else m) by rw [List.take_succ_eq_append_getElem hlt, fillP_snoc, HF.out])
      clear hc hx hao
      generalize ps[k].1 = p0 at *
      generalize ps[k].2 = p1 at *
      obtain ⟨r, ys, hd⟩ : ∃ r ys, doP cap zs 2 p0 p1 = (r, ys) := ⟨_, _, rfl⟩
      rw [hd] at HS
      have HD := Lib.hid hd
      have HG2 := Lib.hid (good_mid G.out hd)
      have hbel := fun (w2 : World) (h : LSt (BookS b cap ys) (BookS a cap A1) NoX w w2) => keepP (h.below) V.out.below HLB.out c0 c1
      have HBEL := Lib.hid hbel
      have hfl := res_field0 r.1 r.2.2.1 r.2.2.2.2.1 r.2.2.2.2.2 r.2.1 r.2.2.2.1
      clear hd hbel
      by_cases hr : r.1 = 0
      · have HS2 := Lib.hid (show fillP cap [] (ps.take (k + 1)) = (ys, m + 1) by rw [HS.out]; simp [hr])
        rw [hr] at hfl
        clear HS
        go_wp2_with fail
        go_region_held3 (fun w' => w'.cell? ⟨sb, off + k * 2, none⟩ = some (.int .u64 p0) ∧ w'.cell? ⟨sb, off + k * 2 + 1, none⟩ = some (.int .u64 p1))
          ((first | exact ⟨c0, c1⟩ | exact HBEL.out _ hVi))
          ((go_at_call 9; refine (doV BookS.framed NoX.framed (V.out.drew BookS.framed BookS.framed NoX.framed) G.out HD.out).mono ?_; rintro e wi ⟨rfl, hVi⟩))
        have HVi := Lib.hid hVi
        clear hVi HBEL c0 c1
        go_wp2_with fail
        go_roundw
        case rel => exact ⟨k + 1, m + 1, ys, by omega, by omega, by go_num, by go_num, HS2, HG2, HVi⟩
        case measure => simp [intOf]; omega
      · have HS2 := Lib.hid (show fillP cap [] (ps.take (k + 1)) = (ys, m) by rw [HS.out]; simp [hr])
        clear HS
        go_wp2_with fail
        go_region_held3 (fun w' => w'.cell? ⟨sb, off + k * 2, none⟩ = some (.int .u64 p0) ∧ w'.cell? ⟨sb, off + k * 2 + 1, none⟩ = some (.int .u64 p1))
          ((first | exact ⟨c0, c1⟩ | exact HBEL.out _ hVi))
          ((go_at_call 9; refine (doV BookS.framed NoX.framed (V.out.drew BookS.framed BookS.framed NoX.framed) G.out HD.out).mono ?_; rintro e wi ⟨rfl, hVi⟩))
        have HVi := Lib.hid hVi
        clear hVi HBEL c0 c1
        go_wp2_with fail
        go_roundw
        case rel => exact ⟨k + 1, m, ys, by omega, by omega, by go_num, rfl, HS2, HG2, HVi⟩
        case measure => simp [intOf]; omega
    · obtain ⟨rfl, rfl⟩ : A1 = zs ∧ N = m := by
        have := HF.out
        rw [List.take_of_length_le (by omega), HFP.out] at this
        simpa using this
      have HLs := Lib.hid (V.out.swap BookS.framed BookS.framed NoX.framed)
      have hA16 : A1.length ≤ 16 := by have := G.out.len; have := G.out.hi; omega
      clear V HF HFP HV
      go_wp2_with fail
      refine (bpairsL BookS.framed NoX.framed HLs.out G.out).mono ?_
      rintro e w9 ⟨v9, rfl, hL9⟩
      have hL9' : LSt (BookS a cap A1) (BookS b cap A1) (fun S w => OwS ePair 39 S w v9 A1) w w9 := hL9.wide fun S h => h.2
      obtain ⟨_, hv9⟩ := hL9'.rest
      obtain ⟨_, xo, xc, rfl, _⟩ := hv9.1
      have HL9 := Lib.hid hL9'
      clear hL9 hL9' hv9 HLs
      go_wp2_with fail
      go_loopw [14] (fun t14 wr => ∃ (k : Nat) (zs : List PairD), k ≤ A1.length ∧ zs.length = A1.length ∧ t14 = .int .i64 k ∧ Hid (LSt (BookS a cap A1) (BookS b cap A1) (fun S w => OwS ePair 39 S w (.slice xo A1.length xc) zs) w wr)) (fun t14 _ => A1.length - (intOf t14).toNat)
      case atStart => exact ⟨0, A1, Nat.zero_le _, rfl, rfl, HL9⟩
      case round =>
        clear HL9
        obtain ⟨j, zs, hj, hzl, rfl, V⟩ := hrel
        by_cases hjl : j < A1.length
        · obtain ⟨tag, AR, g1, g2, g3⟩ := V.out
          obtain ⟨sb, off, rfl, _, hcell⟩ := g3.1.at_ j (by omega)
          obtain ⟨q0, e0⟩ := hcell 0 (by decide)
          obtain ⟨q1, e1⟩ := hcell 1 (by decide)
          rw [← Nat.add_assoc] at q1 e1
          rw [Nat.add_zero] at q0 e0
          have c0 : wr.cell? ⟨sb, off + j * 2, none⟩ = some (.int .u64 zs[j].1) := q0
          have c1 : wr.cell? ⟨sb, off + j * 2 + 1, none⟩ = some (.int .u64 zs[j].2) := q1
          have f0 : wr.frozen? ⟨sb, off + j * 2, none⟩ = false := e0
          have f1 : wr.frozen? ⟨sb, off + j * 2 + 1, none⟩ = false := e1
          have d1 : (wr.setCell ⟨sb, off + j * 2, none⟩ (.int .u64 77)).cell? ⟨sb, off + j * 2 + 1, none⟩ = some (.int .u64 zs[j].2) := (World.cell?_setCell_other _ _ _ _ (by simp)).trans c1
          generalize zs[j].1 = z0 at *
          generalize zs[j].2 = z1 at *
          have hst : wr.setCells sb (off + j * ePair.size) (ePair.cells (77, 77)) = (wr.setCell ⟨sb, off + j * 2, none⟩ (.int .u64 77)).setCell ⟨sb, off + j * 2 + 1, none⟩ (.int .u64 77) := by simp [World.setCells]
          obtain ⟨hos, hO3⟩ := g3.store j (by omega) ((77, 77) : PairD)
          have HV2 := Lib.hid (LSt.third_ (X' := fun S w => OwS ePair 39 S w _ (zs.set j (77, 77))) BookS.framed BookS.framed OwS.framed AR g1 g2 (OwS.framed.mono _ _ _ hos fun k _ h => .inl h) hO3)
          rw [hst] at HV2
          have HZ := Lib.hid (show (zs.set j (77, 77)).length = A1.length by simpa using hzl)
          have hi0 : (0 : Int) ≤ (j : Int) := by omega
          have hi1 : (j : Int) < (A1.length : Int) := by omega
          clear AR g1 g2 g3 hcell q0 q1 e0 e1 hst hO3 hos
          go_wp2_with fail
          go_roundw
          case rel => exact ⟨j + 1, _, by omega, HZ.out, by go_num, HV2⟩
          case measure => simp [intOf]; omega
        · obtain ⟨tag, AR, g1, g2, g3⟩ := V.out.fresh BookS.framed BookS.framed OwS.framed (Only.alloc _ _ (.cells #[.int .u64 1, .int .u64 0] 39))
          have HAR := Lib.hid AR
          have H1 := Lib.hid g1
          have H2 := Lib.hid g2
          have H3 := Lib.hid g3
          have HRL := Lib.hid (Rd.lit (E := ePair) wr #[.int .u64 1, .int .u64 0] 39 (0, 0) 1 1 [(1, 0)] rfl rfl (by simp) (by simp [maxLen]))
          have HLN := Lib.hid (show (zs ++ [((1, 0) : PairD)]).length = A1.length + 1 by simp; omega)
          clear AR g1 g2 g3 V
          go_wp2_with (at_builtin; refine wl_appendS (E := ePair) rfl _ (.tmp 98) _ rfl 39 16 ePair_slice (fun k => tag k = 3) _ zs rfl H3.out _ [(1, 0)] rfl HRL.out (by simp only [List.length_cons, List.length_nil]; omega) (by unfold maxLen; simp only [List.length_cons, List.length_nil]; omega) ?_)
          intro va wa ha hOa
          have HVa := Lib.hid (LSt.third_ (X' := fun S w => OwS ePair 39 S w va (zs ++ [(1, 0)])) BookS.framed BookS.framed OwS.framed HAR.out H1.out H2.out (OwS.framed.mono _ (fun k => tag k = 3 ∨ (wr.alloc (.cells #[.int .u64 1, .int .u64 0] 39)).heap.size ≤ k) _ ha fun k _ h => h.imp id fun h => by simpa using h) hOa)
          obtain ⟨_, xo2, xc2, rfl, _⟩ := id ha.1
          have HVb := Lib.hid (HVa.out.wide (X' := NoX) fun _ _ => trivial)
          clear ha hOa HVa HAR H1 H2 H3 HRL
          rw [HLN.out]
          go_wp2_with fail
          refine (bpairsL BookS.framed NoX.framed HVb.out G.out).mono ?_
          rintro e wb ⟨vb, rfl, hLb⟩
          have HLb := Lib.hid (hLb.swap BookS.framed BookS.framed (NoX.framed.and OwS.framed))
          have HFb := Lib.hid (NoX.framed.and (OwS.framed (E := ePair) (ty := 39) (v := vb) (xs := A1)))
          clear hLb HVb
          go_wp2_with fail
          refine (bpairsL BookS.framed HFb.out HLb.out G.out).mono ?_
          rintro e wc ⟨vc, rfl, hLc⟩
          have HLc := Lib.hid hLc
          clear hLc HLb
          go_wp2_with fail
          obtain ⟨_, ⟨_, hb⟩, hc⟩ := HLc.out.rest
          refine (pairsCmpL BookS.framed BookS.framed (HFb.out.and OwS.framed) HLc.out hb.rd hc.rd).mono ?_
          rintro e wd ⟨rfl, hLd⟩
          have HLd := Lib.hid ((hLd.wide (X' := NoX) fun _ _ => trivial).swap BookS.framed BookS.framed NoX.framed)
          rw [decide_eq_true (rfl : A1 = A1)]
          clear hLd HLc hb hc
          go_wp2_with fail
          refine (fillL (ps := []) BookS.framed NoX.framed HLd.out G.out (fun _ W _ => Rd.nil W)).mono ?_
          rintro e we ⟨rfl, hLe⟩
          have HLe := Lib.hid (show LSt (BookS a cap A1) (BookS b cap A1) NoX w we from hLe)
          clear hLe HLd
          rw [show (fillP cap A1 []).2 = 0 from rfl]
          go_wp2_with fail
          refine (lenL BookS.framed NoX.framed HLe.out).mono ?_
          rintro e wf ⟨rfl, hLf⟩
          have HLf := Lib.hid hLf.below
          clear hLf HLe
          go_wp2_with fail
          go_ret
          exact ⟨rfl, HLf.out⟩
theorem bookFills_any (cap : Int) (ps : List PairD) (v : Value) (w : World) (hcap : -9223372036854775808 ≤ cap ∧ cap ≤ 9223372036854775807) (hv : Rd ePair w v ps) (hl : ps.length * 16 ≤ 140737488351232) (hok : ∀ o ∈ ps, PairD.ok o) :
    Calls Try.prog 5 #[.int .i64 cap, v] w fun e w' => e = .returned (.bool true) ∧ Below w.heap.size w w' := by
  by_cases h : cap < 1 ∨ 16 < cap
  · exact bookFills_bad cap v w h
  · exact bookFills_yes cap (by omega) (by omega) ps v w hv hl
end Go.Proofs.Ythekjeghodpcoaa
