/- The law BookOrder: its walk. -/
import Derived.Test.YthekjeghodpcoaaBookOrdPl
namespace Go.Proofs.Ythekjeghodpcoaa
open Go.RowKit
set_option linter.unusedVariables false
set_option linter.unusedSimpArgs false

theorem ord_keep {P Q : (Nat → Prop) → World → Prop} {w0 W : World} {fb foff n c : Nat} {F : List PairD} (h : LSt P Q (fun S w => OwS ePair 39 S w (.slice (some ⟨fb, foff, none⟩) n c) F) w0 W) (m : Nat) (hm : m < F.length) :
    W.cell? ⟨fb, foff + m * 2, none⟩ = some (.int .u64 F[m].1) ∧ W.cell? ⟨fb, foff + m * 2 + 1, none⟩ = some (.int .u64 F[m].2) := by
  obtain ⟨_, ho⟩ := h.rest
  obtain ⟨_, ao', cap', hao, _, _, hx⟩ := ho.rd
  obtain ⟨b, off, hbo, hc⟩ := hx (by omega)
  obtain ⟨rfl, rfl⟩ : fb = b ∧ foff = off := by
    rw [hbo] at hao
    simp at hao
    exact hao.1
  exact pair_cells hc m hm
set_option maxRecDepth 100000 in
set_option maxHeartbeats 8000000 in
theorem bookOrder_any (ps : List PairD) (v : Value) (w : World) (hv : Rd ePair w v ps) (hl : ps.length * 16 ≤ 140737488351232) (hok : ∀ o ∈ ps, PairD.ok o) :
    Calls Try.prog 6 #[v] w fun e w' => e = .returned (.bool true) ∧ Below w.heap.size w w' := by
  obtain ⟨hmx, ao, c, rfl, hcap, _, _⟩ := id hv
  unfold maxLen at hmx
  have HV := Lib.hid hv
  clear hv hok
  go_enter Try.func6, Try.ntmps6
  go_wp2_with fail
  refine (awake_any _).mono ?_
  rintro e w1 ⟨rfl, hb1⟩
  go_wp2_with fail
  refine (newL NoX.framed NoX.framed (LSt.start hb1) 16 (by decide) (by decide)).mono ?_
  rintro e w2 ⟨a, rfl, hL2⟩
  have HL2 := Lib.hid hL2
  clear hb1 hL2
  go_wp2_with fail
  refine (newL2 BookS.framed NoX.framed NoX.framed HL2.out 16 (by decide) (by decide)).mono ?_
  rintro e w3 ⟨b, rfl, hL3⟩
  have HL3 := Lib.hid (show LSt (BookS a 16 []) (BookS b 16 []) (fun S w => OwS ePair 39 S w (.slice none 0 0) []) w w3 by
    obtain ⟨tag, AR, g1, g2, _⟩ := hL3
    exact ⟨tag, AR, g1, g2, OwS.nil _ _⟩)
  clear hL3 HL2
  go_wp2_with fail
  go_loopw [7, 8] (fun t7 t8 wr => ∃ (i : Int) (F : List PairD) (fo : Option Addr) (fc : Nat), -1 ≤ i ∧ i < ps.length ∧ t8 = .int .i64 i ∧ t7 = .slice fo F.length fc ∧ Keys F ∧ F.length ≤ 16 ∧ Hid (LSt (BookS a 16 []) (BookS b 16 []) (fun S w => OwS ePair 39 S w (.slice fo F.length fc) F) w wr)) (fun _ t8 _ => (intOf t8 + 1).toNat)
  case atStart => exact ⟨(ps.length : Int) - 1, [], none, 0, by omega, by omega, by go_num, rfl, List.Pairwise.nil, by simp, HL3⟩
  case round =>
    clear HL3
    obtain ⟨i, F, fo, fc, hi1, hi2, rfl, rfl, hK, h16, V⟩ := hrel
    have HK := Lib.hid hK
    clear hK
    by_cases hgo : 0 ≤ i ∧ F.length < 16
    · obtain ⟨hi0, hlt⟩ := hgo
      obtain ⟨m, rfl⟩ : ∃ m : Nat, i = m := ⟨i.toNat, by omega⟩
      have hmp : m < ps.length := by omega
      obtain ⟨_, ao', cap', hao, _, _, hx⟩ := HV.out
      obtain ⟨rfl, _, rfl⟩ : ao = ao' ∧ ps.length = ps.length ∧ c = cap' := by simpa using hao
      obtain ⟨sb, off, rfl, hc⟩ := hx (by omega)
      obtain ⟨c0, c1⟩ := pair_cells hc m hmp
      have HLB := Lib.hid (Rd.lt HV.out (by omega))
      obtain ⟨p0, p1, hpe⟩ : ∃ p0 p1, ps[m] = ((p0, p1) : PairD) := ⟨_, _, rfl⟩
      rw [hpe] at c0 c1
      have HC0 := Lib.hid c0
      have HC1 := Lib.hid c1
      clear hc hx hao hpe c0 c1
      go_wp2_with fail
      go_loopw [9, 10] (fun t9 t10 wr => ∃ (k : Nat), k ≤ F.length ∧ t10 = .int .i64 k ∧ t9 = .bool (thereTo F k p0) ∧ Hid (LSt (BookS a 16 []) (BookS b 16 []) (fun S w => OwS ePair 39 S w (.slice fo F.length fc) F) w wr)) (fun _ t10 _ => F.length - (intOf t10).toNat)
      case atStart => exact ⟨0, Nat.zero_le _, rfl, rfl, V⟩
      case round =>
        clear V
        obtain ⟨k, hk, rfl, rfl, V⟩ := hrel
        by_cases hkl : k < F.length
        · obtain ⟨_, hown⟩ := V.out.rest
          have hrd := hown.rd
          obtain ⟨_, ao', cap', hao, _, _, hx⟩ := hrd
          obtain ⟨rfl, _, rfl⟩ : fo = ao' ∧ F.length = F.length ∧ fc = cap' := by simpa using hao
          obtain ⟨fb, foff, rfl, hc⟩ := hx (by omega)
          obtain ⟨d0, _⟩ := pair_cells hc k hkl
          have HTS := Lib.hid (there_step hkl p0)
          have hi0 : (0 : Int) ≤ (k : Int) := by omega
          have hi1 : (k : Int) < (F.length : Int) := by omega
          have hi3 : (m : Int) < (ps.length : Int) := by omega
          have c0 : wr.cell? ⟨sb, off + m * 2, none⟩ = some (.int .u64 p0) := (V.out.below.cell HLB.out).trans HC0.out
          clear hc hx hao hown
          generalize F[k].1 = q0 at *
          have HVd := Lib.hid (V.out.drew BookS.framed BookS.framed OwS.framed)
          cases hth : thereTo F k p0
          · rw [hth] at HTS
            by_cases hq : q0 = p0
            · have HTN := Lib.hid (show thereTo F (k + 1) p0 = true by rw [HTS.out]; simp [hq])
              clear HTS hth
              go_wp2_with fail
              go_region_held3 (fun w' => w'.cell? ⟨fb, foff + k * 2, none⟩ = some (.int .u64 q0) ∧ w'.cell? ⟨sb, off + m * 2, none⟩ = some (.int .u64 p0)) (go_keep) (fail)
              clear c0 d0
              go_wp2_with fail
              go_roundw
              case rel => exact ⟨k + 1, by omega, by go_num, by rw [HTN.out], HVd⟩
              case measure => simp [intOf]; omega
            · have HTN := Lib.hid (show thereTo F (k + 1) p0 = false by rw [HTS.out]; simp [hq])
              clear HTS hth
              go_wp2_with fail
              go_region_held3 (fun w' => w'.cell? ⟨fb, foff + k * 2, none⟩ = some (.int .u64 q0) ∧ w'.cell? ⟨sb, off + m * 2, none⟩ = some (.int .u64 p0)) (go_keep) (fail)
              clear c0 d0
              go_wp2_with fail
              go_roundw
              case rel => exact ⟨k + 1, by omega, by go_num, by rw [HTN.out]; first | rfl | simp [hq], HVd⟩
              case measure => simp [intOf]; omega
          · rw [hth] at HTS
            have HTN := Lib.hid (show thereTo F (k + 1) p0 = true by rw [HTS.out]; simp)
            clear HTS hth
            go_wp2_with fail
            refine wp_region_noPanic ?_
            refine wp_region_held_drew (S := fun _ => True) (by kernel_rfl) ?_ (fun hHeld => ?_)
            · exact trivial
            try simp only [Act.put, List.getElem_toArray, List.getElem_cons_succ, List.getElem_cons_zero, List.setIfInBounds_toArray, List.set_cons_zero, List.set_cons_succ]
            refine wpAnyH_take (i := 0) (v := ?v0) rfl (by kernel_rfl) (by kernel_rfl) (by kernel_rfl) (fun _ _ _ h => h) (Or.inl ⟨by rfl, ?hy0⟩) (by assumption) ?rest0
            case hy0 =>
              intro w hSw
              try dsimp only at hSw
              go_simp
              all_goals with_reducible rfl
            simp only [Act.put, List.getElem_toArray, List.getElem_cons_succ, List.getElem_cons_zero, List.setIfInBounds_toArray, List.set_cons_zero, List.set_cons_succ]
            refine wpAnyH_take (i := 1) (v := ?v1) rfl (by kernel_rfl) (by kernel_rfl) (by kernel_rfl) (fun _ _ _ h => h) (Or.inl ⟨by rfl, ?hy1⟩) (by assumption) ?rest1
            case hy1 =>
              intro w hSw
              try dsimp only at hSw
              go_simp
              all_goals with_reducible rfl
            simp only [Act.put, List.getElem_toArray, List.getElem_cons_succ, List.getElem_cons_zero, List.setIfInBounds_toArray, List.set_cons_zero, List.set_cons_succ]
            refine wpAnyH_take (i := 2) (v := undef) rfl (by kernel_rfl) (by kernel_rfl) (by kernel_rfl) (fun _ _ _ h => h) (Or.inr ⟨by rfl, rfl⟩) (by assumption) ?_
            simp only [Act.put, List.getElem_toArray, List.getElem_cons_succ, List.getElem_cons_zero, List.setIfInBounds_toArray, List.set_cons_zero, List.set_cons_succ]
            refine wpAnyH_take (i := 3) (v := undef) rfl (by kernel_rfl) (by kernel_rfl) (by kernel_rfl) (fun _ _ _ h => h) (Or.inr ⟨by rfl, rfl⟩) (by assumption) ?_
            simp only [Act.put, List.getElem_toArray, List.getElem_cons_succ, List.getElem_cons_zero, List.setIfInBounds_toArray, List.set_cons_zero, List.set_cons_succ]
            refine wpAnyH_take (i := 4) (v := undef) rfl (by kernel_rfl) (by kernel_rfl) (by kernel_rfl) (fun _ _ _ h => h) (Or.inr ⟨by rfl, rfl⟩) (by assumption) ?_
            simp only [Act.put, List.getElem_toArray, List.getElem_cons_succ, List.getElem_cons_zero, List.setIfInBounds_toArray, List.set_cons_zero, List.set_cons_succ]
            refine wpAnyH_take (i := 5) (v := undef) rfl (by kernel_rfl) (by kernel_rfl) (by kernel_rfl) (fun _ _ _ h => h) (Or.inr ⟨by rfl, rfl⟩) (by assumption) ?_
            simp only [Act.put, List.getElem_toArray, List.getElem_cons_succ, List.getElem_cons_zero, List.setIfInBounds_toArray, List.set_cons_zero, List.set_cons_succ]
            refine wpAnyH_take (i := 6) (v := undef) rfl (by kernel_rfl) (by kernel_rfl) (by kernel_rfl) (fun _ _ _ h => h) (Or.inr ⟨by rfl, rfl⟩) (by assumption) ?_
            simp only [Act.put, List.getElem_toArray, List.getElem_cons_succ, List.getElem_cons_zero, List.setIfInBounds_toArray, List.set_cons_zero, List.set_cons_succ]
            refine wpAnyH_take (i := 7) (v := undef) rfl (by kernel_rfl) (by kernel_rfl) (by kernel_rfl) (fun _ _ _ h => h) (Or.inr ⟨by rfl, rfl⟩) (by assumption) ?_
            simp only [Act.put, List.getElem_toArray, List.getElem_cons_succ, List.getElem_cons_zero, List.setIfInBounds_toArray, List.set_cons_zero, List.set_cons_succ]
            refine wpAnyH_take (i := 8) (v := undef) rfl (by kernel_rfl) (by kernel_rfl) (by kernel_rfl) (fun _ _ _ h => h) (Or.inr ⟨by rfl, rfl⟩) (by assumption) ?_
            simp only [Act.put, List.getElem_toArray, List.getElem_cons_succ, List.getElem_cons_zero, List.setIfInBounds_toArray, List.set_cons_zero, List.set_cons_succ]
            refine wpAnyH_take (i := 9) (v := undef) rfl (by kernel_rfl) (by kernel_rfl) (by kernel_rfl) (fun _ _ _ h => h) (Or.inr ⟨by rfl, rfl⟩) (by assumption) ?_
            simp only [Act.put, List.getElem_toArray, List.getElem_cons_succ, List.getElem_cons_zero, List.setIfInBounds_toArray, List.set_cons_zero, List.set_cons_succ]
            refine wpAnyH_take (i := 10) (v := undef) rfl (by kernel_rfl) (by kernel_rfl) (by kernel_rfl) (fun _ _ _ h => h) (Or.inr ⟨by rfl, rfl⟩) (by assumption) ?_
            simp only [Act.put, List.getElem_toArray, List.getElem_cons_succ, List.getElem_cons_zero, List.setIfInBounds_toArray, List.set_cons_zero, List.set_cons_succ]
            refine wpAnyH_take (i := 11) (v := undef) rfl (by kernel_rfl) (by kernel_rfl) (by kernel_rfl) (fun _ _ _ h => h) (Or.inr ⟨by rfl, rfl⟩) (by assumption) ?_
            simp only [Act.put, List.getElem_toArray, List.getElem_cons_succ, List.getElem_cons_zero, List.setIfInBounds_toArray, List.set_cons_zero, List.set_cons_succ]
            refine wpAnyH_take (i := 12) (v := undef) rfl (by kernel_rfl) (by kernel_rfl) (by kernel_rfl) (fun _ _ _ h => h) (Or.inr ⟨by rfl, rfl⟩) (by assumption) ?_
            simp only [Act.put, List.getElem_toArray, List.getElem_cons_succ, List.getElem_cons_zero, List.setIfInBounds_toArray, List.set_cons_zero, List.set_cons_succ]
            refine wpAnyH_take (i := 13) (v := ?v13) rfl (by kernel_rfl) (by kernel_rfl) (by kernel_rfl) (fun _ _ _ h => h) (Or.inl ⟨by rfl, ?hy13⟩) (by assumption) ?rest13
            case hy13 =>
              intro w hSw
              try dsimp only at hSw
              go_simp
              all_goals with_reducible rfl
            simp only [Act.put, List.getElem_toArray, List.getElem_cons_succ, List.getElem_cons_zero, List.setIfInBounds_toArray, List.set_cons_zero, List.set_cons_succ]
            refine wpAnyH_take (i := 14) (v := ?v14) rfl (by kernel_rfl) (by kernel_rfl) (by kernel_rfl) (fun _ _ _ h => h) (Or.inl ⟨by rfl, ?hy14⟩) (by assumption) ?rest14
            case hy14 =>
              intro w hSw
              try dsimp only at hSw
              go_simp
              all_goals with_reducible rfl
            simp only [Act.put, List.getElem_toArray, List.getElem_cons_succ, List.getElem_cons_zero, List.setIfInBounds_toArray, List.set_cons_zero, List.set_cons_succ]
            refine wpAnyH_done (by kernel_rfl) ?_ _
            refine NoPanic.normal ?_
            clear c0 d0
            go_wp2_with fail
            go_roundw
            case rel => exact ⟨k + 1, by omega, by go_num, by rw [HTN.out], HVd⟩
            case measure => simp [intOf]; omega
        · have HTA := Lib.hid (there_all (F := F) (by omega : F.length ≤ k) p0)
          cases hth : thereTo F k p0
          · rw [hth] at HTA
            have HKN := Lib.hid (keys_snoc (p := (p0, p1)) HK.out HTA.out.symm)
            have c0 : wr.cell? ⟨sb, off + m * 2, none⟩ = some (.int .u64 p0) := (V.out.below.cell HLB.out).trans HC0.out
            have c1 : wr.cell? ⟨sb, off + m * 2 + 1, none⟩ = some (.int .u64 p1) := (V.out.below.cell HLB.out).trans HC1.out
            obtain ⟨tag, AR, g1, g2, g3⟩ := V.out.fresh BookS.framed BookS.framed OwS.framed (Only.alloc _ _ (.cells #[.int .u64 p0, .int .u64 p1] 39))
            have HAR := Lib.hid AR
            have H1 := Lib.hid g1
            have H2 := Lib.hid g2
            have H3 := Lib.hid g3
            have HRL := Lib.hid (Rd.lit (E := ePair) wr #[.int .u64 p0, .int .u64 p1] 39 (0, 0) 1 1 [(p0, p1)] rfl rfl (by simp) (by simp [maxLen]))
            have HLN := Lib.hid (show (F ++ [((p0, p1) : PairD)]).length = F.length + 1 by simp)
            have hi0 : (0 : Int) ≤ (m : Int) := by omega
            have hi3 : (m : Int) < (ps.length : Int) := by omega
            clear AR g1 g2 g3 V
            go_wp2_with (at_builtin; refine wl_appendS (E := ePair) rfl _ (.tmp 75) _ rfl 39 16 ePair_slice (fun k => tag k = 3) _ F rfl H3.out _ [(p0, p1)] rfl HRL.out (by simp only [List.length_cons, List.length_nil]; omega) (by unfold maxLen; simp only [List.length_cons, List.length_nil]; omega) ?_)
            intro va wa ha hOa
            have HVa := Lib.hid (LSt.third_ (X' := fun S w => OwS ePair 39 S w va (F ++ [(p0, p1)])) BookS.framed BookS.framed OwS.framed HAR.out H1.out H2.out (OwS.framed.mono _ (fun k => tag k = 3 ∨ (wr.alloc (.cells #[.int .u64 p0, .int .u64 p1] 39)).heap.size ≤ k) _ ha fun k _ h => h.imp id fun h => by simpa using h) hOa)
            obtain ⟨_, xo2, xc2, rfl, _⟩ := id ha.1
            clear ha hOa HAR H1 H2 H3 HRL c0 c1
            go_wp2_with fail
            go_roundw
            case rel => exact ⟨(m : Int) - 1, F ++ [(p0, p1)], xo2, xc2, by omega, by omega, by go_num, rfl, HKN.out, by rw [HLN.out]; omega, HVa⟩
            case measure => first | (simp [intOf]; done) | (simp [intOf]; omega)
          · clear HTA
            go_wp2_with fail
            go_roundw
            case rel => exact ⟨(m : Int) - 1, F, fo, fc, by omega, by omega, by go_num, rfl, HK.out, by omega, V⟩
            case measure => first | (simp [intOf]; done) | (simp [intOf]; omega)
    · have HX : Hid (Framed (fun S w => OwS ePair 39 S w (.slice fo F.length fc) F)) := Lib.hid OwS.framed
      obtain ⟨zb, hzf, hzs⟩ := set_fill_all HK.out h16
      have HZS := Lib.hid hzs
      have hfill := fillL BookS.framed HX.out (V.out.swap BookS.framed BookS.framed HX.out) set_nil.good (fun zs W h => by obtain ⟨_, h⟩ := h.rest; exact h.rd)
      rw [hzf] at hfill
      have HFI := Lib.hid hfill
      clear hfill hzf hzs V
      have HXN := Lib.hid (show (F.length : Int) = F.length from rfl)
      have hor : i < 0 ∨ (0 ≤ i ∧ (16 : Int) ≤ F.length) := by omega
      clear hgo
      rcases hor with hneg | ⟨hpos, hful⟩
      all_goals
        go_wp2_with fail
        refine HFI.out.mono ?_
        rintro e w6 ⟨rfl, hL6⟩
        have HL6 := Lib.hid (hL6.swap BookS.framed BookS.framed HX.out)
        clear hL6
        go_wp2_with fail
        go_loopw [11] (fun t11 wr => ∃ (i : Int) (zs : List PairD), -1 ≤ i ∧ i < F.length ∧ t11 = .int .i64 i ∧ Hid (Set16 zs (F.drop (i + 1).toNat)) ∧ Hid (LSt (BookS a 16 zs) (BookS b 16 zb) (fun S w => OwS ePair 39 S w (.slice fo F.length fc) F) w wr)) (fun t11 _ => (intOf t11 + 1).toNat)
        case atStart => exact ⟨(F.length : Int) - 1, [], by omega, by omega, by go_num, Lib.hid (by rw [show ((F.length : Int) - 1 + 1).toNat = F.length by omega, List.drop_length]; exact set_nil), HL6⟩
        case round =>
          clear HL6
          obtain ⟨i, zs, hi1, hi2, rfl, HS, V⟩ := hrel
          by_cases hi0 : 0 ≤ i
          · obtain ⟨m, rfl⟩ : ∃ m : Nat, i = m := ⟨i.toNat, by omega⟩
            have hmF : m < F.length := by omega
            obtain ⟨_, hown⟩ := V.out.rest
            obtain ⟨_, ao', cap', hao, _, _, hx⟩ := hown.rd
            obtain ⟨rfl, _, rfl⟩ : fo = ao' ∧ F.length = F.length ∧ fc = cap' := by simpa using hao
            obtain ⟨fb, foff, rfl, hc⟩ := hx (by omega)
            obtain ⟨c0, c1⟩ := pair_cells hc m hmF
            have htwo := fun u => set_two HK.out h16 m hmF (by have := HS.out; rwa [show ((m : Int) + 1).toNat = m + 1 by omega] at this) u
            have HKP := Lib.hid (fun (W : World) (zs' : List PairD) (h : LSt (BookS a 16 zs') (BookS b 16 zb) (fun S w => OwS ePair 39 S w (.slice (some ⟨fb, foff, none⟩) F.length fc) F) w W) => ord_keep h m hmF)
            obtain ⟨ys, r, xs, hd1, hg1, hd2, hs2⟩ := htwo (IntKind.u64.wrap (F[m].2 + 1))
            clear htwo
            generalize F[m].1 = p0 at *
            generalize F[m].2 = p1 at *
            have HD1 := Lib.hid hd1
            have HG1 := Lib.hid hg1
            have HD2 := Lib.hid hd2
            have HS2 := Lib.hid hs2
            have hi3 : (m : Int) < (F.length : Int) := by omega
            clear hc hx hao hown hd1 hg1 hd2 hs2
            go_wp2_with fail
            go_region_held3 (fun w' => w'.cell? ⟨fb, foff + m * 2, none⟩ = some (.int .u64 p0) ∧ w'.cell? ⟨fb, foff + m * 2 + 1, none⟩ = some (.int .u64 p1))
              ((first | exact ⟨c0, c1⟩ | exact HKP.out _ _ hVi))
              ((go_at_call 9; refine (doF BookS.framed HX.out (V.out.drew BookS.framed BookS.framed HX.out) HS.out.good HD1.out).mono ?_; rintro e wi ⟨rfl, hVi⟩))
            have HVi := Lib.hid hVi
            obtain ⟨e0, e1⟩ := HKP.out _ _ hVi
            clear hVi c0 c1 V
            go_wp2_with fail
            go_region_held3 (fun w' => w'.cell? ⟨fb, foff + m * 2, none⟩ = some (.int .u64 p0) ∧ w'.cell? ⟨fb, foff + m * 2 + 1, none⟩ = some (.int .u64 p1))
              ((first | exact ⟨e0, e1⟩ | exact HKP.out _ _ hVj))
              ((go_at_call 9; refine (doV BookS.framed HX.out (HVi.out.drew BookS.framed BookS.framed HX.out) HG1.out HD2.out).mono ?_; rintro e wj ⟨rfl, hVj⟩))
            have HVj := Lib.hid hVj
            clear hVj e0 e1 HVi
            go_wp2_with fail
            go_roundw
            case rel => exact ⟨(m : Int) - 1, xs, by omega, by omega, by go_num, Lib.hid (by rw [show ((m : Int) - 1 + 1).toNat = m by omega]; exact HS2.out), HVj⟩
            case measure => first | (simp [intOf]; done) | (simp [intOf]; omega)
          · have HE := Lib.hid (show zs = zb by
              have h := HS.out
              rw [show (i + 1).toNat = 0 by omega, List.drop_zero] at h
              exact rising_ext h.good.rising HZS.out.good.rising fun p => by rw [h.mem, HZS.out.mem])
            have HL := Lib.hid (show zs.length = F.length by
              have h := HS.out
              rw [show (i + 1).toNat = 0 by omega, List.drop_zero] at h
              exact h.len)
            have HG := Lib.hid HS.out.good
            clear HS
            go_wp2_with fail
            refine (bpairsL BookS.framed HX.out V.out HG.out).mono ?_
            rintro e wa ⟨va, rfl, hLa⟩
            have HLa := Lib.hid (hLa.swap BookS.framed BookS.framed (HX.out.and OwS.framed))
            have HFa := Lib.hid (HX.out.and (OwS.framed (E := ePair) (ty := 39) (v := va) (xs := zs)))
            clear hLa V
            go_wp2_with fail
            refine (bpairsL BookS.framed HFa.out HLa.out HZS.out.good).mono ?_
            rintro e wb ⟨vb, rfl, hLb⟩
            have HLb := Lib.hid hLb
            clear hLb HLa
            go_wp2_with fail
            obtain ⟨_, ⟨_, hb⟩, hc⟩ := HLb.out.rest
            refine (pairsCmpL BookS.framed BookS.framed (HFa.out.and OwS.framed) HLb.out hb.rd hc.rd).mono ?_
            rintro e wd ⟨rfl, hLd⟩
            have HLd := Lib.hid ((hLd.wide (X' := NoX) fun _ _ => trivial).swap BookS.framed BookS.framed NoX.framed)
            rw [decide_eq_true HE.out]
            clear hLd HLb hb hc
            go_wp2_with fail
            refine (lenL BookS.framed NoX.framed HLd.out).mono ?_
            rintro e we ⟨rfl, hLe⟩
            have HLe := Lib.hid hLe.below
            clear hLe HLd
            rw [HL.out]
            go_wp2_with fail
            go_ret
            exact ⟨rfl, HLe.out⟩
end Go.Proofs.Ythekjeghodpcoaa
