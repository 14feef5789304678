/- wire: Decode. -/
import Derived.Test.YtkocfgaajghggaaDoorWireDSt
import Derived.Deep.DeepCutAuto
import Derived.Deep.CutBlock
import Derived.Deep.RegionHeld3
namespace Go.Proofs.YtkocfgaajghggaaDoor
open Go.RowKit
set_option linter.unusedVariables false
set_option linter.unusedSimpArgs false

theorem sliceInt : SliceInfo Tryd.prog 22 3 1 8 := SliceInfo.mk' Tryd.underlying22 (z := .int .i64 0) (by kernel_rfl) rfl
theorem step_appS {α : Type} {E : Enc α} {P : Program} {w : World} {ops : Array Oper} {o : Oper} {a : Act} {K : Act → World → Prop} {Q : Exit → Act → World → Prop} {F : Prop} (hgd : o.guard = none) (s x : Operand) (t : TypeId)
    (ho : o.op = .call { callee := .builtin .append, args := #[s, x], argTypes := #[t, t] })
    (e bytes : Nat) (hI : SliceInfo P t e E.size bytes) (S : Nat → Prop) (v : Value) (xs : List α) (hs : a.eval s = v) (hown : OwS E e S w v xs)
    (u : Value) (ys : List α) (hx : a.eval x = u) (hr : Rd E w u ys)
    (hbytes : (5 * (xs.length + ys.length) + 2816) * bytes ≤ 1125899906842624) (h63 : xs.length + ys.length ≤ maxLen)
    (h : ∀ v' w', OwS E e (fun k => S k ∨ w.heap.size ≤ k) w' v' (xs ++ ys) → Only S w w' → K (a.put o.dst v') w') :
    if Region.wanted o (yielded ops a.tmps) = true then Oper.wp P o a w K Q else F :=
  step_append hgd s x t ho 0 e bytes hI v xs hs hown.1 u ys hx hr hbytes h63 (Nat.zero_le _) fun v' w' h1 h2 h3 _ =>
    h v' w' ⟨h1, fun k hk => by
      rcases h3 with h3 | h3
      · exact .inl (hown.2 k (by rw [← h3.1]; exact hk))
      · exact .inr (h3 k hk)⟩ (Only.of_grown h2 fun k hk => hown.2 k hk)
theorem Forms.pos {w : World} (h : Forms w) : 0 < w.heap.size := by
  obtain ⟨nb, fb, hr, _⟩ := row_of 0 (by decide)
  exact World.block_lt_of_cell? w _ (h 0 nb fb hr).1
def CodeOk (e : Int) (cs : List InstD) : Prop := e = 0 → ∀ i ∈ cs, ImmOk i
def DecPost (b : List Int) (w : World) (en : Ending) (w' : World) : Prop := Only (fun _ => False) w w' ∧
  ((∃ ms cs vm vc, decP b = .ok ms cs ∧ (∀ i ∈ cs, ImmOk i) ∧ en = .returned (.tuple #[.agg #[vm, vc], .int .i64 0, .int .i64 0]) ∧ OwS (eInt .i64) 3 (fun k => w.heap.size ≤ k) w' vm ms ∧ OwS eInst 44 (fun k => w.heap.size ≤ k) w' vc cs) ∨
   (∃ (p : Nat) (e : Int), decP b = .bad p e ∧ en = .returned (.tuple #[.agg #[.slice none 0 0, .slice none 0 0], .int .i64 (p : Int), .int .i64 e])))
set_option maxRecDepth 100000 in
set_option maxHeartbeats 8000000 in
theorem decode_any (b : List Int) (bv : Value) (w : World) (hb : Rd eU8 w bv b) (hby : ∀ x ∈ b, 0 ≤ x ∧ x ≤ 255) (hF : Forms w) :
    Calls Tryd.prog 14 #[bv] w (DecPost b w) := by
  have HRD := Lib.hid hb
  have HBY := Lib.hid hby
  have HF := Lib.hid hF
  obtain ⟨hmx, ao, cap, rfl, hcap, _, hx⟩ := hb
  unfold maxLen at hmx
  clear hby hF hx
  go_enter Tryd.func14, Tryd.ntmps14
  go_wp2_with fail
  obtain ⟨w0, hw0⟩ : ∃ w0, w0 = ((w.alloc (.cells #[.slice none 0 0, .slice none 0 0] 25)).alloc (.cells #[.slice ao b.length cap, .int .i64 0, .int .i64 0, .int .i64 0] 56)).alloc (.cells #[.slice none 0 0, .slice none 0 0] 25) := ⟨_, rfl⟩
  rw [← hw0]
  have G : Gs w w.heap.size (w.heap.size + 1) (w.heap.size + 1 + 1) := ⟨by omega, by omega, by omega, by omega, by omega, by omega⟩
  have HD0 := Lib.hid (show DSt w w.heap.size (w.heap.size + 1) (w.heap.size + 1 + 1) (.slice ao b.length cap) 0 0 0 [] [] (.slice none 0 0) (.slice none 0 0) w0 from {
    rdr := by rw [hw0]; have h := heap_alloc (p := .cells #[.slice none 0 0, .slice none 0 0] 25) (heap_alloc_new (w.alloc (.cells #[.slice none 0 0, .slice none 0 0] 25)) (.cells #[.slice ao b.length cap, .int .i64 0, .int .i64 0, .int .i64 0] 56)); simpa [RdrB] using h
    res := by rw [hw0]; exact heap_alloc (heap_alloc (heap_alloc_new w _))
    mod := by rw [hw0]; have h := heap_alloc_new ((w.alloc (.cells #[.slice none 0 0, .slice none 0 0] 25)).alloc (.cells #[.slice ao b.length cap, .int .i64 0, .int .i64 0, .int .i64 0] 56)) (.cells #[.slice none 0 0, .slice none 0 0] 25); simpa using h
    maps := OwS.nil _ _
    code := OwS.nil _ _
    only := by rw [hw0]; exact ((Only.alloc _ _ _).tr (Only.alloc _ _ _)).tr (Only.alloc _ _ _) })
  have HNE := Lib.hid (show 0 < b.length → (Value.slice ao b.length cap).ownBlock ≠ some (w.heap.size + 1) from fun h0 he => by
    cases ao with
    | none => simp [Value.ownBlock] at he
    | some a =>
      have h := Rd.lt HRD.out h0
      have : a.block = w.heap.size + 1 := by simpa [Value.ownBlock] using he
      omega)
  clear hw0
  generalize w.heap.size + 1 + 1 = gm at *
  generalize w.heap.size + 1 = gr at *
  generalize w.heap.size = g2 at *
  have HG := Lib.hid G
  clear G
  refine (begin_st gr b _ w0 HD0.out.rdr (HRD.out.only HD0.out.only) HBY.out HNE.out).mono ?_
  rintro en w1 ⟨p1, f1, e1, rfl, hR1, hO1, h31, hS1⟩
  have HD1 := Lib.hid (HD0.out.call HG.out hO1 hR1)
  have HS1 := Lib.hid (show StR b (decP b) (fun q => fieldP b q 4 11 fun n q => mapsP b n.toNat [] q) p1 f1 e1 by
    rcases hS1 with ⟨h, h2, h3⟩ | h
    · obtain rfl := h31 h
      exact .inl ⟨h, h2, h3⟩
    · exact .inr h)
  clear hR1 hO1 hS1 h31 HD0
  go_wp2_with fail
  refine (number_st gr b _ p1 f1 e1 4 11 w1 (decP b) _ HD1.out.rdr (HRD.out.only HD1.out.only) HBY.out HNE.out (by omega) (by omega) HS1.out).mono ?_
  rintro en w2 ⟨N, p2, f2, e2, rfl, hR2, hO2, hN, hz2, hS2⟩
  obtain ⟨Nn, rfl⟩ : ∃ k : Nat, N = k := ⟨N.toNat, by omega⟩
  have HD2 := Lib.hid (HD1.out.call HG.out hO2 hR2)
  have HS2 := Lib.hid (show StR b (decP b) (fun q => mapsP b Nn [] q) p2 f2 e2 from hS2)
  have hNn : Nn ≤ 4 := by omega
  clear hR2 hO2 hS2 hz2 hN HD1 HS1
  go_upto_block 0 with (fail)
  go_cut [7] (fun _ wc => ∃ (p f : Nat) (e : Int) (ms : List Int) (vm : Value), ms.length ≤ 4 ∧ Hid (DSt w g2 gr gm (.slice ao b.length cap) p f e ms [] vm (.slice none 0 0) wc) ∧ Hid (StR b (decP b) (fun q => countP b ms q) p f e))
  case first =>
    go_wp2_with fail
    go_loopw [7, 17] (fun _ t17 wr => ∃ (i p f : Nat) (e : Int) (ms : List Int) (vm : Value), i ≤ Nn ∧ t17 = .int .i64 i ∧ ms.length ≤ i ∧ Hid (DSt w g2 gr gm (.slice ao b.length cap) p f e ms [] vm (.slice none 0 0) wr) ∧ Hid (StR b (decP b) (fun q => mapsP b (Nn - i) ms q) p f e)) (fun _ t17 _ => Nn - (intOf t17).toNat)
    case atStart => exact ⟨0, p2, f2, e2, [], _, Nat.zero_le _, rfl, by simp, HD2, HS2⟩
    case round =>
      clear HD2 HS2
      obtain ⟨i, p, f, e, ms, vm, hi, rfl, hml, HD, HS⟩ := hrel
      by_cases hlt : i < Nn
      · have hi1 : (i : Int) < (Nn : Int) := by omega
        have HS3 := Lib.hid (show StR b (decP b) (fun q => fieldP b q 3 12 fun m q' => if m ∈ ms then .bad p 12 else mapsP b (Nn - (i + 1)) (ms ++ [m]) q') p f e by
          rcases HS.out with ⟨h, h2, h3⟩ | h
          · refine .inl ⟨h, h2, ?_⟩
            rw [h3, show Nn - i = Nn - (i + 1) + 1 by omega]; rfl
          · exact .inr h)
        clear HS
        go_wp2_with fail
        refine (number_st gr b _ p f e 3 12 wr (decP b) _ HD.out.rdr (HRD.out.only HD.out.only) HBY.out HNE.out (by omega) (by omega) HS3.out).mono ?_
        rintro en w3 ⟨m, p3, f3, e3, rfl, hR3, hO3, hm, hz3, hS3⟩
        have HD3 := Lib.hid (HD.out.call HG.out hO3 hR3)
        have HS4 := Lib.hid hS3
        have HZ3 := Lib.hid hz3
        have hmm := HD3.out.mod
        have c0 := cells_of_heap hmm 0 _ rfl
        have hml2 := heap_lt hmm
        clear hR3 hO3 hS3 hz3 HD HS3 hmm
        go_wp2_with fail
        refine (contains_any ms m vm w3 HD3.out.maps.rd).mono ?_
        rintro en w4 ⟨rfl, rfl⟩
        obtain ⟨r0, r1, r2, r3⟩ := HD3.out.rdr.cells
        by_cases he : e3 = 0
        · subst he
          have HT := Lib.hid (show p3 ≤ b.length ∧ decP b = if m ∈ ms then .bad p 12 else mapsP b (Nn - (i + 1)) (ms ++ [m]) p3 by
            rcases HS4.out with ⟨_, h1, h2⟩ | ⟨h, _⟩
            · exact ⟨h1, h2⟩
            · exact absurd rfl h)
          obtain rfl := HZ3.out.2 rfl
          by_cases hin : m ∈ ms
          · rw [decide_eq_true hin]
            have HT2 := Lib.hid (show decP b = .bad f3 12 by rw [HT.out.2, if_pos hin])
            clear hin HT HS4 HZ3
            go_wp2_with fail
            refine (fail_live gr _ p3 f3 12 w3 HD3.out.rdr).mono ?_
            rintro en w5 ⟨rfl, hR5, hO5⟩
            have HD5 := Lib.hid (HD3.out.call HG.out hO5 hR5)
            clear r0 r1 r2 r3 c0 hR5 hO5 HD3
            obtain ⟨r0, r1, r2, r3⟩ := HD5.out.rdr.cells
            go_wp2_with fail
            go_meet
            exact ⟨p3, f3, 12, ms, vm, by omega, HD5, Lib.hid (.inr ⟨by decide, HT2.out⟩)⟩
          · rw [decide_eq_false hin]
            have HT2 := Lib.hid (show p3 ≤ b.length ∧ decP b = mapsP b (Nn - (i + 1)) (ms ++ [m]) p3 from ⟨HT.out.1, by rw [HT.out.2, if_neg hin]⟩)
            clear hin HT HS4 HZ3
            have HD4 := Lib.hid (HD3.out.fresh (Only.alloc _ w3 (.cells #[.int .i64 m] 3)))
            have HRL := Lib.hid (Rd.lit (E := eInt .i64) w3 #[.int .i64 m] 3 (0, 0) 1 1 [m] rfl rfl (by simp) (by simp [maxLen]))
            go_wp2_with (at_builtin; refine wl_appendS (E := eInt .i64) rfl _ (.tmp 35) _ rfl 3 8 sliceInt (fun k => vm.ownBlock = some k) _ ms rfl ⟨HD4.out.maps.1, fun k h => h⟩ _ [m] rfl HRL.out (by simp only [List.length_cons, List.length_nil]; omega) (by unfold maxLen; simp only [List.length_cons, List.length_nil]; omega) ?_)
            intro v5 w5 h5 hO5
            have h6 := OwS.framed.mono _ (fun k => vm.ownBlock = some k ∨ (w3.alloc (.cells #[.int .i64 m] 3)).heap.size ≤ k) _ h5 (fun k _ h => h.elim .inl fun h => .inr (by simpa using h))
            have HDp := Lib.hid (HD4.out.pushM HG.out h6 hO5)
            have hm5 := hO5.heap HD4.out.mod (row_ne HD4.out.mod HD4.out.maps.1 (by decide))
            have hfz : ∀ i, w5.frozen? ⟨gm, i, none⟩ = false := fun i => blk_free hm5 i
            have d0 := cells_of_heap hm5 0 _ rfl
            obtain ⟨_, ao5, c5, hv5, _⟩ := id h5.1
            obtain ⟨n5, hn5⟩ : ∃ n5, n5 = (ms ++ [m]).length := ⟨_, rfl⟩
            rw [← hn5] at hv5
            subst hv5
            clear h5 h6 hO5 hn5 hm5 HRL r0 r1 r2 r3 c0 hml2
            go_wp2_with fail
            go_roundw
            case rel => exact ⟨i + 1, p3, f3, 0, ms ++ [m], _, by omega, by go_num, by simp; omega, HDp, Lib.hid (.inl ⟨rfl, HT2.out.1, HT2.out.2⟩)⟩
            case measure => simp [intOf]; omega
        · have HT := Lib.hid (show decP b = .bad f3 e3 by
            rcases HS4.out with ⟨h, _⟩ | ⟨_, h⟩
            · exact absurd h he
            · exact h)
          have hq : (e3 != 0) = true := by simpa using he
          cases hd : decide (m ∈ ms)
          · go_wp2_with fail
            go_meet
            exact ⟨p3, f3, e3, ms, vm, by omega, HD3, Lib.hid (.inr ⟨he, HT.out⟩)⟩
          · go_wp2_with fail
            refine (fail_dead gr _ p3 f3 e3 12 w3 HD3.out.rdr he).mono ?_
            rintro en w5 ⟨rfl, rfl⟩
            go_wp2_with fail
            go_meet
            exact ⟨p3, f3, e3, ms, vm, by omega, HD3, Lib.hid (.inr ⟨he, HT.out⟩)⟩
      · obtain rfl : i = Nn := by omega
        have HS5 := Lib.hid (show StR b (decP b) (fun q => countP b ms q) p f e by
          have h := HS.out
          rw [show i - i = 0 by omega] at h
          exact h)
        go_wp2_with fail
        go_meet
        exact ⟨p, f, e, ms, vm, by omega, HD, HS5⟩
  case rest =>
    clear HD2 HS2
    obtain ⟨p, f, e, ms, vm, hml, HD, HS⟩ := hcut
    have HS1 := Lib.hid (show StR b (decP b) (fun q => fieldP b q 64 11 fun n q' => if n = 0 then .bad p 12 else codeP b ms n.toNat [] q') p f e from HS.out)
    clear HS
    go_wp2_with fail
    refine (number_st gr b _ p f e 64 11 wc (decP b) _ HD.out.rdr (HRD.out.only HD.out.only) HBY.out HNE.out (by omega) (by omega) HS1.out).mono ?_
    rintro en w3 ⟨N, p3, f3, e3, rfl, hR3, hO3, hN, hz3, hS3⟩
    obtain ⟨Cn, rfl⟩ : ∃ k : Nat, N = k := ⟨N.toNat, by omega⟩
    have hCn : Cn ≤ 64 := by omega
    have HD3 := Lib.hid (HD.out.call HG.out hO3 hR3)
    have HS4 := Lib.hid hS3
    have HZ3 := Lib.hid hz3
    clear hR3 hO3 hS3 hz3 HD HS1 hN
    go_upto_if 42 with (fail)
    go_cut [8] (fun t8 wd => t8 = .int .i64 (Cn : Int) ∧ ∃ (p f : Nat) (e : Int), Hid (DSt w g2 gr gm (.slice ao b.length cap) p f e ms [] vm (.slice none 0 0) wd) ∧ Hid (StR b (decP b) (fun q => codeP b ms Cn [] q) p f e))
    case first =>
      by_cases hC : Cn = 0
      · subst hC
        by_cases he : e3 = 0
        · subst he
          have HT := Lib.hid (show decP b = .bad f3 12 by
            rcases HS4.out with ⟨_, h1, h2⟩ | ⟨h, _⟩
            · rw [h2, HZ3.out.2 rfl]; rfl
            · exact absurd rfl h)
          go_wp2_with fail
          refine (fail_live gr _ p3 f3 12 w3 HD3.out.rdr).mono ?_
          rintro en w5 ⟨rfl, hR5, hO5⟩
          have HD5 := Lib.hid (HD3.out.call HG.out hO5 hR5)
          go_wp2_with fail
          go_meet
          exact ⟨by rfl, p3, f3, 12, HD5, Lib.hid (.inr ⟨by decide, HT.out⟩)⟩
        · have HT := Lib.hid (show decP b = .bad f3 e3 by
            rcases HS4.out with ⟨h, _⟩ | ⟨_, h⟩
            · exact absurd h he
            · exact h)
          go_wp2_with fail
          refine (fail_dead gr _ p3 f3 e3 12 w3 HD3.out.rdr he).mono ?_
          rintro en w5 ⟨rfl, rfl⟩
          go_wp2_with fail
          go_meet
          exact ⟨by rfl, p3, f3, e3, HD3, Lib.hid (.inr ⟨he, HT.out⟩)⟩
      · have hC1 : ((Cn : Int) == 0) = false := by rw [beq_eq_false_iff_ne]; omega
        have hC2 : ¬ (Cn : Int) = 0 := by omega
        have HS5 := Lib.hid (show StR b (decP b) (fun q => codeP b ms Cn [] q) p3 f3 e3 by
          rcases HS4.out with ⟨h, h2, h3⟩ | h
          · refine .inl ⟨h, h2, ?_⟩
            rw [h3]
            dsimp only
            rw [if_neg hC2, Int.toNat_natCast]
          · exact .inr h)
        go_wp2_with fail
        go_meet
        exact ⟨rfl, p3, f3, e3, HD3, HS5⟩
    case rest =>
      obtain ⟨rfl, p4, f4, e4, HD4, HS5⟩ := hcut
      clear HD3 HS4 HZ3
      go_upto_block 2 with (fail)
      go_cut [9] (fun _ wd => ∃ (p f : Nat) (e : Int) (cs : List InstD) (vc : Value), Hid (CodeOk e cs) ∧ Hid (DSt w g2 gr gm (.slice ao b.length cap) p f e ms cs vm vc wd) ∧ Hid (StR b (decP b) (fun q => trailP b ms cs q) p f e))
      case first =>
        go_wp2_with fail
        go_loopw [9] (fun t9 wr => ∃ (k p f : Nat) (e : Int) (cs : List InstD) (vc : Value), k ≤ Cn ∧ t9 = .int .i64 k ∧ cs.length ≤ k ∧ Hid (CodeOk e cs) ∧ Hid (DSt w g2 gr gm (.slice ao b.length cap) p f e ms cs vm vc wr) ∧ Hid (StR b (decP b) (fun q => codeP b ms (Cn - k) cs q) p f e)) (fun t9 _ => Cn - (intOf t9).toNat)
        case atStart => exact ⟨0, p4, f4, e4, [], _, Nat.zero_le _, rfl, by simp, Lib.hid (fun _ i hi => by simp at hi), HD4, HS5⟩
        case round =>
          clear HD4 HS5
          obtain ⟨k, p, f, e, cs, vc, hk, rfl, hcl, HI, HD, HS⟩ := hrel
          obtain ⟨r0, r1, r2, r3⟩ := HD.out.rdr.cells
          by_cases he : e = 0
          · subst he
            by_cases hlt : k < Cn
            · have hi1 : (k : Int) < (Cn : Int) := by omega
              have HT := Lib.hid (show p ≤ b.length ∧ decP b = inst1 b (fun i q => codeP b ms (Cn - (k + 1)) (cs ++ [i]) q) p by
                rcases HS.out with ⟨_, h1, h2⟩ | ⟨h, _⟩
                · refine ⟨h1, ?_⟩
                  rw [h2, show Cn - k = Cn - (k + 1) + 1 by omega]; rfl
                · exact absurd rfl h)
              have HGR := Lib.hid (show 0 < gr by have := HF.out.pos; have := HG.out.lr; omega)
              clear HS
              go_wp2_with fail
              have HDd := Lib.hid (HD.out.fresh ((Only.refl _ wr).drew_))
              have cm := cells_of_heap HD.out.mod 1 _ rfl
              clear r0 r1 r2 r3 HD
              refine wp_region_noPanic ?_
              refine wp_region_held_drew (S := fun _ => True) (by kernel_rfl) ?_ (fun hHeld => ?_)
              · exact trivial
              try simp only [Act.put, List.getElem_toArray, List.getElem_cons_succ, List.getElem_cons_zero, List.setIfInBounds_toArray, List.set_cons_zero, List.set_cons_succ]
              refine wpAnyH_take (i := 0) (v := ?vhy1) rfl (by kernel_rfl) (by kernel_rfl) (by kernel_rfl) (fun _ _ _ h => h) (Or.inl ⟨by rfl, ?hy1⟩) (by assumption) ?resthy1
              case hy1 =>
                intro w hSw
                try dsimp only at hSw
                go_simp
                all_goals with_reducible rfl
              simp only [Act.put, List.getElem_toArray, List.getElem_cons_succ, List.getElem_cons_zero, List.setIfInBounds_toArray, List.set_cons_zero, List.set_cons_succ]
              refine wpAnyH_take (i := 2) (v := ?vhy2) rfl (by kernel_rfl) (by kernel_rfl) (by kernel_rfl) (fun _ _ _ h => h) (Or.inl ⟨by rfl, ?hy2⟩) (by assumption) ?resthy2
              case hy2 =>
                intro w hSw
                try dsimp only at hSw
                go_simp
                all_goals with_reducible rfl
              simp only [Act.put, List.getElem_toArray, List.getElem_cons_succ, List.getElem_cons_zero, List.setIfInBounds_toArray, List.set_cons_zero, List.set_cons_succ]
              refine wpAnyH_ready (rs := [1, 3]) (by kernel_rfl) (by simp) ?_
              refine AllReadyH.cons rfl (fun K hK => ?_) (AllReadyH.cons rfl (fun K hK => ?_) AllReadyH.nil)
              · skip
                go_simp
                refine hK.out _ _ trivial (fun hHeld => ?_)
                clear hK K
                try simp only [Act.put, List.getElem_toArray, List.getElem_cons_succ, List.getElem_cons_zero, List.setIfInBounds_toArray, List.set_cons_zero, List.set_cons_succ]
                refine wpAnyH_ready (rs := [3]) (by kernel_rfl) (by simp) ?_
                refine AllReadyH.cons rfl (fun K hK => ?_) AllReadyH.nil
                go_simp
                refine (inst_st gr b _ p f _ (decP b) (fun i q => codeP b ms (Cn - (k + 1)) (cs ++ [i]) q) HDd.out.rdr (HRD.out.only HDd.out.only) HBY.out HNE.out (HF.out.only HDd.out.only) HGR.out HT.out.1 HT.out.2).mono ?_
                rintro en w5 ⟨i, p5, f5, e5, rfl, hR5, hO5, him, hS5⟩
                obtain ⟨op, d, a, x, im⟩ := i
                have HD5 := Lib.hid (HDd.out.call HG.out hO5 hR5)
                have HS5 := Lib.hid (show StR b (decP b) (fun q => codeP b ms (Cn - (k + 1)) (cs ++ [(op, d, a, x, im)]) q) p5 f5 e5 from hS5)
                have HIM := Lib.hid him
                have cm5 := cells_of_heap HD5.out.mod 1 _ rfl
                have hg5 := heap_lt HD5.out.mod
                clear hR5 hO5 hS5 him
                unfold InstD.v
                try go_wp2_with fail
                refine hK.out _ _ trivial (fun hHeld => ?_)
                clear hK K
                try simp only [Act.put, List.getElem_toArray, List.getElem_cons_succ, List.getElem_cons_zero, List.setIfInBounds_toArray, List.set_cons_zero, List.set_cons_succ]
                refine wpAnyH_ready (rs := [4]) (by kernel_rfl) (by simp) ?_
                refine AllReadyH.cons rfl (fun K hK => ?_) AllReadyH.nil
                go_simp
                have HD6 := Lib.hid (HD5.out.fresh (Only.alloc _ w5 (.cells #[.int .i64 op, .int .i64 d, .int .i64 a, .int .i64 x, .int .i64 im] 44)))
                have HRL := Lib.hid (Rd.lit (E := eInst) w5 #[.int .i64 op, .int .i64 d, .int .i64 a, .int .i64 x, .int .i64 im] 44 (0, 0) 1 1 [((op, d, a, x, im) : InstD)] rfl rfl (by simp) (by simp [maxLen]))
                refine hK.out _ _ trivial (fun hHeld => ?_)
                clear hK K
                try simp only [Act.put, List.getElem_toArray, List.getElem_cons_succ, List.getElem_cons_zero, List.setIfInBounds_toArray, List.set_cons_zero, List.set_cons_succ]
                refine wpAnyH_ready (rs := [5]) (by kernel_rfl) (by simp) ?_
                refine AllReadyH.cons rfl (fun K hK => ?_) AllReadyH.nil
                refine step_appS (E := eInst) (by rfl) (.tmp 58) (.tmp 61) _ (by rfl) 44 40 eInst_slice (fun k => vc.ownBlock = some k) _ cs (by rfl) ⟨HD6.out.code.1, fun k h => h⟩ _ [((op, d, a, x, im) : InstD)] (by rfl) HRL.out (by simp only [List.length_cons, List.length_nil]; omega) (by unfold maxLen; simp only [List.length_cons, List.length_nil]; omega) ?_
                intro v7 w7 h7 hO7
                have HDp := Lib.hid (HD6.out.pushC HG.out h7 hO7)
                have hm7 := hO7.heap HD6.out.mod (row_ne HD6.out.mod HD6.out.code.1 (by decide))
                have hfz : ∀ i, w7.frozen? ⟨gm, i, none⟩ = false := fun i => blk_free hm7 i
                have d1 := cells_of_heap hm7 1 _ rfl
                obtain ⟨_, ao7, c7, hv7, _⟩ := id h7.1
                obtain ⟨n7, hn7⟩ : ∃ n7, n7 = (cs ++ [((op, d, a, x, im) : InstD)]).length := ⟨_, rfl⟩
                rw [← hn7] at hv7
                subst hv7
                clear h7 hO7 hn7 hm7 HRL HD6 HD5 cm5 hg5
                refine hK.out _ _ trivial (fun hHeld => ?_)
                clear hK K
                try simp only [Act.put, List.getElem_toArray, List.getElem_cons_succ, List.getElem_cons_zero, List.setIfInBounds_toArray, List.set_cons_zero, List.set_cons_succ]
                refine wpAnyH_take (i := 6) (v := ?vhy3) rfl (by kernel_rfl) (by kernel_rfl) (by kernel_rfl) (fun _ _ _ h => h) (Or.inl ⟨by rfl, ?hy3⟩) (by assumption) ?resthy3
                case hy3 =>
                  intro w hSw
                  try dsimp only at hSw
                  go_simp
                  all_goals with_reducible rfl
                simp only [Act.put, List.getElem_toArray, List.getElem_cons_succ, List.getElem_cons_zero, List.setIfInBounds_toArray, List.set_cons_zero, List.set_cons_succ]
                refine wpAnyH_ready (rs := [7]) (by kernel_rfl) (by simp) ?_
                refine AllReadyH.cons rfl (fun K hK => ?_) AllReadyH.nil
                go_simp
                refine hK.out _ _ trivial (fun hHeld => ?_)
                clear hK K
                try simp only [Act.put, List.getElem_toArray, List.getElem_cons_succ, List.getElem_cons_zero, List.setIfInBounds_toArray, List.set_cons_zero, List.set_cons_succ]
                refine wpAnyH_done (by kernel_rfl) ?_ _
                refine NoPanic.normal ?_
                clear d1 hfz hHeld
                go_wp2_with fail
                go_roundw
                case rel => exact ⟨k + 1, p5, f5, e5, cs ++ [(op, d, a, x, im)], _, by omega, by go_num, by simp; omega, Lib.hid (fun h j hj => by
                  rcases List.mem_append.1 hj with hj | hj
                  · exact HI.out rfl j hj
                  · obtain rfl : j = (op, d, a, x, im) := by simpa using hj
                    exact HIM.out h), HDp, HS5⟩
                case measure => simp [intOf]; omega
              · skip
                go_simp
                refine (inst_st gr b _ p f _ (decP b) (fun i q => codeP b ms (Cn - (k + 1)) (cs ++ [i]) q) HDd.out.rdr (HRD.out.only HDd.out.only) HBY.out HNE.out (HF.out.only HDd.out.only) HGR.out HT.out.1 HT.out.2).mono ?_
                rintro en w5 ⟨i, p5, f5, e5, rfl, hR5, hO5, him, hS5⟩
                obtain ⟨op, d, a, x, im⟩ := i
                have HD5 := Lib.hid (HDd.out.call HG.out hO5 hR5)
                have HS5 := Lib.hid (show StR b (decP b) (fun q => codeP b ms (Cn - (k + 1)) (cs ++ [(op, d, a, x, im)]) q) p5 f5 e5 from hS5)
                have HIM := Lib.hid him
                have cm5 := cells_of_heap HD5.out.mod 1 _ rfl
                have hg5 := heap_lt HD5.out.mod
                clear hR5 hO5 hS5 him
                unfold InstD.v
                try go_wp2_with fail
                refine hK.out _ _ trivial (fun hHeld => ?_)
                clear hK K
                try simp only [Act.put, List.getElem_toArray, List.getElem_cons_succ, List.getElem_cons_zero, List.setIfInBounds_toArray, List.set_cons_zero, List.set_cons_succ]
                refine wpAnyH_ready (rs := [1, 4]) (by kernel_rfl) (by simp) ?_
                refine AllReadyH.cons rfl (fun K hK => ?_) (AllReadyH.cons rfl (fun K hK => ?_) AllReadyH.nil)
                · skip
                  go_simp
                  refine hK.out _ _ trivial (fun hHeld => ?_)
                  clear hK K
                  try simp only [Act.put, List.getElem_toArray, List.getElem_cons_succ, List.getElem_cons_zero, List.setIfInBounds_toArray, List.set_cons_zero, List.set_cons_succ]
                  refine wpAnyH_ready (rs := [4]) (by kernel_rfl) (by simp) ?_
                  refine AllReadyH.cons rfl (fun K hK => ?_) AllReadyH.nil
                  go_simp
                  have HD6 := Lib.hid (HD5.out.fresh (Only.alloc _ w5 (.cells #[.int .i64 op, .int .i64 d, .int .i64 a, .int .i64 x, .int .i64 im] 44)))
                  have HRL := Lib.hid (Rd.lit (E := eInst) w5 #[.int .i64 op, .int .i64 d, .int .i64 a, .int .i64 x, .int .i64 im] 44 (0, 0) 1 1 [((op, d, a, x, im) : InstD)] rfl rfl (by simp) (by simp [maxLen]))
                  refine hK.out _ _ trivial (fun hHeld => ?_)
                  clear hK K
                  try simp only [Act.put, List.getElem_toArray, List.getElem_cons_succ, List.getElem_cons_zero, List.setIfInBounds_toArray, List.set_cons_zero, List.set_cons_succ]
                  refine wpAnyH_ready (rs := [5]) (by kernel_rfl) (by simp) ?_
                  refine AllReadyH.cons rfl (fun K hK => ?_) AllReadyH.nil
                  refine step_appS (E := eInst) (by rfl) (.tmp 58) (.tmp 61) _ (by rfl) 44 40 eInst_slice (fun k => vc.ownBlock = some k) _ cs (by rfl) ⟨HD6.out.code.1, fun k h => h⟩ _ [((op, d, a, x, im) : InstD)] (by rfl) HRL.out (by simp only [List.length_cons, List.length_nil]; omega) (by unfold maxLen; simp only [List.length_cons, List.length_nil]; omega) ?_
                  intro v7 w7 h7 hO7
                  have HDp := Lib.hid (HD6.out.pushC HG.out h7 hO7)
                  have hm7 := hO7.heap HD6.out.mod (row_ne HD6.out.mod HD6.out.code.1 (by decide))
                  have hfz : ∀ i, w7.frozen? ⟨gm, i, none⟩ = false := fun i => blk_free hm7 i
                  have d1 := cells_of_heap hm7 1 _ rfl
                  obtain ⟨_, ao7, c7, hv7, _⟩ := id h7.1
                  obtain ⟨n7, hn7⟩ : ∃ n7, n7 = (cs ++ [((op, d, a, x, im) : InstD)]).length := ⟨_, rfl⟩
                  rw [← hn7] at hv7
                  subst hv7
                  clear h7 hO7 hn7 hm7 HRL HD6 HD5 cm5 hg5
                  refine hK.out _ _ trivial (fun hHeld => ?_)
                  clear hK K
                  try simp only [Act.put, List.getElem_toArray, List.getElem_cons_succ, List.getElem_cons_zero, List.setIfInBounds_toArray, List.set_cons_zero, List.set_cons_succ]
                  refine wpAnyH_take (i := 6) (v := ?vhy4) rfl (by kernel_rfl) (by kernel_rfl) (by kernel_rfl) (fun _ _ _ h => h) (Or.inl ⟨by rfl, ?hy4⟩) (by assumption) ?resthy4
                  case hy4 =>
                    intro w hSw
                    try dsimp only at hSw
                    go_simp
                    all_goals with_reducible rfl
                  simp only [Act.put, List.getElem_toArray, List.getElem_cons_succ, List.getElem_cons_zero, List.setIfInBounds_toArray, List.set_cons_zero, List.set_cons_succ]
                  refine wpAnyH_ready (rs := [7]) (by kernel_rfl) (by simp) ?_
                  refine AllReadyH.cons rfl (fun K hK => ?_) AllReadyH.nil
                  go_simp
                  refine hK.out _ _ trivial (fun hHeld => ?_)
                  clear hK K
                  try simp only [Act.put, List.getElem_toArray, List.getElem_cons_succ, List.getElem_cons_zero, List.setIfInBounds_toArray, List.set_cons_zero, List.set_cons_succ]
                  refine wpAnyH_done (by kernel_rfl) ?_ _
                  refine NoPanic.normal ?_
                  clear d1 hfz hHeld
                  go_wp2_with fail
                  go_roundw
                  case rel => exact ⟨k + 1, p5, f5, e5, cs ++ [(op, d, a, x, im)], _, by omega, by go_num, by simp; omega, Lib.hid (fun h j hj => by
                    rcases List.mem_append.1 hj with hj | hj
                    · exact HI.out rfl j hj
                    · obtain rfl : j = (op, d, a, x, im) := by simpa using hj
                      exact HIM.out h), HDp, HS5⟩
                  case measure => simp [intOf]; omega
                · skip
                  go_simp
                  have HD6 := Lib.hid (HD5.out.fresh (Only.alloc _ w5 (.cells #[.int .i64 op, .int .i64 d, .int .i64 a, .int .i64 x, .int .i64 im] 44)))
                  have HRL := Lib.hid (Rd.lit (E := eInst) w5 #[.int .i64 op, .int .i64 d, .int .i64 a, .int .i64 x, .int .i64 im] 44 (0, 0) 1 1 [((op, d, a, x, im) : InstD)] rfl rfl (by simp) (by simp [maxLen]))
                  refine hK.out _ _ trivial (fun hHeld => ?_)
                  clear hK K
                  try simp only [Act.put, List.getElem_toArray, List.getElem_cons_succ, List.getElem_cons_zero, List.setIfInBounds_toArray, List.set_cons_zero, List.set_cons_succ]
                  have cm6 := cells_of_heap HD6.out.mod 1 _ rfl
                  refine wpAnyH_ready (rs := [1]) (by kernel_rfl) (by simp) ?_
                  refine AllReadyH.cons rfl (fun K hK => ?_) AllReadyH.nil
                  go_simp
                  refine hK.out _ _ trivial (fun hHeld => ?_)
                  clear hK K
                  try simp only [Act.put, List.getElem_toArray, List.getElem_cons_succ, List.getElem_cons_zero, List.setIfInBounds_toArray, List.set_cons_zero, List.set_cons_succ]
                  refine wpAnyH_ready (rs := [5]) (by kernel_rfl) (by simp) ?_
                  refine AllReadyH.cons rfl (fun K hK => ?_) AllReadyH.nil
                  refine step_appS (E := eInst) (by rfl) (.tmp 58) (.tmp 61) _ (by rfl) 44 40 eInst_slice (fun k => vc.ownBlock = some k) _ cs (by rfl) ⟨HD6.out.code.1, fun k h => h⟩ _ [((op, d, a, x, im) : InstD)] (by rfl) HRL.out (by simp only [List.length_cons, List.length_nil]; omega) (by unfold maxLen; simp only [List.length_cons, List.length_nil]; omega) ?_
                  intro v7 w7 h7 hO7
                  have HDp := Lib.hid (HD6.out.pushC HG.out h7 hO7)
                  have hm7 := hO7.heap HD6.out.mod (row_ne HD6.out.mod HD6.out.code.1 (by decide))
                  have hfz : ∀ i, w7.frozen? ⟨gm, i, none⟩ = false := fun i => blk_free hm7 i
                  have d1 := cells_of_heap hm7 1 _ rfl
                  obtain ⟨_, ao7, c7, hv7, _⟩ := id h7.1
                  obtain ⟨n7, hn7⟩ : ∃ n7, n7 = (cs ++ [((op, d, a, x, im) : InstD)]).length := ⟨_, rfl⟩
                  rw [← hn7] at hv7
                  subst hv7
                  clear h7 hO7 hn7 hm7 HRL HD6 HD5 cm5 hg5
                  refine hK.out _ _ trivial (fun hHeld => ?_)
                  clear hK K
                  try simp only [Act.put, List.getElem_toArray, List.getElem_cons_succ, List.getElem_cons_zero, List.setIfInBounds_toArray, List.set_cons_zero, List.set_cons_succ]
                  refine wpAnyH_take (i := 6) (v := ?vhy5) rfl (by kernel_rfl) (by kernel_rfl) (by kernel_rfl) (fun _ _ _ h => h) (Or.inl ⟨by rfl, ?hy5⟩) (by assumption) ?resthy5
                  case hy5 =>
                    intro w hSw
                    try dsimp only at hSw
                    go_simp
                    all_goals with_reducible rfl
                  simp only [Act.put, List.getElem_toArray, List.getElem_cons_succ, List.getElem_cons_zero, List.setIfInBounds_toArray, List.set_cons_zero, List.set_cons_succ]
                  refine wpAnyH_ready (rs := [7]) (by kernel_rfl) (by simp) ?_
                  refine AllReadyH.cons rfl (fun K hK => ?_) AllReadyH.nil
                  go_simp
                  refine hK.out _ _ trivial (fun hHeld => ?_)
                  clear hK K
                  try simp only [Act.put, List.getElem_toArray, List.getElem_cons_succ, List.getElem_cons_zero, List.setIfInBounds_toArray, List.set_cons_zero, List.set_cons_succ]
                  refine wpAnyH_done (by kernel_rfl) ?_ _
                  refine NoPanic.normal ?_
                  clear d1 hfz hHeld
                  go_wp2_with fail
                  go_roundw
                  case rel => exact ⟨k + 1, p5, f5, e5, cs ++ [(op, d, a, x, im)], _, by omega, by go_num, by simp; omega, Lib.hid (fun h j hj => by
                    rcases List.mem_append.1 hj with hj | hj
                    · exact HI.out rfl j hj
                    · obtain rfl : j = (op, d, a, x, im) := by simpa using hj
                      exact HIM.out h), HDp, HS5⟩
                  case measure => simp [intOf]; omega
            · obtain rfl : k = Cn := by omega
              have HS6 := Lib.hid (show StR b (decP b) (fun q => trailP b ms cs q) p f 0 by
                have h := HS.out
                rw [show k - k = 0 by omega] at h
                exact h)
              go_wp2_with fail
              go_meet
              exact ⟨p, f, 0, cs, vc, HI, HD, HS6⟩
          · have hq : (e == 0) = false := by rw [beq_eq_false_iff_ne]; exact he
            have HT := Lib.hid (show decP b = .bad f e by
              rcases HS.out with ⟨h, _⟩ | ⟨_, h⟩
              · exact absurd h he
              · exact h)
            by_cases hlt : k < Cn
            · have hi1 : (k : Int) < (Cn : Int) := by omega
              go_wp2_with fail
              go_meet
              exact ⟨p, f, e, cs, vc, Lib.hid (fun h => absurd h he), HD, Lib.hid (.inr ⟨he, HT.out⟩)⟩
            · have hi1 : ¬ (k : Int) < (Cn : Int) := by omega
              go_wp2_with fail
              go_meet
              exact ⟨p, f, e, cs, vc, Lib.hid (fun h => absurd h he), HD, Lib.hid (.inr ⟨he, HT.out⟩)⟩
      case rest =>
        clear HD4 HS5
        obtain ⟨p, f, e, cs, vc, HI, HD, HS⟩ := hcut
        obtain ⟨r0, r1, r2, r3⟩ := HD.out.rdr.cells
        have hfz := HD.out.rdr.free
        by_cases he : e = 0
        · subst he
          have hS : p ≤ b.length ∧ decP b = trailP b ms cs p := by
            rcases HS.out with ⟨_, h1, h2⟩ | ⟨h, _⟩
            · exact ⟨h1, h2⟩
            · exact absurd rfl h
          by_cases hlt : p < b.length
          · have HT := Lib.hid (show decP b = .bad p 13 by rw [hS.2]; unfold trailP; rw [if_pos hlt])
            have hi1 : (p : Int) < (b.length : Int) := by omega
            clear hS HS
            go_wp2_with fail
            refine (fail_live gr _ p p 13 _ (HD.out.rdr.field p)).mono ?_
            rintro en w5 ⟨rfl, hR5, hO5⟩
            have HD5 := Lib.hid ((HD.out.call HG.out (Only.cellG (i := 2) (v := .int .i64 (p : Int))) (HD.out.rdr.field p)).call HG.out hO5 hR5)
            clear r0 r1 r2 r3 hfz hR5 hO5 HD
            obtain ⟨r0, r1, r2, r3⟩ := HD5.out.rdr.cells
            go_wp2_with fail
            refine wp_region_noPanic ?_
            refine wp_region_held_drew (S := fun w' => w'.cell? ⟨gr, 2, none⟩ = some (.int .i64 (p : Int)) ∧ w'.cell? ⟨gr, 3, none⟩ = some (.int .i64 13)) (by kernel_rfl) ?_ (fun hHeld => ?_)
            · exact ⟨r2, r3⟩
            try simp only [Act.put, List.getElem_toArray, List.getElem_cons_succ, List.getElem_cons_zero, List.setIfInBounds_toArray, List.set_cons_zero, List.set_cons_succ]
            refine wpAnyH_take (i := 0) (v := ?vhy6) rfl (by kernel_rfl) (by kernel_rfl) (by kernel_rfl) (fun _ _ _ h => h) (Or.inl ⟨by rfl, ?hy6⟩) (by assumption) ?resthy6
            case hy6 =>
              intro w hSw
              try dsimp only at hSw
              go_simp
              all_goals with_reducible rfl
            simp only [Act.put, List.getElem_toArray, List.getElem_cons_succ, List.getElem_cons_zero, List.setIfInBounds_toArray, List.set_cons_zero, List.set_cons_succ]
            refine wpAnyH_take (i := 1) (v := ?vhy7) rfl (by kernel_rfl) (by kernel_rfl) (by kernel_rfl) (fun _ _ _ h => h) (Or.inl ⟨by rfl, ?hy7⟩) (by assumption) ?resthy7
            case hy7 =>
              intro w hSw
              try dsimp only at hSw
              go_simp
              all_goals with_reducible rfl
            simp only [Act.put, List.getElem_toArray, List.getElem_cons_succ, List.getElem_cons_zero, List.setIfInBounds_toArray, List.set_cons_zero, List.set_cons_succ]
            refine wpAnyH_take (i := 2) (v := ?vhy8) rfl (by kernel_rfl) (by kernel_rfl) (by kernel_rfl) (fun _ _ _ h => h) (Or.inl ⟨by rfl, ?hy8⟩) (by assumption) ?resthy8
            case hy8 =>
              intro w hSw
              try dsimp only at hSw
              go_simp
              all_goals with_reducible rfl
            simp only [Act.put, List.getElem_toArray, List.getElem_cons_succ, List.getElem_cons_zero, List.setIfInBounds_toArray, List.set_cons_zero, List.set_cons_succ]
            refine wpAnyH_take (i := 3) (v := ?vhy9) rfl (by kernel_rfl) (by kernel_rfl) (by kernel_rfl) (fun _ _ _ h => h) (Or.inl ⟨by rfl, ?hy9⟩) (by assumption) ?resthy9
            case hy9 =>
              intro w hSw
              try dsimp only at hSw
              go_simp
              all_goals with_reducible rfl
            simp only [Act.put, List.getElem_toArray, List.getElem_cons_succ, List.getElem_cons_zero, List.setIfInBounds_toArray, List.set_cons_zero, List.set_cons_succ]
            refine wpAnyH_take (i := 4) (v := ?vhy10) rfl (by kernel_rfl) (by kernel_rfl) (by kernel_rfl) (fun _ _ _ h => h) (Or.inl ⟨by rfl, ?hy10⟩) (by assumption) ?resthy10
            case hy10 =>
              intro w hSw
              try dsimp only at hSw
              go_simp
              all_goals with_reducible rfl
            simp only [Act.put, List.getElem_toArray, List.getElem_cons_succ, List.getElem_cons_zero, List.setIfInBounds_toArray, List.set_cons_zero, List.set_cons_succ]
            refine wpAnyH_take (i := 5) (v := ?vhy11) rfl (by kernel_rfl) (by kernel_rfl) (by kernel_rfl) (fun _ _ _ h => h) (Or.inl ⟨by rfl, ?hy11⟩) (by assumption) ?resthy11
            case hy11 =>
              intro w hSw
              try dsimp only at hSw
              go_simp
              all_goals with_reducible rfl
            simp only [Act.put, List.getElem_toArray, List.getElem_cons_succ, List.getElem_cons_zero, List.setIfInBounds_toArray, List.set_cons_zero, List.set_cons_succ]
            refine wpAnyH_take (i := 6) (v := ?vhy12) rfl (by kernel_rfl) (by kernel_rfl) (by kernel_rfl) (fun _ _ _ h => h) (Or.inl ⟨by rfl, ?hy12⟩) (by assumption) ?resthy12
            case hy12 =>
              intro w hSw
              try dsimp only at hSw
              go_simp
              all_goals with_reducible rfl
            simp only [Act.put, List.getElem_toArray, List.getElem_cons_succ, List.getElem_cons_zero, List.setIfInBounds_toArray, List.set_cons_zero, List.set_cons_succ]
            refine wpAnyH_take (i := 7) (v := ?vhy13) rfl (by kernel_rfl) (by kernel_rfl) (by kernel_rfl) (fun _ _ _ h => h) (Or.inl ⟨by rfl, ?hy13⟩) (by assumption) ?resthy13
            case hy13 =>
              intro w hSw
              try dsimp only at hSw
              go_simp
              all_goals with_reducible rfl
            simp only [Act.put, List.getElem_toArray, List.getElem_cons_succ, List.getElem_cons_zero, List.setIfInBounds_toArray, List.set_cons_zero, List.set_cons_succ]
            refine wpAnyH_take (i := 8) (v := ?vhy14) rfl (by kernel_rfl) (by kernel_rfl) (by kernel_rfl) (fun _ _ _ h => h) (Or.inl ⟨by rfl, ?hy14⟩) (by assumption) ?resthy14
            case hy14 =>
              intro w hSw
              try dsimp only at hSw
              go_simp
              all_goals with_reducible rfl
            simp only [Act.put, List.getElem_toArray, List.getElem_cons_succ, List.getElem_cons_zero, List.setIfInBounds_toArray, List.set_cons_zero, List.set_cons_succ]
            refine wpAnyH_ready (rs := [9]) (by kernel_rfl) (by simp) ?_
            refine AllReadyH.cons rfl (fun K hK => ?_) AllReadyH.nil
            rw [if_pos (by rfl)]
            refine wp_store_row 25 (.tmp 2) (.tmp 92) rfl g2 _ rfl rfl 25 _ (show (World.drew _).heap[g2]? = _ from HD5.out.res) (by kernel_rfl) rfl (by simp [Value.oneCell']) ?_
            have hRz := (only_setRow _ g2 #[Value.slice none 0 0, Value.slice none 0 0]).heap (show RdrB gr _ _ _ _ (World.drew _) from HD5.out.rdr) (fun h => HG.out.n2r h.symm)
            have z2 := cells_of_heap hRz 2 _ rfl
            have z3 := cells_of_heap hRz 3 _ rfl
            refine hK.out _ _ ⟨z2, z3⟩ (fun hHeld => ?_)
            clear hK K
            try simp only [Act.put, List.getElem_toArray, List.getElem_cons_succ, List.getElem_cons_zero, List.setIfInBounds_toArray, List.set_cons_zero, List.set_cons_succ]
            refine wpAnyH_take (i := 10) (v := ?vhy15) rfl (by kernel_rfl) (by kernel_rfl) (by kernel_rfl) (fun _ _ _ h => h) (Or.inl ⟨by rfl, ?hy15⟩) (by assumption) ?resthy15
            case hy15 =>
              intro w hSw
              try dsimp only at hSw
              go_simp
              all_goals with_reducible rfl
            simp only [Act.put, List.getElem_toArray, List.getElem_cons_succ, List.getElem_cons_zero, List.setIfInBounds_toArray, List.set_cons_zero, List.set_cons_succ]
            refine wpAnyH_take (i := 11) (v := ?vhy16) rfl (by kernel_rfl) (by kernel_rfl) (by kernel_rfl) (fun _ _ _ h => h) (Or.inl ⟨by rfl, ?hy16⟩) (by assumption) ?resthy16
            case hy16 =>
              intro w hSw
              try dsimp only at hSw
              go_simp
              all_goals with_reducible rfl
            simp only [Act.put, List.getElem_toArray, List.getElem_cons_succ, List.getElem_cons_zero, List.setIfInBounds_toArray, List.set_cons_zero, List.set_cons_succ]
            refine wpAnyH_done (by kernel_rfl) ?_ _
            refine NoPanic.normal ?_
            clear z2 z3 hRz hHeld
            go_wp2_with fail
            refine bodyPost_ret (results_cell_row_tmp2 rfl _ _ g2 _ _ _ _ rfl (setRow_heap _ _ _ _ _ _ (show (World.drew _).heap[g2]? = _ from HD5.out.res)) Tryd.underlying25 rfl (by kernel_rfl)) rfl ?_
            exact ⟨(HD5.out.only.drew_).trans (only_setRow _ g2 _) fun k hk e => by have := HG.out.l2; omega, .inr ⟨_, _, HT.out, rfl⟩⟩
          · have HT := Lib.hid (show decP b = .ok ms cs by rw [hS.2]; unfold trailP; rw [if_neg hlt])
            have hi1 : ¬ (p : Int) < (b.length : Int) := by omega
            clear hS HS
            obtain ⟨_, am, cm, rfl, _⟩ := id HD.out.maps.1
            obtain ⟨_, ac, cc, rfl, _⟩ := id HD.out.code.1
            have m0 := cells_of_heap HD.out.mod 0 _ rfl
            have m1 := cells_of_heap HD.out.mod 1 _ rfl
            go_wp2_with (refine wpList_store_row rfl 25 (.tmp 2) (.tmp 101) rfl g2 _ rfl rfl 25 _ HD.out.res (by kernel_rfl) rfl (by simp [Value.oneCell']) ?_)
            refine bodyPost_ret (results_cell_row_tmp2 rfl _ _ g2 _ _ _ _ rfl (setRow_heap _ _ _ _ _ _ HD.out.res) Tryd.underlying25 rfl (by kernel_rfl)) rfl ?_
            refine ⟨HD.out.only.trans (only_setRow _ g2 _) fun k hk e => by have := HG.out.l2; omega, .inl ⟨ms, cs, _, _, HT.out, HI.out rfl, rfl, ?_, ?_⟩⟩
            · exact HD.out.maps.keepT (only_setRow _ g2 _) fun k hk e => row_ne HD.out.res HD.out.maps.1 (by decide) (by rw [hk, e])
            · exact HD.out.code.keepT (only_setRow _ g2 _) fun k hk e => row_ne HD.out.res HD.out.code.1 (by decide) (by rw [hk, e])
        · have hq : (e == 0) = false := by rw [beq_eq_false_iff_ne]; exact he
          have hq2 : (e != 0) = true := by rw [bne_iff_ne]; exact he
          have HT := Lib.hid (show decP b = .bad f e by
            rcases HS.out with ⟨h, _⟩ | ⟨_, h⟩
            · exact absurd h he
            · exact h)
          clear HS
          go_wp2_with fail
          refine wp_region_noPanic ?_
          refine wp_region_held_drew (S := fun w' => w'.cell? ⟨gr, 2, none⟩ = some (.int .i64 (f : Int)) ∧ w'.cell? ⟨gr, 3, none⟩ = some (.int .i64 e)) (by kernel_rfl) ?_ (fun hHeld => ?_)
          · exact ⟨r2, r3⟩
          try simp only [Act.put, List.getElem_toArray, List.getElem_cons_succ, List.getElem_cons_zero, List.setIfInBounds_toArray, List.set_cons_zero, List.set_cons_succ]
          refine wpAnyH_take (i := 0) (v := ?vhy17) rfl (by kernel_rfl) (by kernel_rfl) (by kernel_rfl) (fun _ _ _ h => h) (Or.inl ⟨by rfl, ?hy17⟩) (by assumption) ?resthy17
          case hy17 =>
            intro w hSw
            try dsimp only at hSw
            go_simp
            all_goals with_reducible rfl
          simp only [Act.put, List.getElem_toArray, List.getElem_cons_succ, List.getElem_cons_zero, List.setIfInBounds_toArray, List.set_cons_zero, List.set_cons_succ]
          refine wpAnyH_take (i := 1) (v := ?vhy18) rfl (by kernel_rfl) (by kernel_rfl) (by kernel_rfl) (fun _ _ _ h => h) (Or.inl ⟨by rfl, ?hy18⟩) (by assumption) ?resthy18
          case hy18 =>
            intro w hSw
            try dsimp only at hSw
            go_simp
            all_goals with_reducible rfl
          simp only [Act.put, List.getElem_toArray, List.getElem_cons_succ, List.getElem_cons_zero, List.setIfInBounds_toArray, List.set_cons_zero, List.set_cons_succ]
          refine wpAnyH_take (i := 2) (v := ?vhy19) rfl (by kernel_rfl) (by kernel_rfl) (by kernel_rfl) (fun _ _ _ h => h) (Or.inl ⟨by rfl, ?hy19⟩) (by assumption) ?resthy19
          case hy19 =>
            intro w hSw
            try dsimp only at hSw
            go_simp
            all_goals with_reducible rfl
          simp only [Act.put, List.getElem_toArray, List.getElem_cons_succ, List.getElem_cons_zero, List.setIfInBounds_toArray, List.set_cons_zero, List.set_cons_succ]
          refine wpAnyH_take (i := 3) (v := ?vhy20) rfl (by kernel_rfl) (by kernel_rfl) (by kernel_rfl) (fun _ _ _ h => h) (Or.inl ⟨by rfl, ?hy20⟩) (by assumption) ?resthy20
          case hy20 =>
            intro w hSw
            try dsimp only at hSw
            go_simp
            all_goals with_reducible rfl
          simp only [Act.put, List.getElem_toArray, List.getElem_cons_succ, List.getElem_cons_zero, List.setIfInBounds_toArray, List.set_cons_zero, List.set_cons_succ]
          refine wpAnyH_take (i := 4) (v := ?vhy21) rfl (by kernel_rfl) (by kernel_rfl) (by kernel_rfl) (fun _ _ _ h => h) (Or.inl ⟨by rfl, ?hy21⟩) (by assumption) ?resthy21
          case hy21 =>
            intro w hSw
            try dsimp only at hSw
            go_simp
            all_goals with_reducible rfl
          simp only [Act.put, List.getElem_toArray, List.getElem_cons_succ, List.getElem_cons_zero, List.setIfInBounds_toArray, List.set_cons_zero, List.set_cons_succ]
          refine wpAnyH_take (i := 5) (v := ?vhy22) rfl (by kernel_rfl) (by kernel_rfl) (by kernel_rfl) (fun _ _ _ h => h) (Or.inl ⟨by rfl, ?hy22⟩) (by assumption) ?resthy22
          case hy22 =>
            intro w hSw
            try dsimp only at hSw
            go_simp
            all_goals with_reducible rfl
          simp only [Act.put, List.getElem_toArray, List.getElem_cons_succ, List.getElem_cons_zero, List.setIfInBounds_toArray, List.set_cons_zero, List.set_cons_succ]
          refine wpAnyH_take (i := 6) (v := ?vhy23) rfl (by kernel_rfl) (by kernel_rfl) (by kernel_rfl) (fun _ _ _ h => h) (Or.inl ⟨by rfl, ?hy23⟩) (by assumption) ?resthy23
          case hy23 =>
            intro w hSw
            try dsimp only at hSw
            go_simp
            all_goals with_reducible rfl
          simp only [Act.put, List.getElem_toArray, List.getElem_cons_succ, List.getElem_cons_zero, List.setIfInBounds_toArray, List.set_cons_zero, List.set_cons_succ]
          refine wpAnyH_take (i := 7) (v := ?vhy24) rfl (by kernel_rfl) (by kernel_rfl) (by kernel_rfl) (fun _ _ _ h => h) (Or.inl ⟨by rfl, ?hy24⟩) (by assumption) ?resthy24
          case hy24 =>
            intro w hSw
            try dsimp only at hSw
            go_simp
            all_goals with_reducible rfl
          simp only [Act.put, List.getElem_toArray, List.getElem_cons_succ, List.getElem_cons_zero, List.setIfInBounds_toArray, List.set_cons_zero, List.set_cons_succ]
          refine wpAnyH_take (i := 8) (v := ?vhy25) rfl (by kernel_rfl) (by kernel_rfl) (by kernel_rfl) (fun _ _ _ h => h) (Or.inl ⟨by rfl, ?hy25⟩) (by assumption) ?resthy25
          case hy25 =>
            intro w hSw
            try dsimp only at hSw
            go_simp
            all_goals with_reducible rfl
          simp only [Act.put, List.getElem_toArray, List.getElem_cons_succ, List.getElem_cons_zero, List.setIfInBounds_toArray, List.set_cons_zero, List.set_cons_succ]
          refine wpAnyH_ready (rs := [9]) (by kernel_rfl) (by simp) ?_
          refine AllReadyH.cons rfl (fun K hK => ?_) AllReadyH.nil
          rw [if_pos (by rfl)]
          refine wp_store_row 25 (.tmp 2) (.tmp 92) rfl g2 _ rfl rfl 25 _ (show (World.drew _).heap[g2]? = _ from HD.out.res) (by kernel_rfl) rfl (by simp [Value.oneCell']) ?_
          have hRz := (only_setRow _ g2 #[Value.slice none 0 0, Value.slice none 0 0]).heap (show RdrB gr _ _ _ _ (World.drew _) from HD.out.rdr) (fun h => HG.out.n2r h.symm)
          have z2 := cells_of_heap hRz 2 _ rfl
          have z3 := cells_of_heap hRz 3 _ rfl
          refine hK.out _ _ ⟨z2, z3⟩ (fun hHeld => ?_)
          clear hK K
          try simp only [Act.put, List.getElem_toArray, List.getElem_cons_succ, List.getElem_cons_zero, List.setIfInBounds_toArray, List.set_cons_zero, List.set_cons_succ]
          refine wpAnyH_take (i := 10) (v := ?vhy26) rfl (by kernel_rfl) (by kernel_rfl) (by kernel_rfl) (fun _ _ _ h => h) (Or.inl ⟨by rfl, ?hy26⟩) (by assumption) ?resthy26
          case hy26 =>
            intro w hSw
            try dsimp only at hSw
            go_simp
            all_goals with_reducible rfl
          simp only [Act.put, List.getElem_toArray, List.getElem_cons_succ, List.getElem_cons_zero, List.setIfInBounds_toArray, List.set_cons_zero, List.set_cons_succ]
          refine wpAnyH_take (i := 11) (v := ?vhy27) rfl (by kernel_rfl) (by kernel_rfl) (by kernel_rfl) (fun _ _ _ h => h) (Or.inl ⟨by rfl, ?hy27⟩) (by assumption) ?resthy27
          case hy27 =>
            intro w hSw
            try dsimp only at hSw
            go_simp
            all_goals with_reducible rfl
          simp only [Act.put, List.getElem_toArray, List.getElem_cons_succ, List.getElem_cons_zero, List.setIfInBounds_toArray, List.set_cons_zero, List.set_cons_succ]
          refine wpAnyH_done (by kernel_rfl) ?_ _
          refine NoPanic.normal ?_
          clear z2 z3 hRz hHeld
          go_wp2_with fail
          refine bodyPost_ret (results_cell_row_tmp2 rfl _ _ g2 _ _ _ _ rfl (setRow_heap _ _ _ _ _ _ (show (World.drew _).heap[g2]? = _ from HD.out.res)) Tryd.underlying25 rfl (by kernel_rfl)) rfl ?_
          exact ⟨(HD.out.only.drew_).trans (only_setRow _ g2 _) fun k hk e => by have := HG.out.l2; omega, .inr ⟨_, _, HT.out, rfl⟩⟩
end Go.Proofs.YtkocfgaajghggaaDoor
