/- The law HooksMany: its walk. -/
import Derived.Test.YthemkcgifefjmaaHooksT
import Derived.Deep.DeepCutAuto
import Derived.Deep.CutBlock
namespace Go.Proofs.Ythemkcgifefjmaa
open Go.RowKit
set_option linter.unusedVariables false

abbrev eB : Enc Bool := ⟨1, by omega, fun b => [.bool b], fun _ => rfl, fun x u h => by simp at h; subst h; rfl⟩
theorem zeroB : ZeroInfo Try.prog 45 4 eB false 1 := ZeroInfo.mk' Try.underlying45 (z := .bool false) (by kernel_rfl) rfl

def there (hs : List Pub) (x : Int) : Bool := (currentOf hs x).2.2
theorem there_iff (hs : List Pub) (x : Int) : there hs x = true ↔ ¬ bad hs x ∧ 0 < (getH hs x).1 := by
  unfold there currentOf
  by_cases h1 : bad hs x
  · simp [h1]
  · by_cases h2 : 0 < (getH hs x).1 <;> simp [h1, h2]
def mayB (hs : List Pub) (l : List Int) : Bool := l.all (there hs) && decide l.Nodup
theorem mayB_iff (hs : List Pub) (l : List Int) : mayB hs l = true ↔ okL hs l ∧ takenL hs l := by
  unfold mayB okL takenL
  rw [Bool.and_eq_true, List.all_eq_true, decide_eq_true_iff]
  constructor
  · exact fun ⟨h1, h2⟩ => ⟨⟨fun h hh => ((there_iff hs h).1 (h1 h hh)).1, h2⟩, fun h hh => ((there_iff hs h).1 (h1 h hh)).2⟩
  · exact fun ⟨⟨h1, h2⟩, h3⟩ => ⟨fun h hh => (there_iff hs h).2 ⟨h1 h hh, h3 h hh⟩, h2⟩
theorem mayB_step {hs : List Pub} {l : List Int} {i : Nat} (hi : i < l.length) : mayB hs (l.take (i + 1)) = (mayB hs (l.take i) && there hs l[i] && decide (l[i] ∉ l.take i)) := by
  rw [List.take_succ_eq_append_getElem hi]
  have hn : decide (l.take i ++ [l[i]]).Nodup = (decide (l.take i).Nodup && decide (l[i] ∉ l.take i)) := by
    rw [← Bool.decide_and, decide_eq_decide, List.nodup_append]
    constructor
    · exact fun ⟨h1, _, h3⟩ => ⟨h1, fun h => h3 _ h _ (by simp) rfl⟩
    · exact fun ⟨h1, h2⟩ => ⟨h1, by simp, fun a ha b hb => by rw [List.mem_singleton.1 hb]; rintro rfl; exact h2 ha⟩
  unfold mayB
  rw [hn, List.all_append]
  simp only [List.all_cons, List.all_nil, Bool.and_true]
  generalize (l.take i).all (there hs) = a
  generalize there hs l[i] = b
  generalize decide (l.take i).Nodup = c
  generalize decide (l[i] ∉ l.take i) = d
  cases a <;> cases b <;> cases c <;> cases d <;> rfl
theorem detach_code (hs : List Pub) (l : List Int) : ((detachOf hs l).1 == 0) = mayB hs l := by
  have hm := mayB_iff hs l
  unfold detachOf
  by_cases h1 : okL hs l
  · by_cases h2 : takenL hs l
    · rw [if_pos h1, if_pos h2, hm.2 ⟨h1, h2⟩]; rfl
    · rw [if_pos h1, if_neg h2]
      have : mayB hs l = false := by cases hh : mayB hs l; rfl; exact absurd (hm.1 hh).2 h2
      rw [this]; rfl
  · rw [if_neg h1]
    have : mayB hs l = false := by cases hh : mayB hs l; rfl; exact absurd (hm.1 hh).1 h1
    rw [this]; rfl
theorem getH_set (hs : List Pub) (x h : Int) (hx : ¬ bad hs x) (hh : ¬ bad hs h) : getH (hs.set x.toNat (0, 0)) h = if x = h then (0, 0) else getH hs h := by
  unfold bad at hx hh
  unfold getH
  rw [List.getElem?_set]
  by_cases e : x = h
  · subst e
    rw [if_pos rfl, if_pos (by omega), if_pos rfl]; rfl
  · rw [if_neg (by omega), if_neg e]
theorem bad_set (hs : List Pub) (x h : Int) : bad (hs.set x.toNat (0, 0)) h ↔ bad hs h := by unfold bad; simp
theorem getH_clear (l : List Int) (hs : List Pub) (h : Int) (hl : ∀ x ∈ l, ¬ bad hs x) (hh : ¬ bad hs h) : getH (clearL hs l) h = if h ∈ l then (0, 0) else getH hs h := by
  induction l generalizing hs with
  | nil => simp [clearL]
  | cons x l ih =>
    have h1 := ih (hs.set x.toNat (0, 0)) (fun y hy hb => hl y (by simp [hy]) ((bad_set hs x y).1 hb)) (fun hb => hh ((bad_set hs x h).1 hb))
    have h2 : clearL hs (x :: l) = clearL (hs.set x.toNat (0, 0)) l := rfl
    rw [h2, h1, getH_set hs x h (hl x (by simp)) hh]
    by_cases e : h ∈ l
    · simp [e]
    · by_cases e2 : x = h
      · subst e2; simp [e]
      · have : h ≠ x := fun h => e2 h.symm
        simp [e, e2, this]
theorem there_after (hs : List Pub) (l : List Int) (h : Int) : there (detachOf hs l).2 h = (there hs h && !(mayB hs l && decide (h ∈ l))) := by
  have hm := mayB_iff hs l
  by_cases h12 : okL hs l ∧ takenL hs l
  · have e : (detachOf hs l).2 = clearL hs l := by unfold detachOf; rw [if_pos h12.1, if_pos h12.2]
    rw [e, hm.2 h12, Bool.true_and, Bool.eq_iff_iff, there_iff, Bool.and_eq_true, there_iff]
    have hb : bad (clearL hs l) h ↔ bad hs h := by unfold bad; rw [clearL_len]
    by_cases hbb : bad hs h
    · simp [hb, hbb]
    · rw [hb, getH_clear l hs h h12.1.1 hbb]
      by_cases hin : h ∈ l <;> simp [hin, hbb]
  · have e : (detachOf hs l).2 = hs := by
      unfold detachOf
      by_cases h1 : okL hs l
      · rw [if_pos h1, if_neg (fun h2 => h12 ⟨h1, h2⟩)]
      · rw [if_neg h1]
    have : mayB hs l = false := by cases hh : mayB hs l; rfl; exact absurd (hm.1 hh) h12
    rw [e, this]; simp
/-- what was there, of the first j hooks -/
def befores (hs : List Pub) (j : Nat) : List Bool := (List.range 4).map fun i => if i < j then there hs (i : Int) else false
theorem befores_step (hs : List Pub) (j : Nat) (hj : j < 4) : (befores hs j).set j (there hs (j : Int)) = befores hs (j + 1) := by
  unfold befores
  refine List.ext_getElem (by simp) fun m h1 h2 => ?_
  simp at h1
  rw [List.getElem_set]
  by_cases e : j = m
  · subst e; simp
  · rw [if_neg e]; simp; have : (m < j) ↔ (m < j + 1) := by omega
    simp [this]
theorem befores_len (hs : List Pub) (j : Nat) : (befores hs j).length = 4 := by simp [befores]
theorem befores_zero (hs : List Pub) : befores hs 0 = [false, false, false, false] := by simp [befores, List.range, List.range.loop]
theorem befores_at (hs : List Pub) (h : Nat) (hh : h < 4) : (befores hs 4)[h]'(by rw [befores_len]; exact hh) = there hs (h : Int) := by simp [befores, hh]

theorem notin_step {l : List Int} {j : Nat} (hj : j < l.length) (x : Int) : decide (x ∉ l.take (j + 1)) = (decide (x ∉ l.take j) && decide (l[j] ≠ x)) := by
  rw [List.take_succ_eq_append_getElem hj, ← Bool.decide_and, decide_eq_decide, List.mem_append, List.mem_singleton]
  constructor
  · exact fun h => ⟨fun h1 => h (.inl h1), fun h2 => h (.inr h2.symm)⟩
  · exact fun ⟨h1, h2⟩ h => h.elim h1 fun h3 => h2 h3.symm
theorem in_step {l : List Int} {j : Nat} (hj : j < l.length) (x : Int) : decide (x ∈ l.take (j + 1)) = (decide (x ∈ l.take j) || decide (l[j] = x)) := by
  rw [List.take_succ_eq_append_getElem hj, ← Bool.decide_or, decide_eq_decide, List.mem_append, List.mem_singleton]
  exact ⟨fun h => h.imp_right Eq.symm, fun h => h.imp_right Eq.symm⟩
/-- a list of numbers that came in, or is one's own: an element -/
theorem ints_at {xs : List Int} {ao : Option Addr} {n cap : Nat} {w : World} (h : Rd (eInt .i64) w (.slice ao n cap) xs) (i : Nat) (hi : i < xs.length) : ∃ b off, ao = some ⟨b, off, none⟩ ∧ w.cell? ⟨b, off + i, none⟩ = some (.int .i64 xs[i]) := by
  obtain ⟨_, ao', cap', e, _, _, hx⟩ := h
  obtain ⟨rfl, _, rfl⟩ : ao = ao' ∧ n = xs.length ∧ cap = cap' := by simpa using e
  obtain ⟨b, off, rfl, hc⟩ := hx (by omega)
  exact ⟨b, off, rfl, hc i _ (eInt_at .i64 xs i hi)⟩

set_option maxRecDepth 100000 in
set_option maxHeartbeats 8000000 in
theorem hooksMany_yes (n : Nat) (ops : List OpD) (v : Value) (ls : List Int) (vl : Value) (w : World) (h1 : 1 ≤ n) (h4 : n ≤ 4) (hv : Rd eOp w v ops) (hl : ops.length * 48 ≤ 140737488351232) (hvl : Rd (eInt .i64) w vl ls) (hll : ls.length ≤ 100) :
    Calls Try.prog 5 #[.int .i64 (n : Int), v, vl] w fun e w' => e = .returned (.bool true) ∧ Below w.heap.size w w' := by
  obtain ⟨_, ao, cap, rfl, hcap, _, _⟩ := id hv
  obtain ⟨_, lo, lc, rfl, hlc, _, _⟩ := id hvl
  have HVL := Lib.hid hvl
  obtain ⟨L, hL⟩ : ∃ L, L = ls.length := ⟨_, rfl⟩
  have HL := Lib.hid hL
  rw [← hL] at hll hlc HVL
  rw [← hL]
  clear hL hvl
  go_enter Try.func5, Try.ntmps5
  go_wp2_with fail
  refine (awake_any _).mono ?_
  rintro e w1 ⟨rfl, hb1⟩
  go_wp2_with fail
  refine (new_any n _ h1 h4).mono ?_
  rintro e w2 ⟨g, rfl, hT, hO2⟩
  obtain ⟨tag2, A2, f2, n2, k2⟩ := (Arena.of_below hb1 (Nat.le_refl _)).step hO2 1 (fun _ h => h.elim)
  have hT2 := n2 _ TabS.framed (TabS.framed.mono _ _ _ hT (fun k _ h => .inr h))
  have hI : TSt No No g w 0 (List.replicate n (0, 0)) w2 := ⟨tag2, A2, hT2, trivial, trivial⟩
  clear hT hT2 f2 n2 k2 hO2 A2 hb1
  go_wp2_with fail
  go_loopw [9] (fun i wr => ∃ (k : Nat) (last : Int) (hs : List Pub), k ≤ ops.length ∧ i = .int .i64 k ∧ TSt No No g w last hs wr ∧ hs.length = n ∧ 0 ≤ last ∧ last ≤ k) (fun i _ => ops.length - (intOf i).toNat)
  case atStart => exact ⟨0, 0, _, Nat.zero_le _, rfl, hI, by simp, by omega, by omega⟩
  case round =>
    clear hI
    obtain ⟨k, last, hs, hk, rfl, V, hln, hl0, hlk⟩ := hrel
    by_cases hlt : k < ops.length
    · obtain ⟨_, ao', cap', hao, _, _, hx⟩ := hv.grow V.below
      obtain ⟨rfl, _, rfl⟩ : ao = ao' ∧ ops.length = ops.length ∧ cap = cap' := by simpa using hao
      obtain ⟨b, off, rfl, hc⟩ := hx (by omega)
      have c1 : wr.cell? ⟨b, off + k * 4 + 1, none⟩ = some (.int .i64 ops[k].2.1) := by have := hc (k * 4 + 1) _ ((eOp.all_at ops k 1 hlt (by decide)).trans rfl); rw [← Nat.add_assoc] at this; exact this
      have c2 : wr.cell? ⟨b, off + k * 4 + 2, none⟩ = some (.int .i64 ops[k].2.2.1) := by have := hc (k * 4 + 2) _ ((eOp.all_at ops k 2 hlt (by decide)).trans rfl); rw [← Nat.add_assoc] at this; exact this
      clear hc hx hao
      generalize ops[k].2.1 = hook at c1
      generalize ops[k].2.2.1 = prog at c2
      have hi0 : (0 : Int) ≤ (k : Int) := by omega
      have hi1 : (k : Int) < (ops.length : Int) := by omega
      go_wp2_with fail
      go_still_tail 11, (by kernel_rfl)
      go_wp2_with fail
      obtain ⟨a1, a2, a3⟩ := attachOf_len hs last hook prog
      refine (attachT noF noF (V.fresh noF noF ((Only.refl _ wr).drew_)) (by omega) hl0 (by omega) hook prog).mono ?_
      rintro e w3 ⟨rfl, V3⟩
      clear c1 c2 V
      go_wp2_with fail
      go_roundw
      case rel => exact ⟨k + 1, _, _, by omega, by go_num, V3, by omega, by omega, by omega⟩
      case measure => simp [intOf]; omega
    · have hk4 : hs.length ≤ 4 := by omega
      go_wp2_with fail
      refine (lastT V).mono ?_
      rintro e w3 ⟨rfl, rfl⟩
      go_wp2_with fail
      go_loopw [11, 12, 13, 14, 15, 16] (fun mv i _ _ _ _ wq => ∃ j : Nat, j ≤ L ∧ i = .int .i64 j ∧ mv = .bool (mayB hs (ls.take j)) ∧ TSt No No g w last hs wq) (fun _ i _ _ _ _ _ => L - (intOf i).toNat)
      case atStart => exact ⟨0, Nat.zero_le _, rfl, by simp [mayB], V⟩
      case round =>
        clear V
        obtain ⟨i, hi, rfl, rfl, V⟩ := hrel
        by_cases hil : i < L
        · have hils : i < ls.length := by have := HL.out; omega
          obtain ⟨lb, lf, rfl, x0⟩ := ints_at (HVL.out.grow V.below) i hils
          have hst := mayB_step (hs := hs) hils
          have HST := Lib.hid hst
          clear hst
          generalize hx : ls[i] = x at *
          have HX := Lib.hid hx
          clear hx
          go_wp2_with fail
          refine (currentT noF noF V hk4 x).mono ?_
          rintro e w4 ⟨rfl, V4⟩
          have htd : (currentOf hs x).2.2 = there hs x := rfl
          rw [htd]
          generalize there hs x = th at *
          generalize mayB hs (ls.take i) = m at *
          clear V x0 htd
          go_upto_region 16 with (fail)
          go_cut [11] (fun mv wc => mv = .bool (m && th) ∧ wc = w4)
          case first =>
            cases m
            · go_wp2_with fail
              go_meet
              exact ⟨rfl, rfl⟩
            · go_wp2_with fail
              go_meet
              exact ⟨by simp, rfl⟩
          case rest =>
            obtain ⟨rfl, rfl⟩ := hcut
            have HST0 : mayB hs (ls.take (i + 1)) = (m && th && decide (x ∉ ls.take i)) := HST.out
            clear HST
            obtain ⟨m0, hm0⟩ : ∃ m0, m0 = (m && th) := ⟨_, rfl⟩
            rw [← hm0] at HST0 ⊢
            have HST := Lib.hid HST0
            clear HST0 hm0
            go_wp2_with fail
            go_loopw [11, 16] (fun mv jv wq => ∃ j q : Nat, j ≤ i ∧ jv = .int .i64 j ∧ mv = .bool (m0 && decide (x ∉ ls.take j)) ∧ wq = wc.drewN q) (fun _ jv _ => i - (intOf jv).toNat)
            case atStart => exact ⟨0, 0, Nat.zero_le _, rfl, by simp, rfl⟩
            case round =>
              obtain ⟨j, q, hj, rfl, rfl, rfl⟩ := hrel
              by_cases hji : j < i
              · have hjls : j < ls.length := by omega
                have hrd := HVL.out.grow V4.below
                obtain ⟨lb2, lf2, hlb2, y0⟩ := ints_at hrd j hjls
                obtain ⟨lb3, lf3, hlb3, x0⟩ := ints_at hrd i hils
                obtain ⟨rfl, rfl⟩ : lb = lb2 ∧ lf = lf2 := by simpa using hlb2
                obtain ⟨rfl, rfl⟩ : lb = lb3 ∧ lf = lf3 := by simpa using hlb3
                rw [HX.out] at x0
                have hst := notin_step hjls x
                have HS2 := Lib.hid hst
                clear hst hrd hlb2 hlb3
                generalize ls[j] = y at *
                have hi0 : (0 : Int) ≤ (i : Int) := by omega
                have hi1 : (i : Int) < (L : Int) := by omega
                have hj0 : (0 : Int) ≤ (j : Int) := by omega
                have hj1 : (j : Int) < (L : Int) := by omega
                cases hm1 : (m0 && decide (x ∉ ls.take j))
                · have HM1 := Lib.hid hm1
                  clear hm1
                  go_wp2_with fail
                  go_quiet (fail)
                  go_wp2_with fail
                  go_roundw
                  case rel => exact ⟨j + 1, _, by omega, by go_num, by rw [HS2.out, ← Bool.and_assoc, HM1.out]; rfl, rfl⟩
                  case measure => simp [intOf]; omega
                · have HM1 := Lib.hid hm1
                  clear hm1
                  by_cases hxy : y = x
                  · have hb : (y != x) = false := by simp [hxy]
                    have HXY := Lib.hid hxy
                    clear hxy
                    go_wp2_with fail
                    go_quiet (fail)
                    go_wp2_with fail
                    go_roundw
                    case rel => exact ⟨j + 1, _, by omega, by go_num, by rw [HS2.out, ← Bool.and_assoc, HM1.out, HXY.out]; simp, rfl⟩
                    case measure => simp [intOf]; omega
                  · have hb : (y != x) = true := by simp [hxy]
                    have HXY := Lib.hid hxy
                    clear hxy
                    go_wp2_with fail
                    go_quiet (fail)
                    go_wp2_with fail
                    go_roundw
                    case rel => exact ⟨j + 1, _, by omega, by go_num, by rw [HS2.out, ← Bool.and_assoc, HM1.out]; simp [HXY.out], rfl⟩
                    case measure => simp [intOf]; omega
              · obtain rfl : j = i := by omega
                go_wp2_with fail
                go_roundw
                case rel => exact ⟨j + 1, by omega, by go_num, by rw [HST.out], V4.fresh noF noF ((Only.refl _ _).drewN _)⟩
                case measure => simp [intOf]; omega
        · have hmm : mayB hs (ls.take i) = mayB hs ls := by rw [List.take_of_length_le (by have := HL.out; omega)]
          rw [hmm]
          clear hmm
          generalize hmv : mayB hs ls = may
          have HMV := Lib.hid hmv
          clear hmv
          go_wp2_with (refine wl_makeS (E := eB) rfl _ _ _ rfl 4 1 false zeroB _ _ 4 rfl rfl (by decide) (by decide) ?_)
          intro w5 hb5 ho5
          have V5 := V.newX noF OwS.framed hb5 ho5
          rw [← befores_zero hs] at V5
          clear V hb5 ho5
          generalize wr.heap.size = bb at *
          go_wp2_with fail
          go_loopw [18] (fun jv wq => ∃ j : Nat, j ≤ 4 ∧ jv = .int .i64 j ∧ TSt (fun S w => OwS eB 4 S w (.slice (some ⟨bb, 0, none⟩) 4 4) (befores hs j)) No g w last hs wq) (fun jv _ => 4 - (intOf jv).toNat)
          case atStart => exact ⟨0, by omega, rfl, V5⟩
          case round =>
            clear V5
            obtain ⟨j, hj, rfl, V⟩ := hrel
            by_cases hj4 : j < 4
            · go_wp2_with fail
              refine (currentT OwS.framed noF V hk4 (j : Int)).mono ?_
              rintro e w6 ⟨rfl, V6⟩
              have htd : (currentOf hs (j : Int)).2.2 = there hs j := rfl
              rw [htd]
              have hbl := befores_len hs j
              obtain ⟨S6, X6⟩ := V6.getX
              obtain ⟨bb2, bo2, hbb, _, hat⟩ := X6.1.at_ j (by omega)
              obtain ⟨rfl, rfl⟩ : bb = bb2 ∧ 0 = bo2 := by simpa using hbb
              obtain ⟨x0, y0⟩ := hat 0 (by decide)
              simp only [Nat.mul_one, Nat.add_zero, Nat.zero_add] at x0 y0
              have x0' : w6.cell? ⟨bb, j, none⟩ = some (.bool ((befores hs j)[j]'(by omega))) := x0
              have hup := V6.updX noF (X' := fun S w => OwS eB 4 S w (.slice (some ⟨bb, 0, none⟩) 4 4) (befores hs (j + 1))) (w' := w6.setCell ⟨bb, j, none⟩ (.bool (there hs j))) (fun S hx => by
                have h := hx.store j (by omega) (there hs j)
                rw [befores_step hs j hj4] at h
                have e : w6.setCells bb (0 + j * eB.size) (eB.cells (there hs j)) = w6.setCell ⟨bb, j, none⟩ (.bool (there hs j)) := by simp [World.setCells]
                rw [e] at h
                exact ⟨OwS.framed.mono _ _ _ h.1 (fun _ _ h => .inl h), h.2⟩) OwS.framed
              have HUP := Lib.hid hup
              clear hup V X6 hat hbb x0 htd V6
              generalize there hs (j : Int) = th at *
              go_wp2_with fail
              go_roundw
              case rel => exact ⟨j + 1, by omega, by go_num, HUP.out⟩
              case measure => simp [intOf]; omega
            · obtain rfl : j = 4 := by omega
              have hrd := (HVL.out.grow V.below).alloc (.cells #[] 3)
              have hE0 : OwS (eInt .i64) 3 (fun k => wr.heap.size ≤ k) (wr.alloc (.cells #[] 3)) (.slice (some ⟨wr.heap.size, 0, none⟩) 0 0) [] := ⟨Ow.lit wr 0 #[] _ 0 [] (by simp [Enc.all]) rfl (by simp) (Nat.zero_le _), fun k hk => by simp [Value.ownBlock] at hk; omega⟩
              have hLs : ls.length ≤ 100 := by have := HL.out; omega
              go_wp2_with (at_builtin; refine wl_appendS (E := eInt .i64) rfl _ (.tmp 125) _ rfl 3 8 sliceI _ _ [] rfl hE0 _ ls rfl hrd (by simp; omega) (by unfold maxLen; simp; omega) ?_)
              intro vin w6 hin hO6
              have ho6 : Only (fun _ => False) wr w6 := Only.of_below (B := wr.heap.size) (((Below.refl _ _).alloc (Nat.le_refl _) _).trans (hO6.below (by simp) (fun _ h => h))) (fun k h1 h2 => by omega)
              have hin' := OwS.framed.mono _ (fun k => wr.heap.size ≤ k) _ hin (fun k _ h => by rcases h with h | h <;> omega)
              -- the copy lies beside the hooks that were there
              obtain ⟨tagc, Ac, tc, xc, yc⟩ := V
              obtain ⟨tagd, Ad, fd, nd, _⟩ := Ac.step ho6 8 (fun _ h => h.elim)
              have V6 : TSt (fun S w => OwS eB 4 S w (.slice (some ⟨bb, 0, none⟩) 4 4) (befores hs 4) ∧ OwS (eInt .i64) 3 S w vin ls) No g w last hs w6 :=
                ⟨tagd, Ad, fd _ TabS.framed _ tc (fun _ _ h => h), ⟨fd _ OwS.framed _ xc (fun _ _ h => h), nd _ OwS.framed (OwS.framed.mono _ _ _ hin' (fun _ _ h => .inr h))⟩, trivial⟩
              clear hrd hE0 hin hO6 ho6 hin' Ac tc xc yc Ad fd nd hLs
              go_wp2_with fail
              refine (detachT (Framed.and OwS.framed OwS.framed) noF V6 hk4 vin ls (fun S h => h.2)).mono ?_
              rintro e w7 ⟨rfl, V7⟩
              have hcode := detach_code hs ls
              rw [HMV.out] at hcode
              have hafter := there_after hs ls
              rw [HMV.out] at hafter
              have hlen2 : (detachOf hs ls).2.length ≤ 4 := by
                unfold detachOf
                split
                · split
                  · rw [clearL_len]; exact hk4
                  · exact hk4
                · exact hk4
              have HAF := Lib.hid hafter
              have hmm : (may != may) = false := by simp
              have V7' := V7.weakX (X' := fun S w => OwS eB 4 S w (.slice (some ⟨bb, 0, none⟩) 4 4) (befores hs 4)) (fun S w h => h.1)
              clear V6 hafter V7
              generalize (detachOf hs ls).1 = dc at *
              generalize (detachOf hs ls).2 = hs2 at *
              go_wp2_with fail
              refine (lastT V7').mono ?_
              rintro e w8 ⟨rfl, rfl⟩
              clear hcode hmm
              go_wp2_with fail
              go_loopw [19, 20, 21, 22, 23, 24] (fun jv _ _ _ _ _ wq => ∃ j : Nat, j ≤ 4 ∧ jv = .int .i64 j ∧ TSt (fun S w => OwS eB 4 S w (.slice (some ⟨bb, 0, none⟩) 4 4) (befores hs 4)) No g w last hs2 wq) (fun jv _ _ _ _ _ _ => 4 - (intOf jv).toNat)
              case atStart => exact ⟨0, by omega, rfl, V7'⟩
              case round =>
                clear V7'
                obtain ⟨j, hj, rfl, V⟩ := hrel
                by_cases hj4 : j < 4
                · go_wp2_with fail
                  refine (currentT OwS.framed noF V hlen2 (j : Int)).mono ?_
                  rintro e w9 ⟨rfl, V9⟩
                  have htd : (currentOf hs2 (j : Int)).2.2 = (there hs (j : Int) && !(may && decide ((j : Int) ∈ ls))) := HAF.out (j : Int)
                  rw [htd]
                  clear htd V
                  go_wp2_with fail
                  go_loopw [23, 24] (fun nv iv wq => ∃ i : Nat, i ≤ L ∧ iv = .int .i64 i ∧ nv = .bool (decide ((j : Int) ∈ ls.take i)) ∧ wq = w9) (fun _ iv _ => L - (intOf iv).toNat)
                  case atStart => exact ⟨0, Nat.zero_le _, rfl, by simp, rfl⟩
                  case round =>
                    obtain ⟨i, hi, rfl, rfl, rfl⟩ := hrel
                    by_cases hil : i < L
                    · have hils : i < ls.length := by have := HL.out; omega
                      obtain ⟨lb, lf, rfl, x0⟩ := ints_at (HVL.out.grow V9.below) i hils
                      have HIN := Lib.hid (in_step hils (j : Int))
                      generalize ls[i] = y at *
                      cases hm1 : decide ((j : Int) ∈ ls.take i)
                      · have HM1 := Lib.hid hm1
                        clear hm1
                        by_cases hxy : y = (j : Int)
                        · have hb : (y == (j : Int)) = true := by simp [hxy]
                          have HXY := Lib.hid hxy
                          clear hxy
                          go_wp2_with fail
                          go_roundw
                          case rel => exact ⟨i + 1, by omega, by go_num, by rw [HIN.out, HM1.out, HXY.out]; simp, trivial⟩
                          case measure => simp [intOf]; omega
                        · have hb : (y == (j : Int)) = false := by simp [hxy]
                          have HXY := Lib.hid hxy
                          clear hxy
                          go_wp2_with fail
                          go_roundw
                          case rel => exact ⟨i + 1, by omega, by go_num, by rw [HIN.out, HM1.out]; simp [HXY.out], trivial⟩
                          case measure => simp [intOf]; omega
                      · have HM1 := Lib.hid hm1
                        clear hm1
                        go_wp2_with fail
                        go_roundw
                        case rel => exact ⟨i + 1, by omega, by go_num, by rw [HIN.out, HM1.out]; rfl, trivial⟩
                        case measure => simp [intOf]; omega
                    · have hfull : ls.take i = ls := List.take_of_length_le (by have := HL.out; omega)
                      rw [hfull]
                      obtain ⟨S9, X9⟩ := V9.getX
                      obtain ⟨bb2, bo2, hbb, _, hat⟩ := X9.1.at_ j (by rw [befores_len]; omega)
                      obtain ⟨rfl, rfl⟩ : bb = bb2 ∧ 0 = bo2 := by simpa using hbb
                      obtain ⟨x0, y0⟩ := hat 0 (by decide)
                      simp only [Nat.mul_one, Nat.add_zero, Nat.zero_add] at x0 y0
                      have x0' : wr.cell? ⟨bb, j, none⟩ = some (.bool (there hs (j : Int))) := by rw [x0, befores_at hs j hj4]; rfl
                      clear hfull X9 hat hbb x0 y0
                      generalize decide ((j : Int) ∈ ls) = nm at *
                      generalize there hs (j : Int) = th at *
                      have hi0 : (0 : Int) ≤ (j : Int) := by omega
                      have hi1 : (j : Int) < 4 := by omega
                      have V9' := Lib.hid V9
                      clear V9 HAF HMV
                      cases th <;> cases may <;> cases nm
                      all_goals
                        go_wp2_with fail
                        go_roundw
                        case rel => exact ⟨j + 1, by omega, by go_num, V9'.out⟩
                        case measure => simp [intOf]; omega
                · go_wp2_with fail
                  go_ret
                  exact ⟨rfl, V.below⟩

set_option maxRecDepth 100000 in
set_option maxHeartbeats 1000000 in
theorem hooksMany_any (n : Int) (ops : List OpD) (v : Value) (ls : List Int) (vl : Value) (w : World) (hn : -9223372036854775808 ≤ n ∧ n ≤ 9223372036854775807) (hv : Rd eOp w v ops) (hl : ops.length * 48 ≤ 140737488351232) (hok : ∀ o ∈ ops, OpD.ok o) (hvl : Rd (eInt .i64) w vl ls) (hll : ls.length * 8 ≤ 140737488351232) (hlw : ∀ x ∈ ls, (Lit.int .i64 x).wf = true) :
    Calls Try.prog 5 #[.int .i64 n, v, vl] w fun e w' => e = .returned (.bool true) ∧ Below w.heap.size w w' := by
  clear hok hlw
  obtain ⟨_, lo, lc, rfl, hlc, _, _⟩ := id hvl
  by_cases hr : n < 1 ∨ 4 < n
  · go_enter Try.func5, Try.ntmps5
    go_wp2_with fail
    refine (awake_any _).mono ?_
    rintro e w1 ⟨rfl, hb1⟩
    go_wp2_with fail
    refine (new_not n _ hr).mono ?_
    rintro e w2 ⟨rfl, rfl⟩
    go_wp2_with fail
    go_ret
    exact ⟨rfl, hb1⟩
  · obtain ⟨m, rfl⟩ : ∃ m : Nat, n = (m : Int) := ⟨n.toNat, by omega⟩
    by_cases hb : ls.length ≤ 100
    · exact hooksMany_yes m ops v ls _ w (by omega) (by omega) hv hl hvl hb
    · have hbi : decide ((100 : Int) < (ls.length : Int)) = true := by simp; omega
      have h1 : 1 ≤ m := by omega
      have h4 : m ≤ 4 := by omega
      clear hr hb
      go_enter Try.func5, Try.ntmps5
      go_wp2_with fail
      refine (awake_any _).mono ?_
      rintro e w1 ⟨rfl, hb1⟩
      go_wp2_with fail
      refine (new_any m _ h1 h4).mono ?_
      rintro e w2 ⟨g, rfl, hT, hO2⟩
      go_wp2_with fail
      go_ret
      exact ⟨rfl, bthen hb1 (hO2.below (Nat.le_refl _) (fun _ h => h.elim))⟩
end Go.Proofs.Ythemkcgifefjmaa
