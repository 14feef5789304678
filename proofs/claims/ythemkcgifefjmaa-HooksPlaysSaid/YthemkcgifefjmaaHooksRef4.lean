/- Layer 19: the document's Where; ints. -/
import Derived.Test.YthemkcgifefjmaaHooksRef3
namespace Go.Proofs.Ythemkcgifefjmaa
open Go.RowKit
set_option linter.unusedVariables false

set_option maxRecDepth 100000 in
set_option maxHeartbeats 8000000 in
theorem refWhere_any (x : Nat) (last : Int) (hs : List Pub) (st : List StepD) (ps : List Int) (vp : Value) (S : Nat → Prop) (w : World) (H : RefS x (hs.length : Int) last st S w) (M : Match hs st) (hn4 : hs.length ≤ 4) (hst : st.length ≤ 90000)
    (hp : Rd (eInt .i64) w vp ps) :
    Calls Try.prog 25 #[.pointer (some ⟨x, 0, none⟩), vp] w fun e w' => ∃ v', e = .returned v' ∧ OwS (eInt .i64) 3 (fun k => w.heap.size ≤ k) w' v' (whereTo hs ps hs.length) ∧ Only (fun _ => False) w w' := by
  have H0 := Lib.hid H
  obtain ⟨_, lo, lc, rfl, hlc, _, _⟩ := id hp
  obtain ⟨L, hL⟩ : ∃ L, L = ps.length := ⟨_, rfl⟩
  have HL := Lib.hid hL
  have HP := Lib.hid hp
  obtain ⟨hmx, _⟩ := id hp
  rw [← hL] at hlc HP hmx
  rw [← hL]
  unfold maxLen at hmx
  have HM := Lib.hid M
  obtain ⟨n, hn⟩ : ∃ n, n = hs.length := ⟨_, rfl⟩
  have HN := Lib.hid hn
  rw [← hn] at hn4 H0
  rw [← hn]
  clear H hL M hp hn
  go_enter Try.func25, Try.ntmps25
  go_wp2_with fail
  go_loopw [5, 6, 7, 8, 9, 10, 11] (fun vn iv _ _ _ _ _ wr => ∃ k : Nat, k ≤ n ∧ iv = .int .i64 k ∧ OwS (eInt .i64) 3 (fun k => w.heap.size ≤ k) wr vn (whereTo hs ps k) ∧ Only (fun k => w.heap.size ≤ k) w wr) (fun _ iv _ _ _ _ _ _ => n - (intOf iv).toNat)
  case atStart => exact ⟨0, Nat.zero_le _, rfl, by simpa [whereTo] using OwS.nil _ _, Only.refl _ _⟩
  case round =>
    obtain ⟨k, hk, rfl, hown, ho⟩ := hrel
    have Hr : RefS x (n : Int) last st S wr := RefS.framed.only _ _ _ _ H0.out ho (fun k hk hs h => by omega)
    have c0 : wr.cell? ⟨x, 0, none⟩ = some (.int .i64 (n : Int)) := by obtain ⟨v, h⟩ := Hr; exact blk_cell h.1 0
    have HR := Lib.hid Hr
    clear Hr
    by_cases hlt : k < n
    · have hnb : ¬ bad hs (k : Int) := by have := HN.out; unfold bad; omega
      have hqq : ((refCur st (k : Int)).2.2 = true ∧ (refCur st (k : Int)).2.1 ∈ ps) ↔ (0 < (getH hs (k : Int)).1 ∧ (getH hs (k : Int)).2 ∈ ps) := by
        rw [HM.out]
        unfold currentOf
        rw [if_neg hnb]
        by_cases h : 0 < (getH hs (k : Int)).1 <;> simp [h]
      have hyes := fun (h : 0 < (getH hs (k : Int)).1 ∧ (getH hs (k : Int)).2 ∈ ps) => whereTo_yes (hs := hs) (ps := ps) (k := k) h.1 h.2
      have hno := fun h => whereTo_no (hs := hs) (ps := ps) (k := k) h
      rw [← hqq] at hyes hno
      have HY := Lib.hid hyes
      have HNO := Lib.hid hno
      have hln := whereTo_len hs ps k
      have hprb := ho.below (Nat.le_refl _) (fun _ h => h)
      have hsz := ho.size
      clear hyes hno hqq hnb
      go_wp2_with fail
      refine (refCurrent_any x (n : Int) last st (k : Int) S wr HR.out (by omega)).mono ?_
      rintro e w1 ⟨rfl, q1, rfl⟩
      generalize (refCur st (k : Int)).1 = ver at *
      generalize (refCur st (k : Int)).2.1 = p at *
      generalize (refCur st (k : Int)).2.2 = ok at *
      clear c0
      have hrp : Rd (eInt .i64) (wr.drewN q1) (.slice lo L lc) ps := (HP.out.grow hprb).drewN q1
      have HRP := Lib.hid hrp
      have hown1 := OwS.framed.drewN hown q1
      have ho1 := ho.drewN q1
      clear hrp hown ho hprb
      generalize World.drewN wr q1 = w7 at *
      go_wp2_with fail
      go_loopw [10, 11] (fun nv qv wq => ∃ q : Nat, q ≤ L ∧ qv = .int .i64 q ∧ nv = .bool (decide (p ∈ ps.take q)) ∧ wq = w7) (fun _ qv _ => L - (intOf qv).toNat)
      case atStart => exact ⟨0, Nat.zero_le _, rfl, by simp, rfl⟩
      case round =>
        obtain ⟨q, hq, rfl, rfl, rfl⟩ := hrel
        by_cases hql : q < L
        · have hqls : q < ps.length := by have := HL.out; omega
          obtain ⟨lb, lf, rfl, x0⟩ := ints_at HRP.out q hqls
          have HIN := Lib.hid (in_step hqls p)
          generalize ps[q] = y at *
          cases hm1 : decide (p ∈ ps.take q)
          · have HM1 := Lib.hid hm1
            clear hm1
            by_cases hxy : y = p
            · have hb : (y == p) = true := by simp [hxy]
              have HXY := Lib.hid hxy
              clear hxy
              go_wp2_with fail
              go_roundw
              case rel => exact ⟨q + 1, by omega, by go_num, by rw [HIN.out, HM1.out, HXY.out]; simp, trivial⟩
              case measure => simp [intOf]; omega
            · have hb : (y == p) = false := by simp [hxy]
              have HXY := Lib.hid hxy
              clear hxy
              go_wp2_with fail
              go_roundw
              case rel => exact ⟨q + 1, by omega, by go_num, by rw [HIN.out, HM1.out]; simp [HXY.out], trivial⟩
              case measure => simp [intOf]; omega
          · have HM1 := Lib.hid hm1
            clear hm1
            go_wp2_with fail
            go_roundw
            case rel => exact ⟨q + 1, by omega, by go_num, by rw [HIN.out, HM1.out]; rfl, trivial⟩
            case measure => simp [intOf]; omega
        · have hfull : ps.take q = ps := List.take_of_length_le (by have := HL.out; omega)
          rw [hfull]
          clear hfull
          by_cases hqual : ok = true ∧ p ∈ ps
          · obtain ⟨rfl, hpl⟩ := hqual
            have hpt : decide (p ∈ ps) = true := by simpa using hpl
            rw [hpt]
            have hy := Lib.hid (HY.out ⟨rfl, hpl⟩)
            clear hpl hpt HY HNO
            have hob := OwS.framed.alloc hown1 (.cells #[.int .i64 (k : Int)] 3)
            have hrd := Rd.lit (E := eInt .i64) wr #[.int .i64 (k : Int)] 3 (0, 0) 1 1 [(k : Int)] (by simp [Enc.all, eInt]) rfl (Nat.le_refl _) (by decide)
            go_wp2_with (at_builtin; refine wl_appendS (E := eInt .i64) rfl _ (.tmp 48) _ rfl 3 8 sliceI _ _ (whereTo hs ps k) rfl hob _ [(k : Int)] rfl hrd (by simp; omega) (by unfold maxLen; simp; omega) ?_)
            intro v4 w4 hn4' hO4
            have hsz1 := ho1.size
            have hn5 := OwS.framed.mono _ (fun j => w.heap.size ≤ j) _ hn4' (fun j _ h => by rcases h with h | h <;> omega)
            rw [← hy.out] at hn5
            have ho5 := (ho1.tr (Only.alloc _ wr _)).tr hO4
            clear hob hrd hn4' hO4 hown1 ho1
            go_wp2_with fail
            go_roundw
            case rel => exact ⟨k + 1, by omega, by go_num, hn5, ho5⟩
            case measure => simp [intOf]; omega
          · have hno2 := HNO.out hqual
            have HNO2 := Lib.hid hno2
            have hb2 : (ok && decide (p ∈ ps)) = false := by
              cases ok
              · rfl
              · simpa using fun h => hqual ⟨rfl, h⟩
            clear hno2 HY HNO hqual
            generalize decide (p ∈ ps) = th at *
            cases ok
            · go_wp2_with fail
              go_roundw
              case rel => exact ⟨k + 1, by omega, by go_num, by rw [HNO2.out]; exact hown1, ho1⟩
              case measure => simp [intOf]; omega
            · obtain rfl : th = false := by simpa using hb2
              go_wp2_with fail
              go_roundw
              case rel => exact ⟨k + 1, by omega, by go_num, by rw [HNO2.out]; exact hown1, ho1⟩
              case measure => simp [intOf]; omega
    · obtain rfl : k = n := by omega
      go_wp2_with fail
      go_ret
      exact ⟨_, rfl, hown, ho.mono (fun j hj h => by omega)⟩

set_option maxHeartbeats 1000000 in
theorem ints_eq (xs : List Int) (va vb : Value) (w : World) (ha : Rd (eInt .i64) w va xs) (hb : Rd (eInt .i64) w vb xs) :
    Calls Try.prog 23 #[va, vb] w fun e w' => e = .returned (.bool true) ∧ ∃ n, w' = w.drewN n := by
  obtain ⟨hma, a, ca, rfl, _, _, ha⟩ := ha
  obtain ⟨hmb, b, cb, rfl, _, _, hb⟩ := hb
  unfold maxLen at hma hmb
  have hne : (((xs.length : Nat) : Int) != ((xs.length : Nat) : Int)) = false := by simp
  go_enter Try.func23, Try.ntmps23
  go_wp2
  go_loopw [5] (fun i wr => ∃ k n : Nat, k ≤ xs.length ∧ i = .int .i64 k ∧ wr = w.drewN n) (fun i _ => xs.length - (intOf i).toNat)
  case atStart => exact ⟨0, 0, Nat.zero_le _, rfl, rfl⟩
  case round =>
    obtain ⟨k, n, hk, rfl, rfl⟩ := hrel
    by_cases hlt : k < xs.length
    · obtain ⟨b1, o1, rfl, h1⟩ := ha (by omega)
      obtain ⟨b2, o2, rfl, h2⟩ := hb (by omega)
      have c1 := h1 k _ (eInt_at .i64 xs k hlt)
      have c2 := h2 k _ (eInt_at .i64 xs k hlt)
      clear h1 h2
      generalize xs[k] = y at *
      go_wp2
      go_quiet (fail)
      go_wp2
      go_roundw
      case rel => exact ⟨k + 1, n + nq, by omega, by go_num, rfl⟩
      case measure => simp [intOf]; omega
    · go_wp2
      go_ret
      exact ⟨rfl, _, rfl⟩
end Go.Proofs.Ythemkcgifefjmaa
