/- Lines: are two lists alike, element by element? (printed by gen_cmp.py) -/
import Derived.Test.YtdlkblklfoagbaaOwnSend
namespace Go.Proofs.Ytdlkblklfoagbaa
open Go.RowKit
set_option linter.unusedVariables false

instance decReqs : DecidableEq (List ReqD) := fun xs ys => @instDecidableEqList ReqD (fun x y => inferInstance) xs ys

theorem lines_step {xs ys : List ReqD} {k : Nat} (h : xs.take k = ys.take k) (h1 : k < xs.length) (h2 : k < ys.length) (e : xs[k] = ys[k]) : xs.take (k + 1) = ys.take (k + 1) := by
  rw [List.take_succ_eq_append_getElem h1, List.take_succ_eq_append_getElem h2, h, e]
theorem lines_miss {xs ys : List ReqD} {k : Nat} (h1 : k < xs.length) (h2 : k < ys.length) (e : ¬ xs[k] = ys[k]) : false = decide (xs = ys) := by
  symm; rw [decide_eq_false_iff_not]; rintro rfl; exact e rfl
theorem lines_all {xs ys : List ReqD} {k : Nat} (h : xs.take k = ys.take k) (h1 : xs.length ≤ k) (h2 : ys.length ≤ k) : true = decide (xs = ys) := by
  rw [List.take_of_length_le h1, List.take_of_length_le h2] at h; simp [h]
set_option maxHeartbeats 1000000 in
theorem lines_any (xs ys : List ReqD) (va vb : Value) (w : World) (ha : Rd eReq w va xs) (hb : Rd eReq w vb ys) :
    Calls Try.prog 11 #[va, vb] w fun e w' => e = .returned (.bool (decide (xs = ys))) ∧ ∃ n, w' = w.drewN n := by
  obtain ⟨hma, a, ca, rfl, _, _, ha⟩ := ha
  obtain ⟨hmb, b, cb, rfl, _, _, hb⟩ := hb
  unfold maxLen at hma hmb
  by_cases hl : xs.length = ys.length
  · have hne : (((xs.length : Nat) : Int) != ((ys.length : Nat) : Int)) = false := by simp [hl]
    have HL := Lib.hid hl
    clear hl
    go_enter Try.func11, Try.ntmps11
    go_wp2
    go_loopw [5] (fun i wr => ∃ k n : Nat, k ≤ xs.length ∧ i = .int .i64 k ∧ wr = w.drewN n ∧ Hid (xs.take k = ys.take k)) (fun i _ => xs.length - (intOf i).toNat)
    case atStart => exact ⟨0, 0, Nat.zero_le _, rfl, rfl, rfl⟩
    case round =>
      obtain ⟨k, n, hk, rfl, rfl, heq⟩ := hrel
      by_cases hlt : k < xs.length
      · obtain ⟨b1, o1, rfl, h1⟩ := ha (by omega)
        obtain ⟨b2, o2, rfl, h2⟩ := hb (by have := HL.out; omega)
        have hlt2 : k < ys.length := by have := HL.out; omega
        have c0 : w.cell? ⟨b1, o1 + k * 7, none⟩ = some (.int .i64 xs[k].1) := by have := h1 (k * 7 + 0) _ ((eReq.all_at xs k 0 hlt (by decide)).trans rfl); rw [← Nat.add_assoc] at this; exact this
        have c1 : w.cell? ⟨b1, o1 + k * 7 + 1, none⟩ = some (.int .i64 xs[k].2.1) := by have := h1 (k * 7 + 1) _ ((eReq.all_at xs k 1 hlt (by decide)).trans rfl); rw [← Nat.add_assoc] at this; exact this
        have c2 : w.cell? ⟨b1, o1 + k * 7 + 2, none⟩ = some (.bool xs[k].2.2.1) := by have := h1 (k * 7 + 2) _ ((eReq.all_at xs k 2 hlt (by decide)).trans rfl); rw [← Nat.add_assoc] at this; exact this
        have c3 : w.cell? ⟨b1, o1 + k * 7 + 3, none⟩ = some (.int .i64 xs[k].2.2.2.1) := by have := h1 (k * 7 + 3) _ ((eReq.all_at xs k 3 hlt (by decide)).trans rfl); rw [← Nat.add_assoc] at this; exact this
        have c4 : w.cell? ⟨b1, o1 + k * 7 + 4, none⟩ = some (.int .i64 xs[k].2.2.2.2.1) := by have := h1 (k * 7 + 4) _ ((eReq.all_at xs k 4 hlt (by decide)).trans rfl); rw [← Nat.add_assoc] at this; exact this
        have c5 : w.cell? ⟨b1, o1 + k * 7 + 5, none⟩ = some (.int .u64 xs[k].2.2.2.2.2.1) := by have := h1 (k * 7 + 5) _ ((eReq.all_at xs k 5 hlt (by decide)).trans rfl); rw [← Nat.add_assoc] at this; exact this
        have c6 : w.cell? ⟨b1, o1 + k * 7 + 6, none⟩ = some (.int .u64 xs[k].2.2.2.2.2.2) := by have := h1 (k * 7 + 6) _ ((eReq.all_at xs k 6 hlt (by decide)).trans rfl); rw [← Nat.add_assoc] at this; exact this
        have d0 : w.cell? ⟨b2, o2 + k * 7, none⟩ = some (.int .i64 ys[k].1) := by have := h2 (k * 7 + 0) _ ((eReq.all_at ys k 0 hlt2 (by decide)).trans rfl); rw [← Nat.add_assoc] at this; exact this
        have d1 : w.cell? ⟨b2, o2 + k * 7 + 1, none⟩ = some (.int .i64 ys[k].2.1) := by have := h2 (k * 7 + 1) _ ((eReq.all_at ys k 1 hlt2 (by decide)).trans rfl); rw [← Nat.add_assoc] at this; exact this
        have d2 : w.cell? ⟨b2, o2 + k * 7 + 2, none⟩ = some (.bool ys[k].2.2.1) := by have := h2 (k * 7 + 2) _ ((eReq.all_at ys k 2 hlt2 (by decide)).trans rfl); rw [← Nat.add_assoc] at this; exact this
        have d3 : w.cell? ⟨b2, o2 + k * 7 + 3, none⟩ = some (.int .i64 ys[k].2.2.2.1) := by have := h2 (k * 7 + 3) _ ((eReq.all_at ys k 3 hlt2 (by decide)).trans rfl); rw [← Nat.add_assoc] at this; exact this
        have d4 : w.cell? ⟨b2, o2 + k * 7 + 4, none⟩ = some (.int .i64 ys[k].2.2.2.2.1) := by have := h2 (k * 7 + 4) _ ((eReq.all_at ys k 4 hlt2 (by decide)).trans rfl); rw [← Nat.add_assoc] at this; exact this
        have d5 : w.cell? ⟨b2, o2 + k * 7 + 5, none⟩ = some (.int .u64 ys[k].2.2.2.2.2.1) := by have := h2 (k * 7 + 5) _ ((eReq.all_at ys k 5 hlt2 (by decide)).trans rfl); rw [← Nat.add_assoc] at this; exact this
        have d6 : w.cell? ⟨b2, o2 + k * 7 + 6, none⟩ = some (.int .u64 ys[k].2.2.2.2.2.2) := by have := h2 (k * 7 + 6) _ ((eReq.all_at ys k 6 hlt2 (by decide)).trans rfl); rw [← Nat.add_assoc] at this; exact this
        have hz := eReq_neq xs[k] ys[k]
        have hst := fun e => lines_step heq.out hlt hlt2 e
        have hmi := fun e => lines_miss (xs := xs) (ys := ys) hlt hlt2 e
        have HST := Lib.hid hst
        have HMI := Lib.hid hmi
        clear h1 h2 hst hmi heq
        generalize xs[k] = x at *
        generalize ys[k] = y at *
        by_cases hxy : x = y
        · have hq : (!decide (x = y)) = false := by simp [hxy]
          rw [hq] at hz
          have HST2 := Lib.hid (HST.out hxy)
          clear hxy hq HMI HST
          go_wp2
          go_quiet (fail)
          go_wp2
          go_roundw
          case rel => exact ⟨k + 1, n + nq, by omega, by go_num, rfl, HST2.out⟩
          case measure => simp [intOf]; omega
        · have hq : (!decide (x = y)) = true := by simp [hxy]
          rw [hq] at hz
          have HMI2 := Lib.hid (HMI.out hxy)
          clear hxy hq HMI HST
          go_wp2
          go_quiet (fail)
          go_wp2
          go_ret
          exact ⟨ret_bool HMI2.out, _, World.drewN_drewN ..⟩
      · go_wp2
        go_ret
        exact ⟨ret_bool (lines_all heq.out (by omega) (by have := HL.out; omega)), _, rfl⟩
  · have hne : (((xs.length : Nat) : Int) != ((ys.length : Nat) : Int)) = true := by simp; omega
    go_enter Try.func11, Try.ntmps11
    go_wp2
    go_ret
    exact ⟨ret_bool (by symm; rw [decide_eq_false_iff_not]; rintro rfl; exact hl rfl), 0, rfl⟩
theorem lines_eq (xs : List ReqD) (va vb : Value) (w : World) (ha : Rd eReq w va xs) (hb : Rd eReq w vb xs) :
    Calls Try.prog 11 #[va, vb] w fun e w' => e = .returned (.bool true) ∧ Only (fun _ => False) w w' :=
  (lines_any xs xs va vb w ha hb).mono fun _ _ ⟨h1, n, h2⟩ => ⟨by rw [h1]; simp, by rw [h2]; exact (Only.refl _ _).drewN n⟩
end Go.Proofs.Ytdlkblklfoagbaa
