/- The laws' own 'numbers': are two lists of numbers alike? -/
import Derived.Test.YtodacnpbhlkoiaaBase
namespace Go.Proofs.Ytodacnpbhlkoiaa
open Go.RowKit
set_option linter.unusedVariables false

set_option maxHeartbeats 400000 in
theorem numbers_any (xs ys : List Int) (va vb : Value) (w : World) (ha : Rd eU64 w va xs) (hb : Rd eU64 w vb ys) :
    Calls Try.prog 13 #[va, vb] w fun e w' => e = .returned (.bool (decide (xs = ys))) ∧ ∃ n, w' = w.drewN n := by
  obtain ⟨hma, a, ca, rfl, _, _, ha⟩ := ha
  obtain ⟨hmb, b, cb, rfl, _, _, hb⟩ := hb
  unfold maxLen at hma hmb
  by_cases hl : xs.length = ys.length
  · have hne : (((xs.length : Nat) : Int) != ((ys.length : Nat) : Int)) = false := by simp [hl]
    have HL := Lib.hid hl
    clear hl
    go_enter Try.func13, Try.ntmps13
    go_wp2
    go_loopw [5] (fun i wr => ∃ k n : Nat, k ≤ xs.length ∧ i = .int .i64 k ∧ wr = w.drewN n ∧ Hid (xs.take k = ys.take k)) (fun i _ => xs.length - (intOf i).toNat)
    case atStart => exact ⟨0, 0, Nat.zero_le _, rfl, rfl, rfl⟩
    case round =>
      obtain ⟨k, n, hk, rfl, rfl, heq⟩ := hrel
      by_cases hlt : k < xs.length
      · obtain ⟨b1, o1, rfl, h1⟩ := ha (by omega)
        obtain ⟨b2, o2, rfl, h2⟩ := hb (by have := HL.out; omega)
        have c1 := h1 k _ (eU64_at xs k hlt)
        have c2 := h2 k _ (eU64_at ys k (by have := HL.out; omega))
        have hlt2 : k < ys.length := by have := HL.out; omega
        clear h1 h2
        go_wp2
        go_quiet (fail)
        go_wp2
        · go_ret
          exact ⟨ret_bool (take_miss hlt hlt2 (by assumption)), _, World.drewN_drewN ..⟩
        · go_roundw
          case rel => exact ⟨k + 1, n + nq, by omega, by go_num, rfl, take_step heq.out hlt hlt2 (by assumption)⟩
          case measure => simp [intOf]; omega
      · go_wp2
        go_ret
        exact ⟨ret_bool (take_all heq.out (by omega) (by have := HL.out; omega)), _, rfl⟩
  · have hne : (((xs.length : Nat) : Int) != ((ys.length : Nat) : Int)) = true := by simp; omega
    go_enter Try.func13, Try.ntmps13
    go_wp2
    go_ret
    exact ⟨ret_bool (by symm; rw [decide_eq_false_iff_not]; rintro rfl; exact hl rfl), 0, rfl⟩
theorem numbers_eq (xs : List Int) (va vb : Value) (w : World) (ha : Rd eU64 w va xs) (hb : Rd eU64 w vb xs) :
    Calls Try.prog 13 #[va, vb] w fun e w' => e = .returned (.bool true) ∧ ∃ n, w' = w.drewN n :=
  (numbers_any xs xs va vb w ha hb).mono fun _ _ ⟨h1, h2⟩ => ⟨by rw [h1]; simp, h2⟩
theorem numbers_bel (xs : List Int) (va vb : Value) (w : World) (ha : Rd eU64 w va xs) (hb : Rd eU64 w vb xs) :
    Calls Try.prog 13 #[va, vb] w fun e w' => e = .returned (.bool true) ∧ Below w.heap.size w w' :=
  (numbers_eq xs va vb w ha hb).mono fun _ _ ⟨h1, n, h2⟩ => ⟨h1, by rw [h2]; exact below_drewN (Below.refl _ _) n⟩
end Go.Proofs.Ytodacnpbhlkoiaa
