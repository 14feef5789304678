/- Layer 1: the walk of the reference's Get. -/
import Derived.Test.YtkocfgaajghggaaDoorLebGet
namespace Go.Proofs.YtkocfgaajghggaaDoor
open Go.RowKit
set_option linter.unusedVariables false

/-- the number of the first k digits -/
def dval (b : List Int) : Nat → Int
  | 0 => 0
  | k + 1 => dval b k + (b.getD k 0 % 128) * 128 ^ k
theorem getF_run (b : List Int) (hb : ∀ x ∈ b, 0 ≤ x ∧ x ≤ 255) : ∀ k, k ≤ b.length → k ≤ 9 → (∀ j (h : j < b.length), j < k → 128 ≤ b[j]) → getF k (dval b k) (b.drop k) = get1 b := by
  intro k
  induction k with
  | zero => intro _ _ _; rfl
  | succ k ih =>
    intro h1 h2 h3
    rw [← ih (by omega) (by omega) (fun j h hj => h3 j h (by omega))]
    have hd : b.drop k = b[k] :: b.drop (k + 1) := List.drop_eq_getElem_cons (by omega)
    have hx := h3 k (by omega) (by omega)
    have hxb := hb _ (List.getElem_mem (show k < b.length by omega))
    rw [hd, getF, if_neg (by omega), if_neg (by omega), dval]
    congr 2
    rw [show b.getD k 0 = b[k] by simp [List.getD, show k < b.length by omega]]
    congr 1; omega
theorem dval_nonneg (b : List Int) (k : Nat) : 0 ≤ dval b k := by
  induction k with
  | zero => simp [dval]
  | succ k ih =>
    rw [dval]
    have h1 : (0 : Int) ≤ (b.getD k 0 % 128) * 128 ^ k := Int.mul_nonneg (by omega) (Int.le_of_lt (Int.pow_pos (by omega)))
    omega
theorem horner_le {n d t e : Int} {k : Nat} (h : (128 * n + d) * 128 ^ k + e = t) (he : 0 ≤ e) (hn : 0 ≤ 128 * n + d) : 128 * n + d ≤ t := by
  have hp : (1 : Int) ≤ 128 ^ k := by
    have : (0 : Int) < 128 ^ k := Int.pow_pos (by omega)
    omega
  have : (128 * n + d) * 1 ≤ (128 * n + d) * 128 ^ k := Int.mul_le_mul_of_nonneg_left hp hn
  omega
theorem get1_stop (b : List Int) (hb : ∀ x ∈ b, 0 ≤ x ∧ x ≤ 255) (k : Nat) (h : k < b.length) (h9 : k ≤ 9) (hh : ∀ j (h : j < b.length), j < k → 128 ≤ b[j]) (hx : b[k] < 128) :
    get1 b = if (k = 9 ∧ 1 < b[k]) ∨ (0 < k ∧ b[k] = 0) then (0, 0, 12) else (dval b (k + 1), (k : Int) + 1, 0) := by
  rw [← getF_run b hb k (by omega) h9 hh, List.drop_eq_getElem_cons h, getF]
  split
  · rfl
  · first | rw [if_pos hx] | skip
    rw [dval, show b.getD k 0 = b[k] by simp [List.getD, h]]
    have := hb _ (List.getElem_mem h)
    rw [show b[k] % 128 = b[k] by omega]

set_option maxHeartbeats 4000000 in
theorem refGet_any (b : List Int) (v : Value) (w : World) (hv : Rd eU8 w v b) (hb : ∀ x ∈ b, 0 ≤ x ∧ x ≤ 255) :
    Calls Tryd.prog 30 #[v] w fun e w' => e = .returned (.tuple #[.int .u64 (get1 b).1, .int .i64 (get1 b).2.1, .int .i64 (get1 b).2.2]) ∧ w = w' := by
  have H := Lib.hid hb
  clear hb
  obtain ⟨hma, a, ca, rfl, _, _, ha⟩ := hv
  unfold maxLen at hma
  go_enter Tryd.func30, Tryd.ntmps30
  go_wp2
  go_loop [5] (fun i => ∃ (k : Nat), k ≤ b.length ∧ k ≤ 9 ∧ i = .int .i64 k ∧ Hid (∀ j (h : j < b.length), j < k → 128 ≤ b[j])) (fun i => b.length - (intOf i).toNat)
  case atStart => exact ⟨0, Nat.zero_le _, by omega, rfl, fun j _ h => by omega⟩
  case round =>
    obtain ⟨k, hk, hk9, rfl, hh⟩ := hrel
    by_cases hlt : k < b.length
    · obtain ⟨b1, o1, rfl, h1⟩ := ha (by omega)
      have c1 := h1 k _ (eInt_at .u8 b k hlt)
      have hxr := H.out _ (List.getElem_mem hlt)
      obtain ⟨x, hx⟩ : ∃ x, x = b[k] := ⟨_, rfl⟩
      rw [← hx] at c1 hxr
      by_cases hx8 : 128 ≤ x
      · have hh2 : ∀ j (h : j < b.length), j < k + 1 → 128 ≤ b[j] := by
          intro j h hj
          by_cases e : j = k
          · subst e; omega
          · exact hh.out j h (by omega)
        by_cases h9 : k = 9
        · have hg : get1 b = (0, 0, 12) := by
            rw [← getF_run b H.out k (by omega) hk9 hh.out, List.drop_eq_getElem_cons hlt, getF, if_pos (by omega)]
          have HG := Lib.hid hg
          subst h9
          clear hg hh2 hx h1 ha
          go_wp2_with fail
          go_ret3
          exact ⟨by rw [HG.out]; rfl, rfl⟩
        · have h9b : ((k : Int) == 9) = false := by simp; omega
          have HH := Lib.hid hh2
          clear hh2 hx h1 ha
          go_wp2_with fail
          go_round
          case rel => exact ⟨k + 1, by omega, by omega, by go_num, HH⟩
          case measure => simp [intOf]; omega
      · have hg := get1_stop b H.out k hlt hk9 hh.out (by omega)
        rw [← hx] at hg
        have hkl : ((k : Int) == (b.length : Int)) = false := by simp; omega
        have hx8' : x < 128 := by omega
        by_cases hc : (k = 9 ∧ 1 < x) ∨ (0 < k ∧ x = 0)
        · rw [if_pos hc] at hg
          have HG := Lib.hid hg
          have HX := Lib.hid hx
          have HC := Lib.hid hc
          clear hg hx hc
          by_cases h9 : k = 9
          · subst h9
            by_cases hx1 : 1 < x
            · clear h1 ha
              go_wp2_with fail
              go_ret3
              exact ⟨by rw [HG.out]; rfl, rfl⟩
            · have hx0 : x = 0 := by have := HC.out; omega
              subst hx0
              clear h1 ha
              go_wp2_with fail
              go_ret3
              exact ⟨by rw [HG.out]; rfl, rfl⟩
          · have h9b : ((k : Int) == 9) = false := by simp; omega
            have hx0 : x = 0 := by have := HC.out; omega
            subst hx0
            have hk0 : (0 : Int) < k := by have := HC.out; omega
            clear h1 ha
            go_wp2_with fail
            go_ret3
            exact ⟨by rw [HG.out]; rfl, rfl⟩
        · rw [if_neg hc] at hg
          have hrg := (get1_range b H.out).1
          rw [hg] at hrg
          have HG := Lib.hid hg
          have HX := Lib.hid hx
          have HC := Lib.hid hc
          have HR := Lib.hid hrg
          have HA := Lib.hid h1
          have c9 : k = 9 → w.cell? ⟨b1, o1 + 9, none⟩ = some (.int .u8 x) := fun h => by rw [← h]; exact c1
          have hcases : (k = 9 ∧ x = 1) ∨ (k ≠ 9 ∧ 0 < k ∧ 0 < x) ∨ k = 0 := by omega
          have hd0 : (0 : Int) * 128 ^ (k + 1) + dval b (k + 1) = dval b (k + 1) := by rw [Int.zero_mul, Int.zero_add]
          have HD0 := Lib.hid hd0
          clear hg hx hc hrg hd0 h1 ha
          rcases hcases with ⟨h9, rfl⟩ | ⟨h9, hk0, hx0⟩ | h9
          · have c9' := c9 h9
            have h9b : ((k : Int) == 9) = true := by simp; omega
            have hl9 : (9 : Int) < b.length := by omega
            have hk0 : (0 : Int) < k := by omega
            clear c9 h9
            go_wp2_with fail
            go_loop [6, 7] (fun n i => ∃ (m : Nat) (acc : Int), m ≤ k + 1 ∧ i = .int .i64 ((m : Int) - 1) ∧ n = .int .u64 acc ∧ 0 ≤ acc ∧ Hid (acc * 128 ^ m + dval b m = dval b (k + 1))) (fun _ i => (intOf i + 1).toNat)
            case atStart => exact ⟨k + 1, 0, Nat.le_refl _, by go_num, rfl, by omega, HD0⟩
            case round =>
              obtain ⟨m, acc, hm, rfl, rfl, hacc, heq⟩ := hrel
              cases m with
              | zero =>
                have hfin : acc = dval b (k + 1) := by have := heq.out; simp [dval] at this; exact this
                have HF := Lib.hid hfin
                have hneg : ¬ (0 : Int) ≤ ((0 : Nat) : Int) - 1 := by omega
                clear heq hfin
                go_wp2_with fail
                go_ret3
                exact ⟨by rw [HG.out, ← HF.out]; rfl, rfl⟩
              | succ j =>
                have hjl : j < b.length := by omega
                have d1 := HA.out j _ (eInt_at .u8 b j hjl)
                have hyr := H.out _ (List.getElem_mem hjl)
                obtain ⟨y, hy⟩ : ∃ y, y = b[j] := ⟨_, rfl⟩
                have hdv : dval b (j + 1) = dval b j + (y % 128) * 128 ^ j := by rw [dval, hy]; simp [List.getD, hjl]
                rw [← hy] at d1 hyr
                have hstep : (128 * acc + y % 128) * 128 ^ j + dval b j = dval b (k + 1) := by
                  rw [← heq.out, hdv, Int.pow_succ, Int.add_mul]
                  generalize (128 : Int) ^ j = p
                  rw [Int.mul_comm p 128, ← Int.mul_assoc, Int.mul_comm acc 128]
                  omega
                have hle := horner_le hstep (dval_nonneg b j) (by omega)
                have hmax : 128 * acc + y % 128 ≤ 18446744073709551615 := Int.le_trans hle HR.out.2
                have HS := Lib.hid hstep
                have e : (((j + 1 : Nat) : Int) - 1) = (j : Int) := by omega
                rw [e]
                clear e hstep hle hdv hy heq
                go_wp2_with fail
                go_round
                case rel => exact ⟨j, 128 * acc + y % 128, by omega, by go_num, by go_num, by omega, HS⟩
                case measure => simp [intOf]
          · have h9b : ((k : Int) == 9) = false := by simp; omega
            have hxb : (x == 0) = false := by simp; omega
            have hk0' : (0 : Int) < k := by omega
            clear c9 h9 hk0
            go_wp2_with fail
            go_loop [6, 7] (fun n i => ∃ (m : Nat) (acc : Int), m ≤ k + 1 ∧ i = .int .i64 ((m : Int) - 1) ∧ n = .int .u64 acc ∧ 0 ≤ acc ∧ Hid (acc * 128 ^ m + dval b m = dval b (k + 1))) (fun _ i => (intOf i + 1).toNat)
            case atStart => exact ⟨k + 1, 0, Nat.le_refl _, by go_num, rfl, by omega, HD0⟩
            case round =>
              obtain ⟨m, acc, hm, rfl, rfl, hacc, heq⟩ := hrel
              cases m with
              | zero =>
                have hfin : acc = dval b (k + 1) := by have := heq.out; simp [dval] at this; exact this
                have HF := Lib.hid hfin
                have hneg : ¬ (0 : Int) ≤ ((0 : Nat) : Int) - 1 := by omega
                clear heq hfin
                go_wp2_with fail
                go_ret3
                exact ⟨by rw [HG.out, ← HF.out]; rfl, rfl⟩
              | succ j =>
                have hjl : j < b.length := by omega
                have d1 := HA.out j _ (eInt_at .u8 b j hjl)
                have hyr := H.out _ (List.getElem_mem hjl)
                obtain ⟨y, hy⟩ : ∃ y, y = b[j] := ⟨_, rfl⟩
                have hdv : dval b (j + 1) = dval b j + (y % 128) * 128 ^ j := by rw [dval, hy]; simp [List.getD, hjl]
                rw [← hy] at d1 hyr
                have hstep : (128 * acc + y % 128) * 128 ^ j + dval b j = dval b (k + 1) := by
                  rw [← heq.out, hdv, Int.pow_succ, Int.add_mul]
                  generalize (128 : Int) ^ j = p
                  rw [Int.mul_comm p 128, ← Int.mul_assoc, Int.mul_comm acc 128]
                  omega
                have hle := horner_le hstep (dval_nonneg b j) (by omega)
                have hmax : 128 * acc + y % 128 ≤ 18446744073709551615 := Int.le_trans hle HR.out.2
                have HS := Lib.hid hstep
                have e : (((j + 1 : Nat) : Int) - 1) = (j : Int) := by omega
                rw [e]
                clear e hstep hle hdv hy heq
                go_wp2_with fail
                go_round
                case rel => exact ⟨j, 128 * acc + y % 128, by omega, by go_num, by go_num, by omega, HS⟩
                case measure => simp [intOf]
          · have h9b : ((k : Int) == 9) = false := by simp; omega
            have hk0' : ¬ (0 : Int) < k := by omega
            have HK := Lib.hid h9
            clear c9 h9
            go_wp2_with fail
            go_loop [6, 7] (fun n i => ∃ (m : Nat) (acc : Int), m ≤ k + 1 ∧ i = .int .i64 ((m : Int) - 1) ∧ n = .int .u64 acc ∧ 0 ≤ acc ∧ Hid (acc * 128 ^ m + dval b m = dval b (k + 1))) (fun _ i => (intOf i + 1).toNat)
            case atStart => exact ⟨k + 1, 0, Nat.le_refl _, by go_num, rfl, by omega, HD0⟩
            case round =>
              obtain ⟨m, acc, hm, rfl, rfl, hacc, heq⟩ := hrel
              cases m with
              | zero =>
                have hfin : acc = dval b (k + 1) := by have := heq.out; simp [dval] at this; exact this
                have HF := Lib.hid hfin
                have hneg : ¬ (0 : Int) ≤ ((0 : Nat) : Int) - 1 := by omega
                clear heq hfin
                go_wp2_with fail
                go_ret3
                exact ⟨by rw [HG.out, ← HF.out]; rfl, rfl⟩
              | succ j =>
                have hjl : j < b.length := by omega
                have d1 := HA.out j _ (eInt_at .u8 b j hjl)
                have hyr := H.out _ (List.getElem_mem hjl)
                obtain ⟨y, hy⟩ : ∃ y, y = b[j] := ⟨_, rfl⟩
                have hdv : dval b (j + 1) = dval b j + (y % 128) * 128 ^ j := by rw [dval, hy]; simp [List.getD, hjl]
                rw [← hy] at d1 hyr
                have hstep : (128 * acc + y % 128) * 128 ^ j + dval b j = dval b (k + 1) := by
                  rw [← heq.out, hdv, Int.pow_succ, Int.add_mul]
                  generalize (128 : Int) ^ j = p
                  rw [Int.mul_comm p 128, ← Int.mul_assoc, Int.mul_comm acc 128]
                  omega
                have hle := horner_le hstep (dval_nonneg b j) (by omega)
                have hmax : 128 * acc + y % 128 ≤ 18446744073709551615 := Int.le_trans hle HR.out.2
                have HS := Lib.hid hstep
                have e : (((j + 1 : Nat) : Int) - 1) = (j : Int) := by omega
                rw [e]
                clear e hstep hle hdv hy heq
                go_wp2_with fail
                go_round
                case rel => exact ⟨j, 128 * acc + y % 128, by omega, by go_num, by go_num, by omega, HS⟩
                case measure => simp [intOf]
    · obtain rfl : k = b.length := by omega
      have hg : get1 b = (0, 0, 10) := by
        rw [← getF_run b H.out b.length (by omega) hk9 hh.out, List.drop_length]; rfl
      have HG := Lib.hid hg
      clear hg ha
      have hkl : ((b.length : Int) == (b.length : Int)) = true := by simp
      go_wp2_with fail
      go_ret3
      exact ⟨by rw [HG.out]; rfl, rfl⟩
end Go.Proofs.YtkocfgaajghggaaDoor
