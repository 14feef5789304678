/- Layer 1: the walks of Get, GetInt, the reference's Get. -/
import Derived.Test.YtkocfgaajghggaaDoorLebRef
namespace Go.Proofs.YtkocfgaajghggaaDoor
open Go.RowKit
set_option linter.unusedVariables false

theorem and127_nat : ∀ m : Fin 256, bits .and .u8 ((m.val : Nat) : Int) 127 = ((m.val % 128 : Nat) : Int) := by decide +kernel
theorem and127 (n : Int) (h0 : 0 ≤ n) (h1 : n ≤ 255) : bits .and .u8 n 127 = n % 128 := by
  have h : bits .and .u8 ((n.toNat : Nat) : Int) 127 = ((n.toNat % 128 : Nat) : Int) := and127_nat ⟨n.toNat, by omega⟩
  rw [show ((n.toNat : Nat) : Int) = n by omega] at h
  rw [h]; omega

theorem bits_or_u64_nat (a b : Nat) (ha : a < 18446744073709551616) (hb : b < 18446744073709551616) : bits .or .u64 (a : Int) (b : Int) = ((a ||| b : Nat) : Int) := by
  have hx : a ||| b < 2 ^ 64 := Nat.or_lt_two_pow (by omega) (by omega)
  have h1 : (BitVec.ofInt 64 (a : Int)).toNat = a := by
    rw [BitVec.ofInt_natCast, BitVec.toNat_ofNat]; exact Nat.mod_eq_of_lt (by omega)
  have h2 : (BitVec.ofInt 64 (b : Int)).toNat = b := by
    rw [BitVec.ofInt_natCast, BitVec.toNat_ofNat]; exact Nat.mod_eq_of_lt (by omega)
  show IntKind.u64.wrap ((BitVec.ofInt 64 (a : Int) ||| BitVec.ofInt 64 (b : Int)).toNat : Int) = _
  rw [BitVec.toNat_or, h1, h2, IntKind.wrap_u64]
  omega
theorem or_shift (k : Nat) (acc y : Int) (h0 : 0 ≤ acc) (h1 : acc < 128 ^ k) (y0 : 0 ≤ y) (hk : k ≤ 8 ∧ y < 128 ∨ k = 9 ∧ y ≤ 1) : bits .or .u64 acc (IntKind.u64.wrap (y * 2 ^ (7 * k))) = acc + y * 128 ^ k := by
  obtain ⟨a, rfl⟩ : ∃ a : Nat, acc = a := ⟨acc.toNat, by omega⟩
  obtain ⟨z, rfl⟩ : ∃ z : Nat, y = z := ⟨y.toNat, by omega⟩
  have e : (128 : Int) ^ k = ((2 ^ (7 * k) : Nat) : Int) := by rw [Nat.pow_mul]; simp
  have e2 : (2 : Int) ^ (7 * k) = ((2 ^ (7 * k) : Nat) : Int) := by simp
  have hp : 2 ^ (7 * k) ≤ 2 ^ 63 := Nat.pow_le_pow_right (by omega) (by omega)
  have hp8 : k ≤ 8 → 2 ^ (7 * k) ≤ 2 ^ 56 := fun h => Nat.pow_le_pow_right (by omega) (by omega)
  rw [e] at h1 ⊢
  rw [e2]
  generalize hP : 2 ^ (7 * k) = p at *
  have hz : z * p < 18446744073709551616 := by
    rcases hk with ⟨h, hy⟩ | ⟨h, hy⟩
    · have := hp8 h
      have : z * p ≤ 127 * 2 ^ 56 := Nat.mul_le_mul (by omega) this
      omega
    · have : z * p ≤ 1 * 2 ^ 63 := Nat.mul_le_mul (by omega) hp
      omega
  have ha : a < p := by omega
  rw [IntKind.wrap_u64, ← Int.natCast_mul, Int.emod_eq_of_lt (by omega) (by omega), bits_or_u64_nat a (z * p) (by omega) hz]
  have := Nat.shiftLeft_add_eq_or_of_lt (b := a) (i := 7 * k) (by rw [hP]; exact ha) z
  rw [Nat.shiftLeft_eq, hP] at this
  rw [Nat.or_comm, ← this]
  omega

set_option maxHeartbeats 2000000 in
theorem get_any (b : List Int) (v : Value) (w : World) (hv : Rd eU8 w v b) (hb : ∀ x ∈ b, 0 ≤ x ∧ x ≤ 255) :
    Calls Tryd.prog 41 #[v] w fun e w' => e = .returned (.tuple #[.int .u64 (get1 b).1, .int .i64 (get1 b).2.1, .int .i64 (get1 b).2.2]) ∧ w = w' := by
  have H := Lib.hid hb
  clear hb
  obtain ⟨hma, a, ca, rfl, _, _, ha⟩ := hv
  unfold maxLen at hma
  go_enter Tryd.func41, Tryd.ntmps41
  go_wp2
  go_loop [5, 6, 7, 10] (fun n _ _ i => ∃ (k : Nat) (acc : Int), k ≤ b.length ∧ k ≤ 9 ∧ i = .int .i64 k ∧ n = .int .u64 acc ∧ 0 ≤ acc ∧ Hid (acc < 128 ^ k) ∧ Hid (getF k acc (b.drop k) = get1 b)) (fun _ _ _ i => b.length - (intOf i).toNat)
  case atStart => exact ⟨0, 0, Nat.zero_le _, by omega, rfl, rfl, by omega, (by show (0 : Int) < 128 ^ 0; decide), rfl⟩
  case round =>
    obtain ⟨k, acc, hk, hk9, rfl, rfl, hacc0, hacc, heq⟩ := hrel
    by_cases hlt : k < b.length
    · obtain ⟨b1, o1, rfl, h1⟩ := ha (by omega)
      have c1 := h1 k _ (eInt_at .u8 b k hlt)
      clear ha h1
      have hxr := H.out _ (List.getElem_mem hlt)
      have hdr : b.drop k = b[k] :: b.drop (k + 1) := List.drop_eq_getElem_cons hlt
      obtain ⟨x, hx⟩ : ∃ x, x = b[k] := ⟨_, rfl⟩
      rw [← hx] at c1 hxr hdr
      have heq' := heq.out
      rw [hdr, getF] at heq'
      clear hx hdr heq
      have hand := and127 x hxr.1 hxr.2
      by_cases h9 : k = 9
      · subst h9
        by_cases hx1 : 1 < x
        · rw [if_pos (by omega)] at heq'
          have HG := Lib.hid heq'
          clear heq'
          go_wp2_with fail
          go_ret3
          exact ⟨by rw [← HG.out]; rfl, rfl⟩
        · by_cases hx0 : x = 0
          · rw [if_pos (by omega)] at heq'
            have HG := Lib.hid heq'
            subst hx0
            clear heq' hand
            go_wp2_with fail
            go_ret3
            exact ⟨by rw [← HG.out]; rfl, rfl⟩
          · have hx1 : x = 1 := by omega
            subst hx1
            rw [if_neg (by omega), if_pos (by omega)] at heq'
            have HG := Lib.hid heq'
            have hor := or_shift 9 acc 1 hacc0 hacc.out (by omega) (by omega)
            rw [show IntKind.u64.wrap (1 * 2 ^ (7 * 9)) = 9223372036854775808 by rw [IntKind.wrap_u64]; decide] at hor
            have HOR := Lib.hid hor
            clear heq' hor hand
            go_wp2_with fail
            go_ret3
            exact ⟨by rw [← HG.out, ← HOR.out]; rfl, rfl⟩
      · have h9b : ((k : Int) == 9) = false := by simp; omega
        by_cases hx0 : x = 0
        · subst hx0
          by_cases hk0 : k = 0
          · subst hk0
            rw [if_neg (by omega), if_pos (by omega)] at heq'
            have HG := Lib.hid heq'
            have ha0 : acc = 0 := by have := hacc.out; simp at this; omega
            subst ha0
            clear heq' hand
            have hor0 : bits .or .u64 0 0 = 0 := by decide +kernel
            have c1' : w.cell? ⟨b1, o1, none⟩ = some (.int .u8 0) := c1
            clear c1
            go_wp2_with fail
            go_ret3
            exact ⟨by rw [← HG.out]; rfl, rfl⟩
          · rw [if_pos (by omega)] at heq'
            have HG := Lib.hid heq'
            have hk0' : (0 : Int) < k := by omega
            clear heq' hand
            go_wp2_with fail
            go_ret3
            exact ⟨by rw [← HG.out]; rfl, rfl⟩
        · have hxb : (x == 0) = false := by simpa using hx0
          by_cases hx8 : x < 128
          · rw [if_neg (by omega), if_pos hx8] at heq'
            have HG := Lib.hid heq'
            have hm : x % 128 = x := by omega
            have hor := or_shift k acc x hacc0 hacc.out (by omega) (by omega)
            clear heq'
            go_wp2_with fail
            all_goals
              go_ret3
              exact ⟨by rw [← HG.out]; rfl, rfl⟩
          · rw [if_neg (by omega), if_neg hx8] at heq'
            have hm : x % 128 = x - 128 := by omega
            have hor := or_shift k acc (x - 128) hacc0 hacc.out (by omega) (by omega)
            have HEQ := Lib.hid heq'
            have hnew : acc + (x - 128) * 128 ^ k < 128 ^ (k + 1) := by
              have := hacc.out
              rw [Int.pow_succ]
              generalize (128 : Int) ^ k = p at *
              have : (x - 128) * p ≤ 127 * p := Int.mul_le_mul_of_nonneg_right (by omega) (by omega)
              omega
            have hnew0 : 0 ≤ acc + (x - 128) * 128 ^ k := by
              have : (0 : Int) ≤ (x - 128) * 128 ^ k := Int.mul_nonneg (by omega) (Int.le_of_lt (Int.pow_pos (by omega)))
              omega
            have HNEW := Lib.hid hnew
            obtain ⟨acc2, ha2⟩ : ∃ acc2, acc2 = acc + (x - 128) * 128 ^ k := ⟨_, rfl⟩
            rw [← ha2] at hor HNEW hnew0 HEQ
            clear heq' hnew ha2
            go_wp2_with fail
            all_goals
              go_round
              case rel => exact ⟨k + 1, acc2, by omega, by omega, by go_num, rfl, hnew0, HNEW, HEQ⟩
              case measure => simp [intOf]; omega
    · have hg : get1 b = (0, 0, 10) := by
        rw [← heq.out, List.drop_eq_nil_of_le (by omega)]; rfl
      have HG := Lib.hid hg
      clear heq hg
      go_wp2_with fail
      go_ret3
      exact ⟨by rw [HG.out]; rfl, rfl⟩

theorem and1_u64 (n : Int) (h0 : 0 ≤ n) (h1 : n ≤ 18446744073709551615) : bits .and .u64 n 1 = n % 2 := by
  obtain ⟨a, rfl⟩ : ∃ a : Nat, n = a := ⟨n.toNat, by omega⟩
  have h1 : (BitVec.ofInt 64 (a : Int)).toNat = a := by
    rw [BitVec.ofInt_natCast, BitVec.toNat_ofNat]; exact Nat.mod_eq_of_lt (by omega)
  have h2 : (BitVec.ofInt 64 (1 : Int)).toNat = 1 := by decide
  show IntKind.u64.wrap ((BitVec.ofInt 64 (a : Int) &&& BitVec.ofInt 64 (1 : Int)).toNat : Int) = _
  rw [BitVec.toNat_and, h1, h2, IntKind.wrap_u64, Nat.and_one_is_mod]
  omega
theorem xor_i64_zero (m : Int) (h0 : 0 ≤ m) (h1 : m ≤ 9223372036854775807) : bits .xor .i64 m 0 = m := by
  obtain ⟨a, rfl⟩ : ∃ a : Nat, m = a := ⟨m.toNat, by omega⟩
  have h1 : (BitVec.ofInt 64 (a : Int)).toNat = a := by
    rw [BitVec.ofInt_natCast, BitVec.toNat_ofNat]; exact Nat.mod_eq_of_lt (by omega)
  have h2 : (BitVec.ofInt 64 (0 : Int)).toNat = 0 := by decide
  show IntKind.i64.wrap ((BitVec.ofInt 64 (a : Int) ^^^ BitVec.ofInt 64 (0 : Int)).toNat : Int) = _
  rw [BitVec.toNat_xor, h1, h2, IntKind.wrap_i64, Nat.xor_zero]
  omega
theorem xor_i64_ones (m : Int) (h0 : 0 ≤ m) (h1 : m ≤ 9223372036854775807) : bits .xor .i64 m (-1) = -m - 1 := by
  obtain ⟨a, rfl⟩ : ∃ a : Nat, m = a := ⟨m.toNat, by omega⟩
  have h1 : (BitVec.ofInt 64 (a : Int)).toNat = a := by
    rw [BitVec.ofInt_natCast, BitVec.toNat_ofNat]; exact Nat.mod_eq_of_lt (by omega)
  have h2 : (BitVec.ofInt 64 (-1 : Int)).toNat = 2 ^ 64 - 1 := by decide
  show IntKind.i64.wrap ((BitVec.ofInt 64 (a : Int) ^^^ BitVec.ofInt 64 (-1 : Int)).toNat : Int) = _
  rw [BitVec.toNat_xor, h1, h2, IntKind.wrap_i64, xor_ones a (by omega)]
  omega
theorem xor_zz (n : Int) (h0 : 0 ≤ n) (h1 : n ≤ 18446744073709551615) : bits .xor .i64 (n / 2) (wrap64 (-wrap64 (bits .and .u64 n 1))) = unzz n := by
  rw [and1_u64 n h0 h1]
  unfold unzz
  by_cases h : n % 2 = 0
  · rw [if_pos h, h, show wrap64 (-wrap64 0) = 0 by unfold wrap64; omega, xor_i64_zero _ (by omega) (by omega)]
  · rw [if_neg h, show n % 2 = 1 by omega, show wrap64 (-wrap64 1) = -1 by unfold wrap64; omega, xor_i64_ones _ (by omega) (by omega)]

set_option maxHeartbeats 1000000 in
theorem getInt_any (b : List Int) (v : Value) (w : World) (hv : Rd eU8 w v b) (hb : ∀ x ∈ b, 0 ≤ x ∧ x ≤ 255) :
    Calls Tryd.prog 43 #[v] w fun e w' => e = .returned (.tuple #[.int .i64 (unzz (get1 b).1), .int .i64 (get1 b).2.1, .int .i64 (get1 b).2.2]) ∧ w = w' := by
  obtain ⟨n, hn⟩ : ∃ n, n = (get1 b).1 := ⟨_, rfl⟩
  obtain ⟨wd, hwd⟩ : ∃ n, n = (get1 b).2.1 := ⟨_, rfl⟩
  obtain ⟨er, her⟩ : ∃ n, n = (get1 b).2.2 := ⟨_, rfl⟩
  have hg := get_any b v w hv hb
  rw [← hn, ← hwd, ← her] at hg
  rw [← hn, ← hwd, ← her]
  have hn1 : 0 ≤ n ∧ n ≤ 18446744073709551615 := by rw [hn]; exact (get1_range b hb).1
  have HG := Lib.hid hg
  clear hg hn hwd her hv
  go_enter Tryd.func43, Tryd.ntmps43
  go_wp2_with fail
  refine HG.out.mono ?_
  rintro e w1 ⟨rfl, rfl⟩
  go_wp2_with fail
  go_ret3
  exact ⟨by rw [← xor_zz n hn1.1 hn1.2]; rfl, rfl⟩
end Go.Proofs.YtkocfgaajghggaaDoor
