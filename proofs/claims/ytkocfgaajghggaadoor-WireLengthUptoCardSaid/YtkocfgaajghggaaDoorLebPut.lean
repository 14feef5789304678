/- Layer 1: the walks of put, Put, PutInt, Width. -/
import Derived.Test.YtkocfgaajghggaaDoorLebPlain
namespace Go.Proofs.YtkocfgaajghggaaDoor
open Go.RowKit
set_option linter.unusedVariables false

abbrev eU8 : Enc Int := eInt .u8
theorem sliceU8 : SliceInfo Tryd.prog 28 5 1 1 := SliceInfo.mk' Tryd.underlying28 (z := .int .u8 0) (by kernel_rfl) rfl
theorem sliceU64 : SliceInfo Tryd.prog 67 46 1 8 := SliceInfo.mk' Tryd.underlying67 (z := .int .u64 0) (by kernel_rfl) rfl

theorem or128_nat : ∀ m : Fin 256, bits .or .u8 ((m.val : Nat) : Int) 128 = ((m.val % 128 + 128 : Nat) : Int) := by decide +kernel
theorem or128 (n : Int) : bits .or .u8 (n % 256) 128 = n % 128 + 128 := by
  have h : bits .or .u8 (((n % 256).toNat : Nat) : Int) 128 = (((n % 256).toNat % 128 + 128 : Nat) : Int) := or128_nat ⟨(n % 256).toNat, by omega⟩
  rw [show (((n % 256).toNat : Nat) : Int) = n % 256 by omega] at h
  rw [h]; omega
/-- one change behind the other, of one row or of what is new -/
theorem gthen {w w1 w2 : World} {r r' : Option Nat} (h : w.grownBy w1 r) (k : w1.grownBy w2 r') (hr : r' = r ∨ ∀ g, r' = some g → w.heap.size ≤ g) : w.grownBy w2 r :=
  ⟨k.os.trans h.os, k.tape.trans h.tape, k.output.trans h.output, Nat.le_trans h.size k.size, fun j hj hne => (k.block j (Nat.lt_of_lt_of_le hj h.size) (fun e => by
    rcases hr with rfl | hr
    · exact hne e
    · have := hr j e.symm; omega)).trans (h.block j hj hne)⟩
theorem galloc {w : World} (o : Obj) (r : Option Nat) : w.grownBy (w.alloc o) r := World.grownBy_alloc w o r

set_option maxHeartbeats 1000000 in
theorem put_any (v0 : Value) (n0 : Int) (xs0 : List Int) (w : World) (base : Nat) (hv : Ow eU8 base 5 w v0 xs0) (hb : base ≤ w.heap.size) (h0 : 0 ≤ n0) (h1 : n0 ≤ 18446744073709551615) (hl : xs0.length ≤ 200000000000000) :
    Calls Tryd.prog 35 #[v0, .int .u64 n0] w fun e w' => ∃ v', e = .returned v' ∧ Ow eU8 base 5 w' v' (xs0 ++ leb1 n0) ∧ w.grownBy w' v0.ownBlock ∧ (v'.ownBlock = v0.ownBlock ∨ ∀ g, v'.ownBlock = some g → w.heap.size ≤ g) := by
  go_enter Tryd.func35, Tryd.ntmps35
  go_wp2
  go_loopw [0, 1] (fun b nn wr => ∃ (f : Nat) (n : Int) (xs : List Int), f ≤ 9 ∧ 0 ≤ n ∧ Hid (n < 2 * 128 ^ f) ∧ nn = .int .u64 n ∧ n ≤ 18446744073709551615 ∧ Ow eU8 base 5 wr b xs ∧ Hid (xs ++ lebF f n = xs0 ++ leb1 n0) ∧ xs.length + f = xs0.length + 9 ∧ w.grownBy wr v0.ownBlock ∧ (b.ownBlock = v0.ownBlock ∨ ∀ g, b.ownBlock = some g → w.heap.size ≤ g))
    (fun _ nn _ => (intOf nn).toNat)
  case atStart => exact ⟨9, n0, xs0, by omega, h0, two64 h1, rfl, h1, hv, rfl, rfl, World.grownBy.refl _ _, .inl rfl⟩
  case round =>
    obtain ⟨f, n, xs, hf, hn0, hn1, rfl, hn2, hown, heq, hlen, hgr, hfr⟩ := hrel
    have hsz := hgr.size
    by_cases hlt : 128 ≤ n
    · have hor := or128 n
      go_wp2_with (at_builtin; refine wl_append (E := eU8) rfl _ _ _ rfl base 5 1 sliceU8 _ xs rfl (hown.alloc _) _ [n % 128 + 128] rfl (Rd.lit wr _ _ _ _ _ _ (by simp [Enc.all, eInt]) rfl (by simp) (by decide)) (by simp; omega) (by unfold maxLen; simp; omega) (by simp; omega) ?_)
      intro v' w1 hown' hgrow hfresh _
      have hstep : (xs ++ [n % 128 + 128]) ++ lebF (f - 1) (n / 128) = xs0 ++ leb1 n0 := by
        rw [← heq.out, List.append_assoc]
        congr 1
        have hf1 : f ≠ 0 := by rintro rfl; have := hn1.out; simp at this; omega
        obtain ⟨k, rfl⟩ : ∃ k, f = k + 1 := ⟨f - 1, by omega⟩
        rw [lebF, if_neg (by omega)]; rfl
      have hf1 : f ≠ 0 := by rintro rfl; have := hn1.out; simp at this; omega
      have hd : n / 128 < 2 * 128 ^ (f - 1) := by
        obtain ⟨k, rfl⟩ : ∃ k, f = k + 1 := ⟨f - 1, by omega⟩
        exact div_lt hn1.out
      have hgr2 := gthen (gthen hgr (galloc (.cells #[.int .u8 (n % 128 + 128)] 5) none) (.inr (by simp))) hgrow (hfr)
      have hfr2 : v'.ownBlock = v0.ownBlock ∨ ∀ g, v'.ownBlock = some g → w.heap.size ≤ g := by
        rcases hfresh with ⟨e, _⟩ | h
        · rw [e]; exact hfr
        · exact .inr (fun g hg => by have := h g hg; (try simp at this); omega)
      have HS := Lib.hid hstep
      have HD := Lib.hid hd
      clear hstep hd hgrow hfresh hgr hfr hown hor
      go_wp2
      go_roundw
      case rel => exact ⟨f - 1, n / 128, _, by omega, by omega, HD, rfl, by omega, hown', HS, by simp; omega, hgr2, hfr2⟩
      case measure => simp [intOf]; omega
    · have hw : IntKind.u8.wrap n = n := by rw [IntKind.wrap_u8]; omega
      go_wp2_with (at_builtin; refine wl_append (E := eU8) rfl _ _ _ rfl base 5 1 sliceU8 _ xs rfl (hown.alloc _) _ [n] rfl (Rd.lit wr _ _ _ _ _ _ (by simp [Enc.all, eInt]) rfl (by simp) (by decide)) (by simp; omega) (by unfold maxLen; simp; omega) (by simp; omega) ?_)
      intro v' w1 hown' hgrow hfresh _
      have he : xs ++ [n] = xs0 ++ leb1 n0 := by
        rw [← heq.out]
        congr 1
        cases f with
        | zero => rfl
        | succ k => rw [lebF, if_pos (by omega)]
      have hgr2 := gthen (gthen hgr (galloc (.cells #[.int .u8 n] 5) none) (.inr (by simp))) hgrow (hfr)
      have hfr2 : v'.ownBlock = v0.ownBlock ∨ ∀ g, v'.ownBlock = some g → w.heap.size ≤ g := by
        rcases hfresh with ⟨e, _⟩ | h
        · rw [e]; exact hfr
        · exact .inr (fun g hg => by have := h g hg; (try simp at this); omega)
      rw [he] at hown'
      clear hgrow hfresh hgr hfr hown he hw
      go_wp2
      go_ret
      exact ⟨_, rfl, hown', hgr2, hfr2⟩

theorem lebs_step (xs : List Int) (k : Nat) (h : k < xs.length) : lebs (xs.take (k + 1)) = lebs (xs.take k) ++ leb1 xs[k] := by
  rw [List.take_succ_eq_append_getElem h, lebs_append, lebs_one]

set_option maxHeartbeats 1000000 in
theorem puts_any (xs : List Int) (v : Value) (w : World) (hv : Rd eU64 w v xs) (hx : ∀ x ∈ xs, 0 ≤ x ∧ x ≤ 18446744073709551615) (hl : xs.length * 8 ≤ 140737488355328) :
    Calls Tryd.prog 22 #[v] w fun e w' => ∃ v', e = .returned v' ∧ Ow eU8 w.heap.size 5 w' v' (lebs xs) ∧ Below w.heap.size w w' := by
  have H := Lib.hid hx
  clear hx
  obtain ⟨hma, a, ca, rfl, _, _, ha⟩ := hv
  unfold maxLen at hma
  go_enter Tryd.func22, Tryd.ntmps22
  go_wp2
  go_loopw [3, 5, 8] (fun b _ i wr => ∃ k : Nat, k ≤ xs.length ∧ i = .int .i64 k ∧ Ow eU8 w.heap.size 5 wr b (lebs (xs.take k)) ∧ Below w.heap.size w wr) (fun _ _ i _ => xs.length - (intOf i).toNat)
  case atStart => exact ⟨0, Nat.zero_le _, rfl, Ow.nil _ _ _, Below.refl _ _⟩
  case round =>
    obtain ⟨k, hk, rfl, hown, hbel⟩ := hrel
    by_cases hlt : k < xs.length
    · obtain ⟨b1, o1, rfl, h1⟩ := ha (by omega)
      have c1 := h1 k _ (eU64_at xs k hlt)
      have c2 := (hbel.cell (p := ⟨b1, o1 + k, none⟩) (World.block_lt_of_cell? w _ c1)).trans c1
      clear c1 ha h1
      have hst := lebs_step xs k hlt
      have hle := (lebs_len (xs.take k)).2
      have hlt' : (xs.take k).length ≤ k := List.length_take_le _ _
      have hsz := hbel.size
      obtain ⟨x, hx⟩ : ∃ x, x = xs[k] := ⟨_, rfl⟩
      have hxr := H.out _ (List.getElem_mem hlt)
      rw [← hx] at c2 hst hxr
      have HS := Lib.hid hst
      clear hx hst
      go_wp2_with fail
      refine (put_any _ x _ wr w.heap.size hown hsz hxr.1 hxr.2 (by omega)).mono ?_
      rintro e w1 ⟨v1, rfl, hown1, hgr1, _⟩
      have hb1 := hbel.grown hgr1 hsz (fun j hj => (hown.lt hj).1)
      rw [← HS.out] at hown1
      clear hown hgr1
      go_wp2_with fail
      go_roundw
      case rel => exact ⟨k + 1, by omega, by go_num, hown1, hb1⟩
      case measure => simp [intOf]; omega
    · go_wp2
      go_ret
      rw [List.take_of_length_le (by omega)] at hown
      exact ⟨_, rfl, hown, hbel⟩

theorem Ow.len {α : Type} {E : Enc α} {base ty : Nat} {w : World} {v : Value} {xs : List α} (h : Ow E base ty w v xs) : ∃ ao cap, v = .slice ao xs.length cap := by
  obtain ⟨_, ao, cap, h, _⟩ := h; exact ⟨ao, cap, h⟩

set_option maxHeartbeats 400000 in
theorem width_any (xs : List Int) (v : Value) (w : World) (hv : Rd eU64 w v xs) (hx : ∀ x ∈ xs, 0 ≤ x ∧ x ≤ 18446744073709551615) (hl : xs.length * 8 ≤ 140737488355328) :
    Calls Tryd.prog 16 #[v] w fun e w' => e = .returned (.int .i64 ((lebs xs).length : Nat)) ∧ Below w.heap.size w w' := by
  go_enter Tryd.func16, Tryd.ntmps16
  go_wp2_with fail
  refine (puts_any xs v w hv hx hl).mono ?_
  rintro e w1 ⟨v1, rfl, hown, hb⟩
  obtain ⟨ao, cap, rfl⟩ := hown.len
  clear hv hx hown
  go_wp2_with fail
  go_ret
  exact ⟨rfl, hb⟩

theorem xor_ones (a : Nat) (h : a < 2 ^ 64) : a ^^^ (2 ^ 64 - 1) = 2 ^ 64 - (a + 1) := by
  apply Nat.eq_of_testBit_eq
  intro i
  rw [Nat.testBit_xor, Nat.testBit_two_pow_sub_one, Nat.testBit_two_pow_sub_succ h]
  by_cases hi : i < 64
  · simp [hi]
  · have : a.testBit i = false := Nat.testBit_lt_two_pow (Nat.lt_of_lt_of_le h (Nat.pow_le_pow_right (by omega) (by omega)))
    simp [hi, this]
theorem zz_bits (n : Int) (h : -9223372036854775808 ≤ n ∧ n ≤ 9223372036854775807) : bits .xor .u64 (IntKind.u64.wrap (IntKind.u64.wrap n * 2)) (IntKind.u64.wrap (n / 9223372036854775808)) = zz n := by
  simp only [IntKind.wrap_u64]
  obtain ⟨a, ha⟩ : ∃ a : Nat, n % 18446744073709551616 * 2 % 18446744073709551616 = a := ⟨(n % 18446744073709551616 * 2 % 18446744073709551616).toNat, by omega⟩
  have hal : a < 18446744073709551616 := by omega
  rw [ha]
  unfold zz
  by_cases hn : 0 ≤ n
  · rw [if_pos hn, show n / 9223372036854775808 % 18446744073709551616 = ((0 : Nat) : Int) by omega, bits_xor_u64_nat a 0 hal (by omega), Nat.xor_zero]
    omega
  · rw [if_neg hn, show n / 9223372036854775808 % 18446744073709551616 = ((2 ^ 64 - 1 : Nat) : Int) by omega, bits_xor_u64_nat a _ hal (by omega), xor_ones a (by omega)]
    omega

set_option maxHeartbeats 1000000 in
theorem putInts_any (xs : List Int) (v : Value) (w : World) (hv : Rd (eInt .i64) w v xs) (hx : ∀ x ∈ xs, -9223372036854775808 ≤ x ∧ x ≤ 9223372036854775807) (hl : xs.length * 8 ≤ 140737488355328) :
    Calls Tryd.prog 17 #[v] w fun e w' => ∃ v', e = .returned v' ∧ Ow eU8 w.heap.size 5 w' v' (lebs (xs.map zz)) ∧ Below w.heap.size w w' := by
  have H := Lib.hid hx
  clear hx
  obtain ⟨hma, a, ca, rfl, _, _, ha⟩ := hv
  unfold maxLen at hma
  go_enter Tryd.func17, Tryd.ntmps17
  go_wp2
  go_loopw [3, 5, 8] (fun b _ i wr => ∃ k : Nat, k ≤ xs.length ∧ i = .int .i64 k ∧ Ow eU8 w.heap.size 5 wr b (lebs ((xs.take k).map zz)) ∧ Below w.heap.size w wr) (fun _ _ i _ => xs.length - (intOf i).toNat)
  case atStart => exact ⟨0, Nat.zero_le _, rfl, Ow.nil _ _ _, Below.refl _ _⟩
  case round =>
    obtain ⟨k, hk, rfl, hown, hbel⟩ := hrel
    by_cases hlt : k < xs.length
    · obtain ⟨b1, o1, rfl, h1⟩ := ha (by omega)
      have c1 := h1 k _ (eInt_at .i64 xs k hlt)
      have c2 := (hbel.cell (p := ⟨b1, o1 + k, none⟩) (World.block_lt_of_cell? w _ c1)).trans c1
      clear c1 ha h1
      obtain ⟨x, hx⟩ : ∃ x, x = xs[k] := ⟨_, rfl⟩
      have hxr := H.out _ (List.getElem_mem hlt)
      rw [← hx] at c2 hxr
      have hst : lebs ((xs.take (k + 1)).map zz) = lebs ((xs.take k).map zz) ++ leb1 (zz x) := by
        rw [List.take_succ_eq_append_getElem hlt, List.map_append, lebs_append, hx]
        simp [lebs]
      have hle := (lebs_len ((xs.take k).map zz)).2
      have hlt' : ((xs.take k).map zz).length ≤ k := by rw [List.length_map]; exact List.length_take_le _ _
      have hsz := hbel.size
      have hzr := zz_range x hxr
      have HZ := Lib.hid (zz_bits x hxr)
      have HS := Lib.hid hst
      clear hx hst
      go_wp2_with fail
      rw [HZ.out]
      refine (put_any _ (zz x) _ wr w.heap.size hown hsz hzr.1 hzr.2 (by omega)).mono ?_
      rintro e w1 ⟨v1, rfl, hown1, hgr1, _⟩
      have hb1 := hbel.grown hgr1 hsz (fun j hj => (hown.lt hj).1)
      rw [← HS.out] at hown1
      clear hown hgr1
      go_wp2_with fail
      go_roundw
      case rel => exact ⟨k + 1, by omega, by go_num, hown1, hb1⟩
      case measure => simp [intOf]; omega
    · go_wp2
      go_ret
      rw [List.take_of_length_le (by omega)] at hown
      exact ⟨_, rfl, hown, hbel⟩
end Go.Proofs.YtkocfgaajghggaaDoor
