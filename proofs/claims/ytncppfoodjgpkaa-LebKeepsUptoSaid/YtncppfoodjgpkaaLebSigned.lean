/- The law LebSigned: its walk. -/
import Derived.Test.YtncppfoodjgpkaaLebAwake
import Derived.Test.YtncppfoodjgpkaaGuard
namespace Go.Proofs.Ytncppfoodjgpkaa
open Go.RowKit
set_option linter.unusedVariables false

theorem get_leb (n : Int) (v : Value) (w : World) (h0 : 0 ≤ n ∧ n ≤ 18446744073709551615) (hv : Rd eU8 w v (leb1 n)) :
    Calls Try.prog 14 #[v] w fun e w' => e = .returned (.tuple #[.int .u64 n, .int .i64 ((leb1 n).length : Int), .int .i64 0]) ∧ w = w' := by
  have h := get_any (leb1 n) v w hv (leb1_bytes n h0.1 h0.2)
  have hg := get1_leb1 n [] h0.1 h0.2
  rw [List.append_nil] at hg
  rw [hg] at h
  exact h
theorem lebs_zz (a : Int) : lebs (List.map zz [a]) = leb1 (zz a) := by simp [lebs_one]
theorem lebs_zz2 (a b : Int) : lebs (List.map zz [a]) ++ lebs (List.map zz [b]) = lebs (List.map zz [a, b]) := by simp [lebs]

set_option maxRecDepth 100000 in
set_option maxHeartbeats 4000000 in
theorem lebSigned_posNe (a b : Int) (w : World) (ha : -9223372036854775808 ≤ a ∧ a ≤ 9223372036854775807) (hb : -9223372036854775808 ≤ b ∧ b ≤ 9223372036854775807) (hs : 0 ≤ a) (hne : a ≠ b) :
    Calls Try.prog 5 #[.int .i64 a, .int .i64 b] w fun e w' => e = .returned (.bool true) ∧ Below w.heap.size w w' := by
  have hza := zz_range a ha
  have hzc := zz_range (a) (by omega)
  have hzd := zz_range (-a - 1) (by omega)
  have HA : Hid (∀ x ∈ [a], -9223372036854775808 ≤ x ∧ x ≤ 9223372036854775807) := by intro x hx; simp at hx; omega
  have HB : Hid (∀ x ∈ [b], -9223372036854775808 ≤ x ∧ x ≤ 9223372036854775807) := by intro x hx; simp at hx; omega
  have HAB : Hid (∀ x ∈ [a, b], -9223372036854775808 ≤ x ∧ x ≤ 9223372036854775807) := by intro x hx; simp at hx; omega
  have HC : Hid (∀ x ∈ [-a - 1], -9223372036854775808 ≤ x ∧ x ≤ 9223372036854775807) := by intro x hx; simp at hx; omega
  have hE : zz (a) = 2 * (a) := by unfold zz; rw [if_pos (by omega)]
  have hM : zz (-a - 1) = 2 * (a) + 1 := by unfold zz; rw [if_neg (by omega)]; omega
  have hLL : (leb1 (zz (-a - 1))).length = (leb1 (zz (a))).length := by rw [hE, hM]; exact lebF_even 9 _
  have hlc := leb1_len (zz (a))
  obtain ⟨zc, hzcE⟩ : ∃ z, z = zz (a) := ⟨_, rfl⟩
  obtain ⟨zd, hzdE⟩ : ∃ z, z = zz (-a - 1) := ⟨_, rfl⟩
  rw [← hzcE] at hzc hE hLL hlc
  rw [← hzdE] at hzd hM hLL
  have HZC := Lib.hid hzcE
  have HZD := Lib.hid hzdE
  obtain ⟨lc, hlcE⟩ : ∃ z, z = (leb1 zc).length := ⟨_, rfl⟩
  rw [← hlcE] at hLL hlc
  have HLC := Lib.hid hlcE
  have HLD := Lib.hid hLL
  have hzcd : zd = zc + 1 := by omega
  subst hzcd
  have hzev : (zc % 2 == 0) = true := by simp; omega
  have hzle : zc ≤ 18446744073709551614 := by omega
  clear hzcE hzdE hE hM hlcE hLL
  obtain ⟨ha0, ha1⟩ := ha
  obtain ⟨hb0, hb1⟩ := hb
  go_enter Try.func5, Try.ntmps5
  go_wp2_with fail
  refine (awake_any _).mono ?_
  rintro e w1 ⟨rfl, hb1'⟩
  have hsz1 := hb1'.size
  go_wp2_with fail
  refine (putInts_any [a] _ _ (rd_lit w1 _ _ _ _ rfl rfl (by simp [maxLen])) HA.out (by simp)).mono ?_
  rintro e w2 ⟨v2, rfl, hown2, hb2⟩
  have hb2' := (hb1'.alloc hsz1 _).trans (hb2.mono (by simp; omega))
  have hsz2 := hb2'.size
  go_wp2_with fail
  refine (putInts_any [b] _ _ (rd_lit w2 _ _ _ _ rfl rfl (by simp [maxLen])) HB.out (by simp)).mono ?_
  rintro e w3 ⟨v3, rfl, hown3, hb3⟩
  have hb3' := (hb2'.alloc hsz2 _).trans (hb3.mono (by simp; omega))
  have hsz3 := hb3'.size
  have hr2 := (hown2.rd.alloc (.cells #[.int .i64 b] 2)).grow hb3
  go_wp2_with fail
  refine (same_any _ _ _ _ w3 hr2 hown3.rd).mono ?_
  rintro e w4 ⟨rfl, n4, rfl⟩
  have hb4' := below_drewN hb3' n4
  have hsz4 := hb4'.size
  have hqf : decide (List.map zz [a] = List.map zz [b]) = false := by simp; intro h; apply hne; rw [← unzz_zz a, ← unzz_zz b, h]
  have hq : decide (lebs (List.map zz [a]) = lebs (List.map zz [b])) = false := by
    simp only [lebs_zz]
    have h2 : leb1 (zz a) ≠ leb1 (zz b) := by
      intro h
      have h2 := leb1_inj hza (zz_range b ⟨hb0, hb1⟩) h
      apply hne
      rw [← unzz_zz a, ← unzz_zz b, h2]
    simpa using h2
  have hzab : lebs [zz a] ≠ lebs [zz b] := by simpa using hq
  have hab : (a == b) = false := by simpa using hne
  clear hown2 hown3 hr2 hb2 hb3 hb2' hb3' hb1' hsz1 hsz2 hsz3
  generalize w3.drewN n4 = w5 at *
  go_wp2_with fail
  refine (putInts_any [a] _ _ (rd_lit w5 _ _ _ _ rfl rfl (by simp [maxLen])) HA.out (by simp)).mono ?_
  rintro e w6 ⟨v6, rfl, hown6, hb6⟩
  have hb6' := (hb4'.alloc hsz4 _).trans (hb6.mono (by simp; omega))
  have hsz6 := hb6'.size
  have hr6 := hown6.rd
  rw [lebs_zz, ← HZC.out] at hr6
  go_wp2_with fail
  refine (get_leb zc v6 w6 hzc hr6).mono ?_
  rintro e w7 ⟨rfl, rfl⟩
  rw [← HLC.out]
  clear hown6 hr6 hb6 hb4' hsz4
  go_wp2_with fail
  refine (putInts_any [-a - 1] _ _ (rd_lit w6 _ _ _ _ rfl rfl (by simp [maxLen])) HC.out (by simp)).mono ?_
  rintro e w8 ⟨v8, rfl, hown8, hb8⟩
  have hb8' := (hb6'.alloc hsz6 _).trans (hb8.mono (by simp; omega))
  have hsz8 := hb8'.size
  have hr8 := hown8.rd
  rw [lebs_zz, ← HZD.out] at hr8
  go_wp2_with fail
  refine (get_leb (zc + 1) v8 w8 hzd hr8).mono ?_
  rintro e w9 ⟨rfl, rfl⟩
  rw [HLD.out]
  clear hown8 hr8 hb8 hb6' hsz6
  have hge : decide (((lc : Nat) : Int) ≤ ((lc : Nat) : Int)) = true := by simp
  have hlc10 : ((lc : Nat) : Int) ≤ 10 := by omega
  have heqq : (zc + 1 == zc + 1) = true := by simp
  go_wp2_with fail
  refine (putInts_any [a] _ _ (rd_lit w8 _ _ _ _ rfl rfl (by simp [maxLen])) HA.out (by simp)).mono ?_
  rintro e w10 ⟨v10, rfl, hown10, hb10⟩
  have hb10' := (hb8'.alloc hsz8 _).trans (hb10.mono (by simp; omega))
  have hsz10 := hb10'.size
  go_wp2_with fail
  refine (putInts_any [b] _ _ (rd_lit w10 _ _ _ _ rfl rfl (by simp [maxLen])) HB.out (by simp)).mono ?_
  rintro e w11 ⟨v11, rfl, hown11, hb11⟩
  have hb11' := (hb10'.alloc hsz10 _).trans (hb11.mono (by simp; omega))
  have hb1011 := (((Below.refl w10.heap.size w10).alloc (Nat.le_refl _) _).trans (hb11.mono (by simp)))
  have hsz11 := hb11'.size
  have hown10' := (hown10.grow hb1011).mono (show w.heap.size ≤ _ by simp; omega)
  have hr11 := hown11.rd
  have hl1 := (lebs_len (List.map zz [a])).2
  have hl2 := (lebs_len (List.map zz [b])).2
  have HLL := Lib.hid (lebs_zz2 a b)
  obtain ⟨L, hL⟩ : ∃ L, L = lebs (List.map zz [a]) := ⟨_, rfl⟩
  obtain ⟨L2, hL2⟩ : ∃ L, L = lebs (List.map zz [b]) := ⟨_, rfl⟩
  have HL := Lib.hid hL
  have HL2 := Lib.hid hL2
  rw [← hL] at hl1 hown10'
  rw [← hL2] at hl2 hr11
  simp only [List.length_map, List.length_cons, List.length_nil] at hl1 hl2
  clear hL hL2 hown10 hown11 hb10 hb11 hb10' hb1011 hsz10 hb8' hsz8
  go_wp2_with (at_builtin; refine wl_appendG (E := eU8) rfl _ (.tmp 86) _ rfl w.heap.size 5 1 sliceU8 _ L rfl hown10' _ L2 rfl hr11 (by omega) (by unfold maxLen; omega) hsz11 ?_)
  intro v12 w12 hown12 hgrow12 _ _
  have hb12 := hb11'.grown hgrow12 hsz11 (fun j hj => (hown10'.lt hj).1)
  have hsz12 := hb12.size
  clear hgrow12 hown10' hr11
  go_wp2_with fail
  refine (putInts_any [a, b] _ _ (rd_lit w12 _ _ _ _ rfl rfl (by simp [maxLen])) HAB.out (by simp)).mono ?_
  rintro e w13 ⟨v13, rfl, hown13, hb13⟩
  have hb13' := (hb12.alloc hsz12 _).trans (hb13.mono (by simp; omega))
  have hr12 := (hown12.rd.alloc (.cells #[.int .i64 a, .int .i64 b] 2)).grow hb13
  rw [HL.out, HL2.out, HLL.out] at hr12
  go_wp2_with fail
  refine (same_bel _ _ _ w13 hr12 hown13.rd).mono ?_
  rintro e w14 ⟨rfl, hb14⟩
  have hb14' := bthen hb13' hb14
  clear hown13 hb13 hb14 hr12 hown12 hb12 hb13'
  go_wp2_with fail
  go_ret
  exact ⟨rfl, hb14'⟩

set_option maxRecDepth 100000 in
set_option maxHeartbeats 4000000 in
theorem lebSigned_posEq (a : Int) (w : World) (ha : -9223372036854775808 ≤ a ∧ a ≤ 9223372036854775807) (hs : 0 ≤ a) :
    Calls Try.prog 5 #[.int .i64 a, .int .i64 a] w fun e w' => e = .returned (.bool true) ∧ Below w.heap.size w w' := by
  have hza := zz_range a ha
  have hzc := zz_range (a) (by omega)
  have hzd := zz_range (-a - 1) (by omega)
  have HA : Hid (∀ x ∈ [a], -9223372036854775808 ≤ x ∧ x ≤ 9223372036854775807) := by intro x hx; simp at hx; omega
  have HB : Hid (∀ x ∈ [a], -9223372036854775808 ≤ x ∧ x ≤ 9223372036854775807) := by intro x hx; simp at hx; omega
  have HAB : Hid (∀ x ∈ [a, a], -9223372036854775808 ≤ x ∧ x ≤ 9223372036854775807) := by intro x hx; simp at hx; omega
  have HC : Hid (∀ x ∈ [-a - 1], -9223372036854775808 ≤ x ∧ x ≤ 9223372036854775807) := by intro x hx; simp at hx; omega
  have hE : zz (a) = 2 * (a) := by unfold zz; rw [if_pos (by omega)]
  have hM : zz (-a - 1) = 2 * (a) + 1 := by unfold zz; rw [if_neg (by omega)]; omega
  have hLL : (leb1 (zz (-a - 1))).length = (leb1 (zz (a))).length := by rw [hE, hM]; exact lebF_even 9 _
  have hlc := leb1_len (zz (a))
  obtain ⟨zc, hzcE⟩ : ∃ z, z = zz (a) := ⟨_, rfl⟩
  obtain ⟨zd, hzdE⟩ : ∃ z, z = zz (-a - 1) := ⟨_, rfl⟩
  rw [← hzcE] at hzc hE hLL hlc
  rw [← hzdE] at hzd hM hLL
  have HZC := Lib.hid hzcE
  have HZD := Lib.hid hzdE
  obtain ⟨lc, hlcE⟩ : ∃ z, z = (leb1 zc).length := ⟨_, rfl⟩
  rw [← hlcE] at hLL hlc
  have HLC := Lib.hid hlcE
  have HLD := Lib.hid hLL
  have hzcd : zd = zc + 1 := by omega
  subst hzcd
  have hzev : (zc % 2 == 0) = true := by simp; omega
  have hzle : zc ≤ 18446744073709551614 := by omega
  clear hzcE hzdE hE hM hlcE hLL
  obtain ⟨ha0, ha1⟩ := ha
  go_enter Try.func5, Try.ntmps5
  go_wp2_with fail
  refine (awake_any _).mono ?_
  rintro e w1 ⟨rfl, hb1'⟩
  have hsz1 := hb1'.size
  go_wp2_with fail
  refine (putInts_any [a] _ _ (rd_lit w1 _ _ _ _ rfl rfl (by simp [maxLen])) HA.out (by simp)).mono ?_
  rintro e w2 ⟨v2, rfl, hown2, hb2⟩
  have hb2' := (hb1'.alloc hsz1 _).trans (hb2.mono (by simp; omega))
  have hsz2 := hb2'.size
  go_wp2_with fail
  refine (putInts_any [a] _ _ (rd_lit w2 _ _ _ _ rfl rfl (by simp [maxLen])) HB.out (by simp)).mono ?_
  rintro e w3 ⟨v3, rfl, hown3, hb3⟩
  have hb3' := (hb2'.alloc hsz2 _).trans (hb3.mono (by simp; omega))
  have hsz3 := hb3'.size
  have hr2 := (hown2.rd.alloc (.cells #[.int .i64 a] 2)).grow hb3
  go_wp2_with fail
  refine (same_any _ _ _ _ w3 hr2 hown3.rd).mono ?_
  rintro e w4 ⟨rfl, n4, rfl⟩
  have hb4' := below_drewN hb3' n4
  have hsz4 := hb4'.size
  have hq : decide (lebs (List.map zz [a]) = lebs (List.map zz [a])) = true := by simp
  have hab : (a == a) = true := by simp
  clear hown2 hown3 hr2 hb2 hb3 hb2' hb3' hb1' hsz1 hsz2 hsz3
  generalize w3.drewN n4 = w5 at *
  go_wp2_with fail
  refine (putInts_any [a] _ _ (rd_lit w5 _ _ _ _ rfl rfl (by simp [maxLen])) HA.out (by simp)).mono ?_
  rintro e w6 ⟨v6, rfl, hown6, hb6⟩
  have hb6' := (hb4'.alloc hsz4 _).trans (hb6.mono (by simp; omega))
  have hsz6 := hb6'.size
  have hr6 := hown6.rd
  rw [lebs_zz, ← HZC.out] at hr6
  go_wp2_with fail
  refine (get_leb zc v6 w6 hzc hr6).mono ?_
  rintro e w7 ⟨rfl, rfl⟩
  rw [← HLC.out]
  clear hown6 hr6 hb6 hb4' hsz4
  go_wp2_with fail
  refine (putInts_any [-a - 1] _ _ (rd_lit w6 _ _ _ _ rfl rfl (by simp [maxLen])) HC.out (by simp)).mono ?_
  rintro e w8 ⟨v8, rfl, hown8, hb8⟩
  have hb8' := (hb6'.alloc hsz6 _).trans (hb8.mono (by simp; omega))
  have hsz8 := hb8'.size
  have hr8 := hown8.rd
  rw [lebs_zz, ← HZD.out] at hr8
  go_wp2_with fail
  refine (get_leb (zc + 1) v8 w8 hzd hr8).mono ?_
  rintro e w9 ⟨rfl, rfl⟩
  rw [HLD.out]
  clear hown8 hr8 hb8 hb6' hsz6
  have hge : decide (((lc : Nat) : Int) ≤ ((lc : Nat) : Int)) = true := by simp
  have hlc10 : ((lc : Nat) : Int) ≤ 10 := by omega
  have heqq : (zc + 1 == zc + 1) = true := by simp
  go_wp2_with fail
  refine (putInts_any [a] _ _ (rd_lit w8 _ _ _ _ rfl rfl (by simp [maxLen])) HA.out (by simp)).mono ?_
  rintro e w10 ⟨v10, rfl, hown10, hb10⟩
  have hb10' := (hb8'.alloc hsz8 _).trans (hb10.mono (by simp; omega))
  have hsz10 := hb10'.size
  go_wp2_with fail
  refine (putInts_any [a] _ _ (rd_lit w10 _ _ _ _ rfl rfl (by simp [maxLen])) HB.out (by simp)).mono ?_
  rintro e w11 ⟨v11, rfl, hown11, hb11⟩
  have hb11' := (hb10'.alloc hsz10 _).trans (hb11.mono (by simp; omega))
  have hb1011 := (((Below.refl w10.heap.size w10).alloc (Nat.le_refl _) _).trans (hb11.mono (by simp)))
  have hsz11 := hb11'.size
  have hown10' := (hown10.grow hb1011).mono (show w.heap.size ≤ _ by simp; omega)
  have hr11 := hown11.rd
  have hl1 := (lebs_len (List.map zz [a])).2
  have hl2 := (lebs_len (List.map zz [a])).2
  have HLL := Lib.hid (lebs_zz2 a a)
  obtain ⟨L, hL⟩ : ∃ L, L = lebs (List.map zz [a]) := ⟨_, rfl⟩
  obtain ⟨L2, hL2⟩ : ∃ L, L = lebs (List.map zz [a]) := ⟨_, rfl⟩
  have HL := Lib.hid hL
  have HL2 := Lib.hid hL2
  rw [← hL] at hl1 hown10'
  rw [← hL2] at hl2 hr11
  simp only [List.length_map, List.length_cons, List.length_nil] at hl1 hl2
  clear hL hL2 hown10 hown11 hb10 hb11 hb10' hb1011 hsz10 hb8' hsz8
  go_wp2_with (at_builtin; refine wl_appendG (E := eU8) rfl _ (.tmp 86) _ rfl w.heap.size 5 1 sliceU8 _ L rfl hown10' _ L2 rfl hr11 (by omega) (by unfold maxLen; omega) hsz11 ?_)
  intro v12 w12 hown12 hgrow12 _ _
  have hb12 := hb11'.grown hgrow12 hsz11 (fun j hj => (hown10'.lt hj).1)
  have hsz12 := hb12.size
  clear hgrow12 hown10' hr11
  go_wp2_with fail
  refine (putInts_any [a, a] _ _ (rd_lit w12 _ _ _ _ rfl rfl (by simp [maxLen])) HAB.out (by simp)).mono ?_
  rintro e w13 ⟨v13, rfl, hown13, hb13⟩
  have hb13' := (hb12.alloc hsz12 _).trans (hb13.mono (by simp; omega))
  have hr12 := (hown12.rd.alloc (.cells #[.int .i64 a, .int .i64 a] 2)).grow hb13
  rw [HL.out, HL2.out, HLL.out] at hr12
  go_wp2_with fail
  refine (same_bel _ _ _ w13 hr12 hown13.rd).mono ?_
  rintro e w14 ⟨rfl, hb14⟩
  have hb14' := bthen hb13' hb14
  clear hown13 hb13 hb14 hr12 hown12 hb12 hb13'
  go_wp2_with fail
  go_ret
  exact ⟨rfl, hb14'⟩

set_option maxRecDepth 100000 in
set_option maxHeartbeats 4000000 in
theorem lebSigned_negNe (a b : Int) (w : World) (ha : -9223372036854775808 ≤ a ∧ a ≤ 9223372036854775807) (hb : -9223372036854775808 ≤ b ∧ b ≤ 9223372036854775807) (hs : a < 0) (hne : a ≠ b) :
    Calls Try.prog 5 #[.int .i64 a, .int .i64 b] w fun e w' => e = .returned (.bool true) ∧ Below w.heap.size w w' := by
  have hza := zz_range a ha
  have hzc := zz_range (-a - 1) (by omega)
  have hzd := zz_range (a) (by omega)
  have HA : Hid (∀ x ∈ [a], -9223372036854775808 ≤ x ∧ x ≤ 9223372036854775807) := by intro x hx; simp at hx; omega
  have HB : Hid (∀ x ∈ [b], -9223372036854775808 ≤ x ∧ x ≤ 9223372036854775807) := by intro x hx; simp at hx; omega
  have HAB : Hid (∀ x ∈ [a, b], -9223372036854775808 ≤ x ∧ x ≤ 9223372036854775807) := by intro x hx; simp at hx; omega
  have HC : Hid (∀ x ∈ [-a - 1], -9223372036854775808 ≤ x ∧ x ≤ 9223372036854775807) := by intro x hx; simp at hx; omega
  have hE : zz (-a - 1) = 2 * (-a - 1) := by unfold zz; rw [if_pos (by omega)]
  have hM : zz (a) = 2 * (-a - 1) + 1 := by unfold zz; rw [if_neg (by omega)]; omega
  have hLL : (leb1 (zz (a))).length = (leb1 (zz (-a - 1))).length := by rw [hE, hM]; exact lebF_even 9 _
  have hlc := leb1_len (zz (-a - 1))
  obtain ⟨zc, hzcE⟩ : ∃ z, z = zz (-a - 1) := ⟨_, rfl⟩
  obtain ⟨zd, hzdE⟩ : ∃ z, z = zz (a) := ⟨_, rfl⟩
  rw [← hzcE] at hzc hE hLL hlc
  rw [← hzdE] at hzd hM hLL
  have HZC := Lib.hid hzcE
  have HZD := Lib.hid hzdE
  obtain ⟨lc, hlcE⟩ : ∃ z, z = (leb1 zc).length := ⟨_, rfl⟩
  rw [← hlcE] at hLL hlc
  have HLC := Lib.hid hlcE
  have HLD := Lib.hid hLL
  have hzcd : zd = zc + 1 := by omega
  subst hzcd
  have hzev : (zc % 2 == 0) = true := by simp; omega
  have hzle : zc ≤ 18446744073709551614 := by omega
  clear hzcE hzdE hE hM hlcE hLL
  obtain ⟨ha0, ha1⟩ := ha
  have HWR : Hid (wrap64 (wrap64 (-a) - 1) = -a - 1) := by show wrap64 (wrap64 (-a) - 1) = -a - 1; unfold wrap64; omega
  have hwt : ¬ (wrap64 (wrap64 (-a) - 1) ≤ a) := by rw [HWR.out]; omega
  have hwt2 : a ≤ wrap64 (wrap64 (-a) - 1) := by rw [HWR.out]; omega
  obtain ⟨hb0, hb1⟩ := hb
  go_enter Try.func5, Try.ntmps5
  go_wp2_with fail
  refine (awake_any _).mono ?_
  rintro e w1 ⟨rfl, hb1'⟩
  have hsz1 := hb1'.size
  go_wp2_with fail
  refine (putInts_any [a] _ _ (rd_lit w1 _ _ _ _ rfl rfl (by simp [maxLen])) HA.out (by simp)).mono ?_
  rintro e w2 ⟨v2, rfl, hown2, hb2⟩
  have hb2' := (hb1'.alloc hsz1 _).trans (hb2.mono (by simp; omega))
  have hsz2 := hb2'.size
  go_wp2_with fail
  refine (putInts_any [b] _ _ (rd_lit w2 _ _ _ _ rfl rfl (by simp [maxLen])) HB.out (by simp)).mono ?_
  rintro e w3 ⟨v3, rfl, hown3, hb3⟩
  have hb3' := (hb2'.alloc hsz2 _).trans (hb3.mono (by simp; omega))
  have hsz3 := hb3'.size
  have hr2 := (hown2.rd.alloc (.cells #[.int .i64 b] 2)).grow hb3
  go_wp2_with fail
  refine (same_any _ _ _ _ w3 hr2 hown3.rd).mono ?_
  rintro e w4 ⟨rfl, n4, rfl⟩
  have hb4' := below_drewN hb3' n4
  have hsz4 := hb4'.size
  have hqf : decide (List.map zz [a] = List.map zz [b]) = false := by simp; intro h; apply hne; rw [← unzz_zz a, ← unzz_zz b, h]
  have hq : decide (lebs (List.map zz [a]) = lebs (List.map zz [b])) = false := by
    simp only [lebs_zz]
    have h2 : leb1 (zz a) ≠ leb1 (zz b) := by
      intro h
      have h2 := leb1_inj hza (zz_range b ⟨hb0, hb1⟩) h
      apply hne
      rw [← unzz_zz a, ← unzz_zz b, h2]
    simpa using h2
  have hzab : lebs [zz a] ≠ lebs [zz b] := by simpa using hq
  have hab : (a == b) = false := by simpa using hne
  clear hown2 hown3 hr2 hb2 hb3 hb2' hb3' hb1' hsz1 hsz2 hsz3
  generalize w3.drewN n4 = w5 at *
  go_wp2_with fail
  simp only [HWR.out]
  refine (putInts_any [-a - 1] _ _ (rd_lit w5 _ _ _ _ rfl rfl (by simp [maxLen])) HC.out (by simp)).mono ?_
  rintro e w6 ⟨v6, rfl, hown6, hb6⟩
  have hb6' := (hb4'.alloc hsz4 _).trans (hb6.mono (by simp; omega))
  have hsz6 := hb6'.size
  have hr6 := hown6.rd
  rw [lebs_zz, ← HZC.out] at hr6
  go_wp2_with fail
  refine (get_leb zc v6 w6 hzc hr6).mono ?_
  rintro e w7 ⟨rfl, rfl⟩
  rw [← HLC.out]
  clear hown6 hr6 hb6 hb4' hsz4
  go_wp2_with fail
  refine (putInts_any [a] _ _ (rd_lit w6 _ _ _ _ rfl rfl (by simp [maxLen])) HA.out (by simp)).mono ?_
  rintro e w8 ⟨v8, rfl, hown8, hb8⟩
  have hb8' := (hb6'.alloc hsz6 _).trans (hb8.mono (by simp; omega))
  have hsz8 := hb8'.size
  have hr8 := hown8.rd
  rw [lebs_zz, ← HZD.out] at hr8
  go_wp2_with fail
  refine (get_leb (zc + 1) v8 w8 hzd hr8).mono ?_
  rintro e w9 ⟨rfl, rfl⟩
  rw [HLD.out]
  clear hown8 hr8 hb8 hb6' hsz6
  have hge : decide (((lc : Nat) : Int) ≤ ((lc : Nat) : Int)) = true := by simp
  have hlc10 : ((lc : Nat) : Int) ≤ 10 := by omega
  have heqq : (zc + 1 == zc + 1) = true := by simp
  go_wp2_with fail
  refine (putInts_any [a] _ _ (rd_lit w8 _ _ _ _ rfl rfl (by simp [maxLen])) HA.out (by simp)).mono ?_
  rintro e w10 ⟨v10, rfl, hown10, hb10⟩
  have hb10' := (hb8'.alloc hsz8 _).trans (hb10.mono (by simp; omega))
  have hsz10 := hb10'.size
  go_wp2_with fail
  refine (putInts_any [b] _ _ (rd_lit w10 _ _ _ _ rfl rfl (by simp [maxLen])) HB.out (by simp)).mono ?_
  rintro e w11 ⟨v11, rfl, hown11, hb11⟩
  have hb11' := (hb10'.alloc hsz10 _).trans (hb11.mono (by simp; omega))
  have hb1011 := (((Below.refl w10.heap.size w10).alloc (Nat.le_refl _) _).trans (hb11.mono (by simp)))
  have hsz11 := hb11'.size
  have hown10' := (hown10.grow hb1011).mono (show w.heap.size ≤ _ by simp; omega)
  have hr11 := hown11.rd
  have hl1 := (lebs_len (List.map zz [a])).2
  have hl2 := (lebs_len (List.map zz [b])).2
  have HLL := Lib.hid (lebs_zz2 a b)
  obtain ⟨L, hL⟩ : ∃ L, L = lebs (List.map zz [a]) := ⟨_, rfl⟩
  obtain ⟨L2, hL2⟩ : ∃ L, L = lebs (List.map zz [b]) := ⟨_, rfl⟩
  have HL := Lib.hid hL
  have HL2 := Lib.hid hL2
  rw [← hL] at hl1 hown10'
  rw [← hL2] at hl2 hr11
  simp only [List.length_map, List.length_cons, List.length_nil] at hl1 hl2
  clear hL hL2 hown10 hown11 hb10 hb11 hb10' hb1011 hsz10 hb8' hsz8
  go_wp2_with (at_builtin; refine wl_appendG (E := eU8) rfl _ (.tmp 86) _ rfl w.heap.size 5 1 sliceU8 _ L rfl hown10' _ L2 rfl hr11 (by omega) (by unfold maxLen; omega) hsz11 ?_)
  intro v12 w12 hown12 hgrow12 _ _
  have hb12 := hb11'.grown hgrow12 hsz11 (fun j hj => (hown10'.lt hj).1)
  have hsz12 := hb12.size
  clear hgrow12 hown10' hr11
  go_wp2_with fail
  refine (putInts_any [a, b] _ _ (rd_lit w12 _ _ _ _ rfl rfl (by simp [maxLen])) HAB.out (by simp)).mono ?_
  rintro e w13 ⟨v13, rfl, hown13, hb13⟩
  have hb13' := (hb12.alloc hsz12 _).trans (hb13.mono (by simp; omega))
  have hr12 := (hown12.rd.alloc (.cells #[.int .i64 a, .int .i64 b] 2)).grow hb13
  rw [HL.out, HL2.out, HLL.out] at hr12
  go_wp2_with fail
  refine (same_bel _ _ _ w13 hr12 hown13.rd).mono ?_
  rintro e w14 ⟨rfl, hb14⟩
  have hb14' := bthen hb13' hb14
  clear hown13 hb13 hb14 hr12 hown12 hb12 hb13'
  go_wp2_with fail
  go_ret
  exact ⟨rfl, hb14'⟩

set_option maxRecDepth 100000 in
set_option maxHeartbeats 4000000 in
theorem lebSigned_negEq (a : Int) (w : World) (ha : -9223372036854775808 ≤ a ∧ a ≤ 9223372036854775807) (hs : a < 0) :
    Calls Try.prog 5 #[.int .i64 a, .int .i64 a] w fun e w' => e = .returned (.bool true) ∧ Below w.heap.size w w' := by
  have hza := zz_range a ha
  have hzc := zz_range (-a - 1) (by omega)
  have hzd := zz_range (a) (by omega)
  have HA : Hid (∀ x ∈ [a], -9223372036854775808 ≤ x ∧ x ≤ 9223372036854775807) := by intro x hx; simp at hx; omega
  have HB : Hid (∀ x ∈ [a], -9223372036854775808 ≤ x ∧ x ≤ 9223372036854775807) := by intro x hx; simp at hx; omega
  have HAB : Hid (∀ x ∈ [a, a], -9223372036854775808 ≤ x ∧ x ≤ 9223372036854775807) := by intro x hx; simp at hx; omega
  have HC : Hid (∀ x ∈ [-a - 1], -9223372036854775808 ≤ x ∧ x ≤ 9223372036854775807) := by intro x hx; simp at hx; omega
  have hE : zz (-a - 1) = 2 * (-a - 1) := by unfold zz; rw [if_pos (by omega)]
  have hM : zz (a) = 2 * (-a - 1) + 1 := by unfold zz; rw [if_neg (by omega)]; omega
  have hLL : (leb1 (zz (a))).length = (leb1 (zz (-a - 1))).length := by rw [hE, hM]; exact lebF_even 9 _
  have hlc := leb1_len (zz (-a - 1))
  obtain ⟨zc, hzcE⟩ : ∃ z, z = zz (-a - 1) := ⟨_, rfl⟩
  obtain ⟨zd, hzdE⟩ : ∃ z, z = zz (a) := ⟨_, rfl⟩
  rw [← hzcE] at hzc hE hLL hlc
  rw [← hzdE] at hzd hM hLL
  have HZC := Lib.hid hzcE
  have HZD := Lib.hid hzdE
  obtain ⟨lc, hlcE⟩ : ∃ z, z = (leb1 zc).length := ⟨_, rfl⟩
  rw [← hlcE] at hLL hlc
  have HLC := Lib.hid hlcE
  have HLD := Lib.hid hLL
  have hzcd : zd = zc + 1 := by omega
  subst hzcd
  have hzev : (zc % 2 == 0) = true := by simp; omega
  have hzle : zc ≤ 18446744073709551614 := by omega
  clear hzcE hzdE hE hM hlcE hLL
  obtain ⟨ha0, ha1⟩ := ha
  have HWR : Hid (wrap64 (wrap64 (-a) - 1) = -a - 1) := by show wrap64 (wrap64 (-a) - 1) = -a - 1; unfold wrap64; omega
  have hwt : ¬ (wrap64 (wrap64 (-a) - 1) ≤ a) := by rw [HWR.out]; omega
  have hwt2 : a ≤ wrap64 (wrap64 (-a) - 1) := by rw [HWR.out]; omega
  go_enter Try.func5, Try.ntmps5
  go_wp2_with fail
  refine (awake_any _).mono ?_
  rintro e w1 ⟨rfl, hb1'⟩
  have hsz1 := hb1'.size
  go_wp2_with fail
  refine (putInts_any [a] _ _ (rd_lit w1 _ _ _ _ rfl rfl (by simp [maxLen])) HA.out (by simp)).mono ?_
  rintro e w2 ⟨v2, rfl, hown2, hb2⟩
  have hb2' := (hb1'.alloc hsz1 _).trans (hb2.mono (by simp; omega))
  have hsz2 := hb2'.size
  go_wp2_with fail
  refine (putInts_any [a] _ _ (rd_lit w2 _ _ _ _ rfl rfl (by simp [maxLen])) HB.out (by simp)).mono ?_
  rintro e w3 ⟨v3, rfl, hown3, hb3⟩
  have hb3' := (hb2'.alloc hsz2 _).trans (hb3.mono (by simp; omega))
  have hsz3 := hb3'.size
  have hr2 := (hown2.rd.alloc (.cells #[.int .i64 a] 2)).grow hb3
  go_wp2_with fail
  refine (same_any _ _ _ _ w3 hr2 hown3.rd).mono ?_
  rintro e w4 ⟨rfl, n4, rfl⟩
  have hb4' := below_drewN hb3' n4
  have hsz4 := hb4'.size
  have hq : decide (lebs (List.map zz [a]) = lebs (List.map zz [a])) = true := by simp
  have hab : (a == a) = true := by simp
  clear hown2 hown3 hr2 hb2 hb3 hb2' hb3' hb1' hsz1 hsz2 hsz3
  generalize w3.drewN n4 = w5 at *
  go_wp2_with fail
  simp only [HWR.out]
  refine (putInts_any [-a - 1] _ _ (rd_lit w5 _ _ _ _ rfl rfl (by simp [maxLen])) HC.out (by simp)).mono ?_
  rintro e w6 ⟨v6, rfl, hown6, hb6⟩
  have hb6' := (hb4'.alloc hsz4 _).trans (hb6.mono (by simp; omega))
  have hsz6 := hb6'.size
  have hr6 := hown6.rd
  rw [lebs_zz, ← HZC.out] at hr6
  go_wp2_with fail
  refine (get_leb zc v6 w6 hzc hr6).mono ?_
  rintro e w7 ⟨rfl, rfl⟩
  rw [← HLC.out]
  clear hown6 hr6 hb6 hb4' hsz4
  go_wp2_with fail
  refine (putInts_any [a] _ _ (rd_lit w6 _ _ _ _ rfl rfl (by simp [maxLen])) HA.out (by simp)).mono ?_
  rintro e w8 ⟨v8, rfl, hown8, hb8⟩
  have hb8' := (hb6'.alloc hsz6 _).trans (hb8.mono (by simp; omega))
  have hsz8 := hb8'.size
  have hr8 := hown8.rd
  rw [lebs_zz, ← HZD.out] at hr8
  go_wp2_with fail
  refine (get_leb (zc + 1) v8 w8 hzd hr8).mono ?_
  rintro e w9 ⟨rfl, rfl⟩
  rw [HLD.out]
  clear hown8 hr8 hb8 hb6' hsz6
  have hge : decide (((lc : Nat) : Int) ≤ ((lc : Nat) : Int)) = true := by simp
  have hlc10 : ((lc : Nat) : Int) ≤ 10 := by omega
  have heqq : (zc + 1 == zc + 1) = true := by simp
  go_wp2_with fail
  refine (putInts_any [a] _ _ (rd_lit w8 _ _ _ _ rfl rfl (by simp [maxLen])) HA.out (by simp)).mono ?_
  rintro e w10 ⟨v10, rfl, hown10, hb10⟩
  have hb10' := (hb8'.alloc hsz8 _).trans (hb10.mono (by simp; omega))
  have hsz10 := hb10'.size
  go_wp2_with fail
  refine (putInts_any [a] _ _ (rd_lit w10 _ _ _ _ rfl rfl (by simp [maxLen])) HB.out (by simp)).mono ?_
  rintro e w11 ⟨v11, rfl, hown11, hb11⟩
  have hb11' := (hb10'.alloc hsz10 _).trans (hb11.mono (by simp; omega))
  have hb1011 := (((Below.refl w10.heap.size w10).alloc (Nat.le_refl _) _).trans (hb11.mono (by simp)))
  have hsz11 := hb11'.size
  have hown10' := (hown10.grow hb1011).mono (show w.heap.size ≤ _ by simp; omega)
  have hr11 := hown11.rd
  have hl1 := (lebs_len (List.map zz [a])).2
  have hl2 := (lebs_len (List.map zz [a])).2
  have HLL := Lib.hid (lebs_zz2 a a)
  obtain ⟨L, hL⟩ : ∃ L, L = lebs (List.map zz [a]) := ⟨_, rfl⟩
  obtain ⟨L2, hL2⟩ : ∃ L, L = lebs (List.map zz [a]) := ⟨_, rfl⟩
  have HL := Lib.hid hL
  have HL2 := Lib.hid hL2
  rw [← hL] at hl1 hown10'
  rw [← hL2] at hl2 hr11
  simp only [List.length_map, List.length_cons, List.length_nil] at hl1 hl2
  clear hL hL2 hown10 hown11 hb10 hb11 hb10' hb1011 hsz10 hb8' hsz8
  go_wp2_with (at_builtin; refine wl_appendG (E := eU8) rfl _ (.tmp 86) _ rfl w.heap.size 5 1 sliceU8 _ L rfl hown10' _ L2 rfl hr11 (by omega) (by unfold maxLen; omega) hsz11 ?_)
  intro v12 w12 hown12 hgrow12 _ _
  have hb12 := hb11'.grown hgrow12 hsz11 (fun j hj => (hown10'.lt hj).1)
  have hsz12 := hb12.size
  clear hgrow12 hown10' hr11
  go_wp2_with fail
  refine (putInts_any [a, a] _ _ (rd_lit w12 _ _ _ _ rfl rfl (by simp [maxLen])) HAB.out (by simp)).mono ?_
  rintro e w13 ⟨v13, rfl, hown13, hb13⟩
  have hb13' := (hb12.alloc hsz12 _).trans (hb13.mono (by simp; omega))
  have hr12 := (hown12.rd.alloc (.cells #[.int .i64 a, .int .i64 a] 2)).grow hb13
  rw [HL.out, HL2.out, HLL.out] at hr12
  go_wp2_with fail
  refine (same_bel _ _ _ w13 hr12 hown13.rd).mono ?_
  rintro e w14 ⟨rfl, hb14⟩
  have hb14' := bthen hb13' hb14
  clear hown13 hb13 hb14 hr12 hown12 hb12 hb13'
  go_wp2_with fail
  go_ret
  exact ⟨rfl, hb14'⟩

theorem lebSigned_any (a b : Int) (w : World) (ha : -9223372036854775808 ≤ a ∧ a ≤ 9223372036854775807) (hb : -9223372036854775808 ≤ b ∧ b ≤ 9223372036854775807) :
    Calls Try.prog 5 #[.int .i64 a, .int .i64 b] w fun e w' => e = .returned (.bool true) ∧ Below w.heap.size w w' := by
  by_cases hs : 0 ≤ a
  · by_cases hne : a = b
    · subst hne; exact lebSigned_posEq a w ha hs
    · exact lebSigned_posNe a b w ha hb hs hne
  · by_cases hne : a = b
    · subst hne; exact lebSigned_negEq a w ha (by omega)
    · exact lebSigned_negNe a b w ha hb (by omega) hne
end Go.Proofs.Ytncppfoodjgpkaa
