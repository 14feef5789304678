/- The law LebOrders: its walk. -/
import Derived.Test.YtncppfoodjgpkaaLebAwake
namespace Go.Proofs.Ytncppfoodjgpkaa
open Go.RowKit
set_option linter.unusedVariables false

theorem leb1_mono (a b : Int) (h : a ≤ b) : (leb1 a).length ≤ (leb1 b).length := lebF_mono 9 a b h

set_option maxHeartbeats 2000000 in
theorem lebOrders_any (a b : Int) (xs : List Int) (v : Value) (w : World) (ha : 0 ≤ a ∧ a ≤ 18446744073709551615) (hb : 0 ≤ b ∧ b ≤ 18446744073709551615)
    (hv : Rd eU64 w v xs) (hl : xs.length * 8 ≤ 140737488351232) (hwf : ∀ x ∈ xs, (Lit.int .u64 x).wf = true) :
    Calls Try.prog 3 #[.int .u64 a, .int .u64 b, v] w fun e w' => e = .returned (.bool true) ∧ Below w.heap.size w w' := by
  have HW : Hid (∀ x ∈ xs, 0 ≤ x ∧ x ≤ 18446744073709551615) := fun x hx => bounds_u64 (hwf x hx)
  clear hwf
  obtain ⟨ha0, ha1⟩ := ha
  obtain ⟨hb0, hb1⟩ := hb
  rcases Int.lt_trichotomy a b with hab | hab | hab
  · have hab' : ¬ b ≤ a := by omega
    have hab2 : a ≤ b := by omega
    go_enter Try.func3, Try.ntmps3
    go_wp2_with fail
    refine (awake_any _).mono ?_
    rintro e w1 ⟨rfl, hb1'⟩
    have hsz1 := hb1'.size
    have hmono := leb1_mono a b (by omega)
    go_wp2_with fail
    refine (width_any [a] _ _ (rd_lit w1 _ _ _ _ rfl rfl (by simp [maxLen])) (by simp; omega) (by simp)).mono ?_
    rintro e w2 ⟨rfl, hb2⟩
    have hb2' := (hb1'.alloc hsz1 _).trans (hb2.mono (by simp; omega))
    have hsz2 := hb2'.size
    go_wp2_with fail
    refine (width_any [b] _ _ (rd_lit w2 _ _ _ _ rfl rfl (by simp [maxLen])) (by simp; omega) (by simp)).mono ?_
    rintro e w3 ⟨rfl, hb3⟩
    have hb3' := (hb2'.alloc hsz2 _).trans (hb3.mono (by simp; omega))
    have hsz3 := hb3'.size
    simp only [lebs_one]
    have hla := leb1_len a
    go_wp2_with fail
    refine (width_any [a] _ _ (rd_lit w3 _ _ _ _ rfl rfl (by simp [maxLen])) (by simp; omega) (by simp)).mono ?_
    rintro e w4 ⟨rfl, hb4⟩
    have hb4' := (hb3'.alloc hsz3 _).trans (hb4.mono (by simp; omega))
    have hsz4 := hb4'.size
    simp only [lebs_one]
    go_wp2_with fail
    refine (width_any [a] _ _ (rd_lit w4 _ _ _ _ rfl rfl (by simp [maxLen])) (by simp; omega) (by simp)).mono ?_
    rintro e w5 ⟨rfl, hb5⟩
    have hb5' := (hb4'.alloc hsz4 _).trans (hb5.mono (by simp; omega))
    have hsz5 := hb5'.size
    simp only [lebs_one]
    have hv5 := hv.grow hb5'
    clear hb2 hb3 hb4 hb5 hb1' hb2' hb3' hb4' hsz1 hsz2 hsz3 hsz4
    go_wp2_with fail
    refine (puts_any xs v w5 hv5 HW.out (by omega)).mono ?_
    rintro e w6 ⟨v6, rfl, hown6, hb6⟩
    have hb6' := hb5'.trans (hb6.mono hsz5)
    have hsz6 := hb6'.size
    go_wp2_with fail
    refine (puts_any [a, b] _ _ (rd_lit w6 _ _ _ _ rfl rfl (by simp [maxLen])) (by simp; omega) (by simp)).mono ?_
    rintro e w7 ⟨v7, rfl, hown7, hb7⟩
    have hb7' := (hb6'.alloc hsz6 _).trans (hb7.mono (by simp; omega))
    have hb67 := (((Below.refl w6.heap.size w6).alloc (Nat.le_refl _) _).trans (hb7.mono (by simp)))
    have hsz7 := hb7'.size
    have hown67 := (hown6.grow hb67).mono hsz5
    have hr7 := hown7.rd
    have hv7 := hv5.grow (bthen hb6 hb67)
    have hl1 := (lebs_len xs).2
    have hl2 := (lebs_len [a, b]).2
    have hl2' : (lebs [a, b]).length ≤ 20 := hl2
    obtain ⟨L, hL⟩ : ∃ L, L = lebs xs := ⟨_, rfl⟩
    obtain ⟨L2, hL2⟩ : ∃ L, L = lebs [a, b] := ⟨_, rfl⟩
    have hLL : L ++ L2 = lebs (xs ++ [a, b]) := by rw [hL, hL2, lebs_append]
    rw [← hL] at hl1 hown67
    rw [← hL2] at hl2' hr7
    have HLL := Lib.hid hLL
    clear hL hL2 hLL hl2 hown6 hown7 hb6 hb7 hb6' hb5' hb67 hsz5 hsz6 hv5 hv7
    go_wp2_with (at_builtin; refine wl_append (E := eU8) rfl _ (.tmp 37) _ rfl w.heap.size 5 1 sliceU8 _ L rfl hown67 _ L2 rfl hr7 (by omega) (by unfold maxLen; omega) hsz7 ?_)
    intro v8 w8 hown8 hgrow8 _ _
    have hb8 := hb7'.grown hgrow8 hsz7 (fun j hj => (hown67.lt hj).1)
    have hsz8 := hb8.size
    have hv8 := hv.grow hb8
    go_wp2_with (at_builtin; refine wl_append (E := eU64) rfl _ (.tmp 40) _ rfl w8.heap.size 22 8 sliceU64 _ [] rfl (Ow.lit w8 _ _ _ _ _ (by simp [Enc.all]) rfl (by simp) (Nat.le_refl _)) _ xs rfl (hv8.alloc _) (by simp; omega) (by unfold maxLen; simp; omega) (by simp) ?_)
    intro v9 w9 hown9 hgrow9 _ _
    have hb9 : Below w8.heap.size w8 w9 := ((Below.refl _ _).alloc (Nat.le_refl _) _).grown hgrow9 (by simp) (by simp [Value.ownBlock])
    have hsz9 := hb9.size
    clear hgrow9 hv8
    have hlx : (5 * (xs.length + [a, b].length) + 2816) * 8 ≤ 1125899906842624 := by simp; omega
    have hlx2 : xs.length + [a, b].length ≤ maxLen := by unfold maxLen; simp; omega
    go_wp2_with (at_builtin; refine wl_append (E := eU64) rfl _ (.tmp 44) _ rfl w8.heap.size 22 8 sliceU64 _ xs rfl (hown9.alloc _) _ [a, b] rfl (rd_lit w9 _ _ _ _ rfl rfl (by simp [maxLen])) hlx hlx2 (by simp; omega) ?_)
    intro v10 w10 hown10 hgrow10 _ _
    have hb10 := (hb9.alloc hsz9 (.cells #[.int .u64 a, .int .u64 b] 22)).grown hgrow10 (by simp; omega) (fun j hj => (hown9.lt hj).1)
    have hsz10 := hb10.size
    clear hgrow10 hown9 hb9
    have hwf2 : ∀ x ∈ xs ++ [a, b], 0 ≤ x ∧ x ≤ 18446744073709551615 := by
      intro x hx
      rcases List.mem_append.1 hx with h | h
      · exact HW.out x h
      · simp at h; omega
    have HW2 := Lib.hid hwf2
    clear hwf2
    go_wp2_with fail
    refine (puts_any (xs ++ [a, b]) _ _ hown10.rd HW2.out (by simp; omega)).mono ?_
    rintro e w11 ⟨v11, rfl, hown11, hb11⟩
    have hb11' := bthen hb10 hb11
    have hr8 := (hown8.grow hb11').rd
    rw [HLL.out] at hr8
    go_wp2_with fail
    refine (same_bel _ _ _ w11 hr8 hown11.rd).mono ?_
    rintro e w12 ⟨rfl, hb12⟩
    have hb12' := bthen (bthen hb8 hb11') hb12
    clear hb12 hb11 hr8 hown11 hown10 hown8
    go_wp2_with fail
    go_ret
    exact ⟨rfl, hb12'⟩
  · subst hab
    go_enter Try.func3, Try.ntmps3
    go_wp2_with fail
    refine (awake_any _).mono ?_
    rintro e w1 ⟨rfl, hb1'⟩
    have hsz1 := hb1'.size
    have hmono := leb1_mono a a (by omega)
    go_wp2_with fail
    refine (width_any [a] _ _ (rd_lit w1 _ _ _ _ rfl rfl (by simp [maxLen])) (by simp; omega) (by simp)).mono ?_
    rintro e w2 ⟨rfl, hb2⟩
    have hb2' := (hb1'.alloc hsz1 _).trans (hb2.mono (by simp; omega))
    have hsz2 := hb2'.size
    go_wp2_with fail
    refine (width_any [a] _ _ (rd_lit w2 _ _ _ _ rfl rfl (by simp [maxLen])) (by simp; omega) (by simp)).mono ?_
    rintro e w3 ⟨rfl, hb3⟩
    have hb3' := (hb2'.alloc hsz2 _).trans (hb3.mono (by simp; omega))
    have hsz3 := hb3'.size
    simp only [lebs_one]
    have hla := leb1_len a
    go_wp2_with fail
    refine (width_any [a] _ _ (rd_lit w3 _ _ _ _ rfl rfl (by simp [maxLen])) (by simp; omega) (by simp)).mono ?_
    rintro e w4 ⟨rfl, hb4⟩
    have hb4' := (hb3'.alloc hsz3 _).trans (hb4.mono (by simp; omega))
    have hsz4 := hb4'.size
    simp only [lebs_one]
    go_wp2_with fail
    refine (width_any [a] _ _ (rd_lit w4 _ _ _ _ rfl rfl (by simp [maxLen])) (by simp; omega) (by simp)).mono ?_
    rintro e w5 ⟨rfl, hb5⟩
    have hb5' := (hb4'.alloc hsz4 _).trans (hb5.mono (by simp; omega))
    have hsz5 := hb5'.size
    simp only [lebs_one]
    have hv5 := hv.grow hb5'
    clear hb2 hb3 hb4 hb5 hb1' hb2' hb3' hb4' hsz1 hsz2 hsz3 hsz4
    go_wp2_with fail
    refine (puts_any xs v w5 hv5 HW.out (by omega)).mono ?_
    rintro e w6 ⟨v6, rfl, hown6, hb6⟩
    have hb6' := hb5'.trans (hb6.mono hsz5)
    have hsz6 := hb6'.size
    go_wp2_with fail
    refine (puts_any [a, a] _ _ (rd_lit w6 _ _ _ _ rfl rfl (by simp [maxLen])) (by simp; omega) (by simp)).mono ?_
    rintro e w7 ⟨v7, rfl, hown7, hb7⟩
    have hb7' := (hb6'.alloc hsz6 _).trans (hb7.mono (by simp; omega))
    have hb67 := (((Below.refl w6.heap.size w6).alloc (Nat.le_refl _) _).trans (hb7.mono (by simp)))
    have hsz7 := hb7'.size
    have hown67 := (hown6.grow hb67).mono hsz5
    have hr7 := hown7.rd
    have hv7 := hv5.grow (bthen hb6 hb67)
    have hl1 := (lebs_len xs).2
    have hl2 := (lebs_len [a, a]).2
    have hl2' : (lebs [a, a]).length ≤ 20 := hl2
    obtain ⟨L, hL⟩ : ∃ L, L = lebs xs := ⟨_, rfl⟩
    obtain ⟨L2, hL2⟩ : ∃ L, L = lebs [a, a] := ⟨_, rfl⟩
    have hLL : L ++ L2 = lebs (xs ++ [a, a]) := by rw [hL, hL2, lebs_append]
    rw [← hL] at hl1 hown67
    rw [← hL2] at hl2' hr7
    have HLL := Lib.hid hLL
    clear hL hL2 hLL hl2 hown6 hown7 hb6 hb7 hb6' hb5' hb67 hsz5 hsz6 hv5 hv7
    go_wp2_with (at_builtin; refine wl_append (E := eU8) rfl _ (.tmp 37) _ rfl w.heap.size 5 1 sliceU8 _ L rfl hown67 _ L2 rfl hr7 (by omega) (by unfold maxLen; omega) hsz7 ?_)
    intro v8 w8 hown8 hgrow8 _ _
    have hb8 := hb7'.grown hgrow8 hsz7 (fun j hj => (hown67.lt hj).1)
    have hsz8 := hb8.size
    have hv8 := hv.grow hb8
    go_wp2_with (at_builtin; refine wl_append (E := eU64) rfl _ (.tmp 40) _ rfl w8.heap.size 22 8 sliceU64 _ [] rfl (Ow.lit w8 _ _ _ _ _ (by simp [Enc.all]) rfl (by simp) (Nat.le_refl _)) _ xs rfl (hv8.alloc _) (by simp; omega) (by unfold maxLen; simp; omega) (by simp) ?_)
    intro v9 w9 hown9 hgrow9 _ _
    have hb9 : Below w8.heap.size w8 w9 := ((Below.refl _ _).alloc (Nat.le_refl _) _).grown hgrow9 (by simp) (by simp [Value.ownBlock])
    have hsz9 := hb9.size
    clear hgrow9 hv8
    have hlx : (5 * (xs.length + [a, a].length) + 2816) * 8 ≤ 1125899906842624 := by simp; omega
    have hlx2 : xs.length + [a, a].length ≤ maxLen := by unfold maxLen; simp; omega
    go_wp2_with (at_builtin; refine wl_append (E := eU64) rfl _ (.tmp 44) _ rfl w8.heap.size 22 8 sliceU64 _ xs rfl (hown9.alloc _) _ [a, a] rfl (rd_lit w9 _ _ _ _ rfl rfl (by simp [maxLen])) hlx hlx2 (by simp; omega) ?_)
    intro v10 w10 hown10 hgrow10 _ _
    have hb10 := (hb9.alloc hsz9 (.cells #[.int .u64 a, .int .u64 a] 22)).grown hgrow10 (by simp; omega) (fun j hj => (hown9.lt hj).1)
    have hsz10 := hb10.size
    clear hgrow10 hown9 hb9
    have hwf2 : ∀ x ∈ xs ++ [a, a], 0 ≤ x ∧ x ≤ 18446744073709551615 := by
      intro x hx
      rcases List.mem_append.1 hx with h | h
      · exact HW.out x h
      · simp at h; omega
    have HW2 := Lib.hid hwf2
    clear hwf2
    go_wp2_with fail
    refine (puts_any (xs ++ [a, a]) _ _ hown10.rd HW2.out (by simp; omega)).mono ?_
    rintro e w11 ⟨v11, rfl, hown11, hb11⟩
    have hb11' := bthen hb10 hb11
    have hr8 := (hown8.grow hb11').rd
    rw [HLL.out] at hr8
    go_wp2_with fail
    refine (same_bel _ _ _ w11 hr8 hown11.rd).mono ?_
    rintro e w12 ⟨rfl, hb12⟩
    have hb12' := bthen (bthen hb8 hb11') hb12
    clear hb12 hb11 hr8 hown11 hown10 hown8
    go_wp2_with fail
    go_ret
    exact ⟨rfl, hb12'⟩
  · have hab' : ¬ a ≤ b := by omega
    have hab2 : b ≤ a := by omega
    go_enter Try.func3, Try.ntmps3
    go_wp2_with fail
    refine (awake_any _).mono ?_
    rintro e w1 ⟨rfl, hb1'⟩
    have hsz1 := hb1'.size
    have hmono := leb1_mono b a (by omega)
    go_wp2_with fail
    refine (width_any [b] _ _ (rd_lit w1 _ _ _ _ rfl rfl (by simp [maxLen])) (by simp; omega) (by simp)).mono ?_
    rintro e w2 ⟨rfl, hb2⟩
    have hb2' := (hb1'.alloc hsz1 _).trans (hb2.mono (by simp; omega))
    have hsz2 := hb2'.size
    go_wp2_with fail
    refine (width_any [a] _ _ (rd_lit w2 _ _ _ _ rfl rfl (by simp [maxLen])) (by simp; omega) (by simp)).mono ?_
    rintro e w3 ⟨rfl, hb3⟩
    have hb3' := (hb2'.alloc hsz2 _).trans (hb3.mono (by simp; omega))
    have hsz3 := hb3'.size
    simp only [lebs_one]
    have hla := leb1_len a
    go_wp2_with fail
    refine (width_any [a] _ _ (rd_lit w3 _ _ _ _ rfl rfl (by simp [maxLen])) (by simp; omega) (by simp)).mono ?_
    rintro e w4 ⟨rfl, hb4⟩
    have hb4' := (hb3'.alloc hsz3 _).trans (hb4.mono (by simp; omega))
    have hsz4 := hb4'.size
    simp only [lebs_one]
    go_wp2_with fail
    refine (width_any [a] _ _ (rd_lit w4 _ _ _ _ rfl rfl (by simp [maxLen])) (by simp; omega) (by simp)).mono ?_
    rintro e w5 ⟨rfl, hb5⟩
    have hb5' := (hb4'.alloc hsz4 _).trans (hb5.mono (by simp; omega))
    have hsz5 := hb5'.size
    simp only [lebs_one]
    have hv5 := hv.grow hb5'
    clear hb2 hb3 hb4 hb5 hb1' hb2' hb3' hb4' hsz1 hsz2 hsz3 hsz4
    go_wp2_with fail
    refine (puts_any xs v w5 hv5 HW.out (by omega)).mono ?_
    rintro e w6 ⟨v6, rfl, hown6, hb6⟩
    have hb6' := hb5'.trans (hb6.mono hsz5)
    have hsz6 := hb6'.size
    go_wp2_with fail
    refine (puts_any [a, b] _ _ (rd_lit w6 _ _ _ _ rfl rfl (by simp [maxLen])) (by simp; omega) (by simp)).mono ?_
    rintro e w7 ⟨v7, rfl, hown7, hb7⟩
    have hb7' := (hb6'.alloc hsz6 _).trans (hb7.mono (by simp; omega))
    have hb67 := (((Below.refl w6.heap.size w6).alloc (Nat.le_refl _) _).trans (hb7.mono (by simp)))
    have hsz7 := hb7'.size
    have hown67 := (hown6.grow hb67).mono hsz5
    have hr7 := hown7.rd
    have hv7 := hv5.grow (bthen hb6 hb67)
    have hl1 := (lebs_len xs).2
    have hl2 := (lebs_len [a, b]).2
    have hl2' : (lebs [a, b]).length ≤ 20 := hl2
    obtain ⟨L, hL⟩ : ∃ L, L = lebs xs := ⟨_, rfl⟩
    obtain ⟨L2, hL2⟩ : ∃ L, L = lebs [a, b] := ⟨_, rfl⟩
    have hLL : L ++ L2 = lebs (xs ++ [a, b]) := by rw [hL, hL2, lebs_append]
    rw [← hL] at hl1 hown67
    rw [← hL2] at hl2' hr7
    have HLL := Lib.hid hLL
    clear hL hL2 hLL hl2 hown6 hown7 hb6 hb7 hb6' hb5' hb67 hsz5 hsz6 hv5 hv7
    go_wp2_with (at_builtin; refine wl_append (E := eU8) rfl _ (.tmp 37) _ rfl w.heap.size 5 1 sliceU8 _ L rfl hown67 _ L2 rfl hr7 (by omega) (by unfold maxLen; omega) hsz7 ?_)
    intro v8 w8 hown8 hgrow8 _ _
    have hb8 := hb7'.grown hgrow8 hsz7 (fun j hj => (hown67.lt hj).1)
    have hsz8 := hb8.size
    have hv8 := hv.grow hb8
    go_wp2_with (at_builtin; refine wl_append (E := eU64) rfl _ (.tmp 40) _ rfl w8.heap.size 22 8 sliceU64 _ [] rfl (Ow.lit w8 _ _ _ _ _ (by simp [Enc.all]) rfl (by simp) (Nat.le_refl _)) _ xs rfl (hv8.alloc _) (by simp; omega) (by unfold maxLen; simp; omega) (by simp) ?_)
    intro v9 w9 hown9 hgrow9 _ _
    have hb9 : Below w8.heap.size w8 w9 := ((Below.refl _ _).alloc (Nat.le_refl _) _).grown hgrow9 (by simp) (by simp [Value.ownBlock])
    have hsz9 := hb9.size
    clear hgrow9 hv8
    have hlx : (5 * (xs.length + [a, b].length) + 2816) * 8 ≤ 1125899906842624 := by simp; omega
    have hlx2 : xs.length + [a, b].length ≤ maxLen := by unfold maxLen; simp; omega
    go_wp2_with (at_builtin; refine wl_append (E := eU64) rfl _ (.tmp 44) _ rfl w8.heap.size 22 8 sliceU64 _ xs rfl (hown9.alloc _) _ [a, b] rfl (rd_lit w9 _ _ _ _ rfl rfl (by simp [maxLen])) hlx hlx2 (by simp; omega) ?_)
    intro v10 w10 hown10 hgrow10 _ _
    have hb10 := (hb9.alloc hsz9 (.cells #[.int .u64 a, .int .u64 b] 22)).grown hgrow10 (by simp; omega) (fun j hj => (hown9.lt hj).1)
    have hsz10 := hb10.size
    clear hgrow10 hown9 hb9
    have hwf2 : ∀ x ∈ xs ++ [a, b], 0 ≤ x ∧ x ≤ 18446744073709551615 := by
      intro x hx
      rcases List.mem_append.1 hx with h | h
      · exact HW.out x h
      · simp at h; omega
    have HW2 := Lib.hid hwf2
    clear hwf2
    go_wp2_with fail
    refine (puts_any (xs ++ [a, b]) _ _ hown10.rd HW2.out (by simp; omega)).mono ?_
    rintro e w11 ⟨v11, rfl, hown11, hb11⟩
    have hb11' := bthen hb10 hb11
    have hr8 := (hown8.grow hb11').rd
    rw [HLL.out] at hr8
    go_wp2_with fail
    refine (same_bel _ _ _ w11 hr8 hown11.rd).mono ?_
    rintro e w12 ⟨rfl, hb12⟩
    have hb12' := bthen (bthen hb8 hb11') hb12
    clear hb12 hb11 hr8 hown11 hown10 hown8
    go_wp2_with fail
    go_ret
    exact ⟨rfl, hb12'⟩
end Go.Proofs.Ytncppfoodjgpkaa
