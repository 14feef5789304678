/- The law LebPuts: its walk. -/
import Derived.Test.YtncppfoodjgpkaaLebAwake
import Derived.Deep.RegionHeld3
namespace Go.Proofs.Ytncppfoodjgpkaa
open Go.RowKit
set_option linter.unusedVariables false

theorem sliceI64 : SliceInfo Try.prog 41 2 1 8 := SliceInfo.mk' Try.underlying41 (z := .int .i64 0) (by kernel_rfl) rfl

set_option maxRecDepth 100000 in
set_option maxHeartbeats 4000000 in
theorem lebPuts_any (xs : List Int) (v : Value) (ss : List Int) (vs : Value) (w : World)
    (hv : Rd eU64 w v xs) (hl : xs.length * 8 ≤ 140737488351232) (hwf : ∀ x ∈ xs, (Lit.int .u64 x).wf = true)
    (hvs : Rd (eInt .i64) w vs ss) (hls : ss.length * 8 ≤ 140737488351232) (hwfs : ∀ x ∈ ss, (Lit.int .i64 x).wf = true) :
    Calls Try.prog 6 #[v, vs] w fun e w' => e = .returned (.bool true) ∧ Below w.heap.size w w' := by
  have HW : Hid (∀ x ∈ xs, 0 ≤ x ∧ x ≤ 18446744073709551615) := fun x hx => bounds_u64 (hwf x hx)
  have HS : Hid (∀ x ∈ ss, -9223372036854775808 ≤ x ∧ x ≤ 9223372036854775807) := fun x hx => bounds_i64 (hwfs x hx)
  clear hwf hwfs
  obtain ⟨vo, vc, rfl⟩ : ∃ vo vc, v = .slice vo xs.length vc := by obtain ⟨_, a, c, h, _⟩ := hv; exact ⟨a, c, h⟩
  obtain ⟨so, sc, rfl⟩ : ∃ vo vc, vs = .slice vo ss.length vc := by obtain ⟨_, a, c, h, _⟩ := hvs; exact ⟨a, c, h⟩
  have hl63 : xs.length ≤ 9223372036854775807 := by omega
  have hs63 : ss.length ≤ 9223372036854775807 := by omega
  go_enter Try.func6, Try.ntmps6
  go_wp2_with fail
  refine (awake_any _).mono ?_
  rintro e w1 ⟨rfl, hb1⟩
  have hsz1 := hb1.size
  have hv1 := hv.grow hb1
  go_wp2_with (at_builtin; refine wl_append (E := eU64) rfl _ (.tmp 13) _ rfl w.heap.size 22 8 sliceU64 _ [] rfl (Ow.lit w1 _ _ _ _ _ (by simp [Enc.all]) rfl (by simp) hsz1) _ xs rfl (hv1.alloc _) (by simp; omega) (by unfold maxLen; simp; omega) (by simp; omega) ?_)
  intro vi w2 hown2 hgrow2 _ _
  have hb2 : Below w.heap.size w w2 := (hb1.alloc hsz1 _).grown hgrow2 (by simp; omega) (by simp [Value.ownBlock]; omega)
  have hr2 := hown2.rd
  have hsz2 := hb2.size
  clear hgrow2 hv1 hown2 hb1
  go_wp2_with fail
  refine (puts_any xs vi w2 hr2 HW.out (by omega)).mono ?_
  rintro e w3 ⟨vb, rfl, hown3, hb3⟩
  have hb3' := bthen hb2 hb3
  have hlb := (lebs_len xs).2
  obtain ⟨bo, bc, rfl⟩ := hown3.len
  go_wp2_with fail
  refine (numbers_bel xs vi _ w3 (hr2.grow hb3) (hv.grow hb3')).mono ?_
  rintro e w4 ⟨rfl, hb4⟩
  have hb4' := bthen hb3' hb4
  go_wp2_with fail
  refine (refPuts_any xs _ w4 (hv.grow hb4') HW.out (by omega)).mono ?_
  rintro e w5 ⟨v5, rfl, hown5, hb5⟩
  have hb5' := bthen hb4' hb5
  have hr3 := ((hown3.grow hb4).grow hb5).rd
  go_wp2_with fail
  refine (same_bel (lebs xs) _ _ w5 hr3 hown5.rd).mono ?_
  rintro e w6 ⟨rfl, hb6⟩
  have hb6' := bthen hb5' hb6
  go_wp2_with fail
  refine (width_any xs _ w6 (hv.grow hb6') HW.out (by omega)).mono ?_
  rintro e w7 ⟨rfl, hb7⟩
  have hb7' := bthen hb6' hb7
  have hne : (((lebs xs).length : Int) != ((lebs xs).length : Int)) = false := by simp
  have hsz7 := hb7'.size
  clear hown3 hb3 hb4 hb5 hb6 hb7 hown5 hr3 hr2 hb2 hb3' hb4' hb5' hb6' hsz1 hsz2
  go_wp2_with fail
  go_loopw [7, 8] (fun tv i wr => ∃ k : Nat, k ≤ ss.length ∧ i = .int .i64 k ∧ Ow eU64 w.heap.size 22 wr tv ((ss.take k).map zz) ∧ Below w.heap.size w wr) (fun _ i _ => ss.length - (intOf i).toNat)
  case atStart => exact ⟨0, Nat.zero_le _, rfl, Ow.nil _ _ _, hb7'⟩
  case round =>
    clear hb7'
    obtain ⟨k, hk, rfl, hown, hbel⟩ := hrel
    have hsz := hbel.size
    by_cases hlt : k < ss.length
    · obtain ⟨_, a', c', he, _, _, hc⟩ := hvs.grow hbel
      obtain ⟨b1, o1, ha, h1⟩ := hc (by omega)
      have hsa : so = some ⟨b1, o1, none⟩ := by rw [← ha]; simp at he; exact he.1
      subst hsa
      have c1 := h1 k _ (eInt_at .i64 ss k hlt)
      have hxr := HS.out _ (List.getElem_mem hlt)
      have hst : (ss.take (k + 1)).map zz = (ss.take k).map zz ++ [zz ss[k]] := by rw [List.take_succ_eq_append_getElem hlt, List.map_append]; rfl
      obtain ⟨x, hx⟩ : ∃ x, x = ss[k] := ⟨_, rfl⟩
      rw [← hx] at c1 hst hxr
      have hll : ((ss.take k).map zz).length ≤ k := by rw [List.length_map]; exact List.length_take_le _ _
      obtain ⟨L, hL⟩ : ∃ L, L = (ss.take k).map zz := ⟨_, rfl⟩
      rw [← hL] at hst hown hll
      have HST := Lib.hid hst
      clear hst hx hL h1 ha he hc
      obtain ⟨z, hz⟩ : ∃ z, z = zz x := ⟨_, rfl⟩
      have ht := turned_any x wr hxr
      rw [← hz] at ht HST
      have HT := Lib.hid ht
      clear ht hz
      go_wp2_with fail
      refine HT.out.mono ?_
      rintro e w' ⟨rfl, rfl⟩
      go_wp2_with (at_builtin; refine wl_append (E := eU64) rfl _ _ _ rfl w.heap.size 22 8 sliceU64 _ L rfl (hown.alloc _) _ [z] rfl (rd_lit wr _ _ _ _ rfl rfl (by simp [maxLen])) (by simp; omega) (by unfold maxLen; simp; omega) (by simp; omega) ?_)
      intro v' w1' hown' hgrow _ _
      have hb' := (hbel.alloc hsz (.cells #[.int .u64 z] 22)).grown hgrow (by simp; omega) (fun j hj => (hown.lt hj).1)
      rw [← HST.out] at hown'
      clear hgrow hown HST HT
      go_wp2_with fail
      go_roundw
      case rel => exact ⟨k + 1, by omega, by go_num, hown', hb'⟩
      case measure => simp [intOf]; omega
    · have hke : k = ss.length := by omega
      subst hke
      rw [List.take_length] at hown
      have hlm : (ss.map zz).length = ss.length := List.length_map ..
      have hrt := hown.rd
      have hvsr := hvs.grow hbel
      obtain ⟨T, hT⟩ : ∃ T, T = ss.map zz := ⟨_, rfl⟩
      have HT := Lib.hid hT
      rw [← hT] at hrt hlm
      have HZ : Hid (∀ x ∈ T, 0 ≤ x ∧ x ≤ 18446744073709551615) := by
        intro x hx
        rw [hT] at hx
        obtain ⟨y, hy, rfl⟩ := List.mem_map.1 hx
        exact zz_range y (HS.out y hy)
      clear hT hown
      have HLM := Lib.hid hlm
      clear hlm
      go_wp2_with (at_builtin; refine wl_append (E := eInt .i64) rfl _ (.tmp 50) _ rfl wr.heap.size 2 8 sliceI64 _ [] rfl (Ow.lit wr _ _ _ _ _ (by simp [Enc.all]) rfl (by simp) (Nat.le_refl _)) _ ss rfl (hvsr.alloc _) (by simp; omega) (by unfold maxLen; simp; omega) (by simp) ?_)
      intro v8 w8 hown8 hgrow8 _ _
      have hb8 : Below wr.heap.size wr w8 := ((Below.refl _ _).alloc (Nat.le_refl _) _).grown hgrow8 (by simp) (by simp [Value.ownBlock])
      clear hgrow8
      go_wp2_with fail
      refine (putInts_any ss v8 w8 hown8.rd HS.out (by omega)).mono ?_
      rintro e w9 ⟨v9, rfl, hown9, hb9⟩
      rw [← HT.out] at hown9
      have hb9' := bthen hb8 hb9
      go_wp2_with fail
      refine (refPuts_any T _ w9 (hrt.grow hb9') HZ.out (by have := HLM.out; omega)).mono ?_
      rintro e w10 ⟨v10, rfl, hown10, hb10⟩
      have hr9 := (hown9.grow hb10).rd
      go_wp2_with fail
      refine (same_bel (lebs T) _ _ w10 hr9 hown10.rd).mono ?_
      rintro e w11 ⟨rfl, hb11⟩
      have hb11' := bthen hbel (bthen (bthen hb9' hb10) hb11)
      clear hown8 hb8 hown9 hb9 hb9' hown10 hb10 hr9 hb11 hrt hvsr hbel hsz
      go_wp2_with fail
      go_loopw [9] (fun i wq => ∃ k : Nat, k ≤ xs.length ∧ i = .int .i64 k ∧ Below w.heap.size w wq) (fun i _ => xs.length - (intOf i).toNat)
      case atStart => exact ⟨0, Nat.zero_le _, rfl, hb11'⟩
      case round =>
        clear hb11'
        obtain ⟨k, hk, rfl, hbel⟩ := hrel
        have hsz := hbel.size
        by_cases hlt : k < xs.length
        · obtain ⟨_, a', c', he, _, _, hc⟩ := hv.grow hbel
          obtain ⟨b1, o1, ha, h1⟩ := hc (by omega)
          have hsa : vo = some ⟨b1, o1, none⟩ := by rw [← ha]; simp at he; exact he.1
          subst hsa
          have c1 := h1 k _ (eU64_at xs k hlt)
          have hxr := HW.out _ (List.getElem_mem hlt)
          obtain ⟨x, hx⟩ : ∃ x, x = xs[k] := ⟨_, rfl⟩
          rw [← hx] at c1 hxr
          have lg := World.block_lt_of_cell? wr _ c1
          have k0 : (0 : Int) ≤ (k : Int) := by omega
          have k1 : (k : Int) < (xs.length : Int) := by omega
          clear hx h1 ha he hc
          go_wp2_with fail
          go_region_held3 (fun w' => Below wr.heap.size wr w' ∧ w'.cell? ⟨b1, o1 + k, none⟩ = some (.int .u64 x))
            ((refine keep1 ?_ lg c1; first | exact (Below.refl _ _).drew | exact ((Below.refl _ _).alloc (Nat.le_refl _) _).drew | exact hbi | exact hbj | exact hbk))
            (first
              | (go_at_call 13; refine (puts_any [x] _ _ ((rd_lit wr _ _ _ _ rfl rfl (by simp [maxLen])).drew) (by simp; omega) (by simp)).mono ?_; rintro e wi ⟨vi2, rfl, howi, hbi0⟩; have hbi : Below wr.heap.size wr wi := ((Below.refl _ _).alloc (Nat.le_refl _) _).drew.trans (hbi0.mono (by simp)))
              | (go_at_call 22; refine (one_any x _ hxr.1 hxr.2).mono ?_; rintro e wj ⟨vj, rfl, howj, hbj0⟩; have hbj : Below wr.heap.size wr wj := bthen hbi hbj0)
              | (go_at_call 12; refine (same_bel (leb1 x) _ _ _ (by rw [← lebs_one]; exact (howi.grow hbj0).rd) howj.rd).mono ?_; rintro e wk ⟨rfl, hbk0⟩; have hbk := bthen hbj hbk0))
          clear c1 howi hbi0 hbi howj hbj0 hbj hbk0
          go_wp2_with fail
          go_roundw
          case rel => exact ⟨k + 1, by omega, by go_num, bthen hbel hbk⟩
          case measure => simp [intOf]; omega
        · go_wp2_with fail
          refine (puts_any [] _ wr (Rd.nil wr) (by simp) (by simp)).mono ?_
          rintro e w12 ⟨v12, rfl, hown12, hb12⟩
          obtain ⟨o12, c12, rfl⟩ := hown12.len
          go_wp2_with fail
          refine (width_any [] _ w12 (Rd.nil w12) (by simp) (by simp)).mono ?_
          rintro e w13 ⟨rfl, hb13⟩
          have hb13' := bthen (bthen hbel hb12) hb13
          have hz : (lebs []).length = 0 := rfl
          clear hown12 hb12 hb13
          go_wp2_with fail
          go_ret
          exact ⟨rfl, hb13'⟩
end Go.Proofs.Ytncppfoodjgpkaa
