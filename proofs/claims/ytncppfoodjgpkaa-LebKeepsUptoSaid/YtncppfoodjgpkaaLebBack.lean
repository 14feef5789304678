/- The law LebBack: its walk. -/
import Derived.Test.YtncppfoodjgpkaaLebSigned
import Derived.Test.YtncppfoodjgpkaaLebPuts
import Derived.Test.YtncppfoodjgpkaaLebAllGood
namespace Go.Proofs.Ytncppfoodjgpkaa
open Go.RowKit
set_option linter.unusedVariables false

/-- a beginning of a slice -/
theorem Rd.taken {α : Type} {E : Enc α} {w : World} {ao : Option Addr} {n cap : Nat} {xs : List α} (h : Rd E w (.slice ao n cap) xs) (k : Nat) (hk : k ≤ xs.length) (c' : Nat) (hc : k ≤ c') (hc2 : ao = none → c' = 0) :
    Rd E w (.slice ao k c') (xs.take k) := by
  obtain ⟨hm, ao', cap', he, h1, h2, h3⟩ := h
  obtain ⟨rfl, rfl, rfl⟩ : ao = ao' ∧ n = xs.length ∧ cap = cap' := by simpa using he
  have hl : (xs.take k).length = k := by simp; omega
  refine ⟨by omega, ao, c', by rw [hl], by omega, hc2, fun hlt => ?_⟩
  obtain ⟨b, off, hb, hx⟩ := h3 (by omega)
  refine ⟨b, off, hb, fun j u hj => hx j u ?_⟩
  have hall : E.all xs = E.all (xs.take k) ++ E.all (xs.drop k) := by
    show xs.flatMap E.cells = (xs.take k).flatMap E.cells ++ (xs.drop k).flatMap E.cells
    rw [← List.flatMap_append, List.take_append_drop]
  rw [hall, List.getElem?_append_left]
  · exact hj
  · exact (List.getElem?_eq_some_iff.1 hj).1

theorem getInt_leb (n : Int) (v : Value) (w : World) (h : -9223372036854775808 ≤ n ∧ n ≤ 9223372036854775807) (hv : Rd eU8 w v (leb1 (zz n))) :
    Calls Try.prog 16 #[v] w fun e w' => e = .returned (.tuple #[.int .i64 n, .int .i64 ((leb1 (zz n)).length : Int), .int .i64 0]) ∧ w = w' := by
  have h0 := zz_range n h
  have h := getInt_any (leb1 (zz n)) v w hv (leb1_bytes _ h0.1 h0.2)
  have hg := get1_leb1 (zz n) [] h0.1 h0.2
  rw [List.append_nil] at hg
  rw [hg] at h
  simp only [unzz_zz] at h
  exact h
theorem get_more (n : Int) (m : List Int) (v : Value) (w : World) (h0 : 0 ≤ n ∧ n ≤ 18446744073709551615) (hm : ∀ x ∈ m, 0 ≤ x ∧ x ≤ 255) (hv : Rd eU8 w v (leb1 n ++ m)) :
    Calls Try.prog 14 #[v] w fun e w' => e = .returned (.tuple #[.int .u64 n, .int .i64 ((leb1 n).length : Int), .int .i64 0]) ∧ w = w' := by
  have h := get_any (leb1 n ++ m) v w hv (by
    intro x hx
    rcases List.mem_append.1 hx with h | h
    · exact leb1_bytes n h0.1 h0.2 x h
    · exact hm x h)
  rw [get1_leb1 n m h0.1 h0.2] at h
  exact h
theorem get_short (n : Int) (k : Nat) (v : Value) (w : World) (h0 : 0 ≤ n ∧ n ≤ 18446744073709551615) (hk : k < (leb1 n).length) (hv : Rd eU8 w v ((leb1 n).take k)) :
    Calls Try.prog 14 #[v] w fun e w' => e = .returned (.tuple #[.int .u64 0, .int .i64 0, .int .i64 10]) ∧ w = w' := by
  have h := get_any ((leb1 n).take k) v w hv (fun x hx => leb1_bytes n h0.1 h0.2 x (List.mem_of_mem_take hx))
  rw [get1_short n k h0.1 h0.2 hk] at h
  exact h

set_option maxRecDepth 100000 in
set_option maxHeartbeats 4000000 in
theorem lebBack_any (xs : List Int) (v : Value) (m : List Int) (vm : Value) (w : World)
    (hv : Rd eU64 w v xs) (hl : xs.length * 8 ≤ 140737488351232) (hwf : ∀ x ∈ xs, (Lit.int .u64 x).wf = true)
    (hvm : Rd (eInt .u8) w vm m) (hlm : m.length * 1 ≤ 140737488351232) (hwfm : ∀ x ∈ m, (Lit.int .u8 x).wf = true) :
    Calls Try.prog 9 #[v, vm] w fun e w' => e = .returned (.bool true) ∧ Below w.heap.size w w' := by
  have HW : Hid (∀ x ∈ xs, 0 ≤ x ∧ x ≤ 18446744073709551615) := fun x hx => bounds_u64 (hwf x hx)
  have HM : Hid (∀ x ∈ m, 0 ≤ x ∧ x ≤ 255) := fun x hx => bounds_u8 (hwfm x hx)
  clear hwf hwfm
  obtain ⟨vo, vc, rfl⟩ : ∃ vo vc, v = .slice vo xs.length vc := by obtain ⟨_, a, c, h, _⟩ := hv; exact ⟨a, c, h⟩
  obtain ⟨so, sc, rfl⟩ : ∃ vo vc, vm = .slice vo m.length vc := by obtain ⟨_, a, c, h, _⟩ := hvm; exact ⟨a, c, h⟩
  have hl63 : xs.length ≤ 9223372036854775807 := by omega
  have hs63 : m.length ≤ 9223372036854775807 := by omega
  go_enter Try.func9, Try.ntmps9
  go_wp2_with fail
  refine (awake_any _).mono ?_
  rintro e w1 ⟨rfl, hb1⟩
  go_wp2_with fail
  go_loopw [5, 6, 7, 8, 9, 10, 11, 12, 13, 14, 15, 16] (fun i _ _ _ _ _ _ _ _ _ _ _ wr => ∃ k : Nat, k ≤ xs.length ∧ i = .int .i64 k ∧ Below w.heap.size w wr) (fun i _ _ _ _ _ _ _ _ _ _ _ _ => xs.length - (intOf i).toNat)
  case atStart => exact ⟨0, Nat.zero_le _, rfl, hb1⟩
  case round =>
    clear hb1
    obtain ⟨k, hk, rfl, hbel⟩ := hrel
    have hsz := hbel.size
    by_cases hlt : k < xs.length
    · have hcell : ∀ w', Below w.heap.size w w' → ∃ b1 o1, vo = some ⟨b1, o1, none⟩ ∧ w'.cell? ⟨b1, o1 + k, none⟩ = some (.int .u64 xs[k]) := by
        intro w' hb'
        obtain ⟨_, a', c', he, _, _, hc⟩ := hv.grow hb'
        obtain ⟨b1, o1, ha, h1⟩ := hc (by omega)
        refine ⟨b1, o1, ?_, h1 k _ (eU64_at xs k hlt)⟩
        rw [← ha]; simp at he; exact he.1
      have hxr := HW.out _ (List.getElem_mem hlt)
      obtain ⟨x, hx⟩ : ∃ x, x = xs[k] := ⟨_, rfl⟩
      rw [← hx] at hcell hxr
      clear hx
      obtain ⟨b1, o1, rfl, c1⟩ := hcell wr hbel
      have hcell2 : ∀ w', Below w.heap.size w w' → w'.cell? ⟨b1, o1 + k, none⟩ = some (.int .u64 x) := by
        intro w' hb'
        obtain ⟨b2, o2, he, h2⟩ := hcell w' hb'
        simp at he
        obtain ⟨rfl, rfl⟩ := he
        exact h2
      have HC := Lib.hid hcell2
      clear hcell hcell2
      go_wp2_with fail
      refine (puts_any [x] _ _ (rd_lit wr _ _ _ _ rfl rfl (by simp [maxLen])) (by simp; omega) (by simp)).mono ?_
      rintro e w2 ⟨v2, rfl, hown2, hb2⟩
      rw [lebs_one] at hown2
      have hb2' := (hbel.alloc hsz _).trans (hb2.mono (by simp; omega))
      have hsz2 := hb2'.size
      have hlx := leb1_len x
      obtain ⟨bo, bc, rfl⟩ := hown2.len
      have hr2 := hown2.rd
      clear hb2 hown2 c1
      go_wp2_with (at_builtin; refine wl_append (E := eU8) rfl _ (.tmp 37) _ rfl w2.heap.size 5 1 sliceU8 _ [] rfl (Ow.lit w2 _ _ _ _ _ (by simp [Enc.all]) rfl (by simp) (Nat.le_refl _)) _ (leb1 x) rfl (hr2.alloc _) (by simp; omega) (by unfold maxLen; simp; omega) (by simp) ?_)
      intro v3 w3 hown3 hgrow3 _ _
      have hb3 : Below w2.heap.size w2 w3 := ((Below.refl _ _).alloc (Nat.le_refl _) _).grown hgrow3 (by simp) (by simp [Value.ownBlock])
      have hsz3 := hb3.size
      clear hgrow3
      have hb3' := bthen hb2' hb3
      have hvm3 := hvm.grow hb3'
      go_wp2_with (at_builtin; refine wl_append (E := eU8) rfl _ (.tmp 39) _ rfl w2.heap.size 5 1 sliceU8 _ (leb1 x) rfl hown3 _ m rfl hvm3 (by omega) (by unfold maxLen; omega) (by omega) ?_)
      intro v4 w4 hown4 hgrow4 _ _
      have hb4 := hb3.grown hgrow4 hsz3 (fun j hj => (hown3.lt hj).1)
      have hb4' := bthen hb2' hb4
      have hsz4 := hb4'.size
      have hr4 := hr2.grow hb4
      have hr4' := hown4.rd
      clear hgrow4 hown3 hown4 hvm3 hb3 hb3' hsz3 hr2 hb2' hsz2 hb4
      go_wp2_with fail
      refine (get_more x m v4 w4 hxr HM.out hr4').mono ?_
      rintro e w5 ⟨rfl, rfl⟩
      have c4 := HC.out w4 hb4'
      obtain ⟨L, hL⟩ : ∃ L, L = (leb1 x).length := ⟨_, rfl⟩
      have HL := Lib.hid hL
      rw [← hL] at hlx hr4
      rw [← hL]
      clear hL hr4'
      have hnx : (x != x) = false := by simp
      have hnL : ((L : Int) != (L : Int)) = false := by simp
      go_wp2_with fail
      obtain ⟨hlc4, hno4⟩ : L ≤ bc ∧ (bo = none → bc = 0) := by
        obtain ⟨_, a', c', he, h1, h2, _⟩ := hr4
        obtain ⟨rfl, he2, rfl⟩ : bo = a' ∧ L = (leb1 x).length ∧ bc = c' := by simpa using he
        exact ⟨by omega, h2⟩
      obtain ⟨ba, rfl⟩ : ∃ ba, bo = some ba := by
        cases bo with
        | none => have := hno4 rfl; omega
        | some a => exact ⟨a, rfl⟩
      have HSH : Hid (∀ j : Nat, j < L → ∀ c', j ≤ c' → ∀ ba', (0 < j → ba' = ba) → Calls Try.prog 14 #[.slice (some ba') j c'] w4 fun e w' => e = .returned (.tuple #[.int .u64 0, .int .i64 0, .int .i64 10]) ∧ w4 = w') := by
        intro j hj c' hc' ba' hba
        have hL := HL.out
        by_cases h0 : 0 < j
        · rw [hba h0]
          exact get_short x j _ w4 hxr (by omega) (hr4.taken j (by omega) c' hc' (by simp))
        · obtain rfl : j = 0 := by omega
          refine get_short x 0 _ w4 hxr (by omega) ⟨by simp, some ba', c', rfl, by simp, by simp, fun h => by simp at h⟩
      have hz10 : ((10 : Int) != 10) = false := by decide
      clear hno4
      go_loop [10, 11, 12, 13] (fun i _ _ _ => ∃ j : Nat, j ≤ L ∧ i = .int .i64 j) (fun i _ _ _ => L - (intOf i).toNat)
      case atStart => exact ⟨0, Nat.zero_le _, rfl⟩
      case round =>
        obtain ⟨j, hj, rfl⟩ := hrel
        by_cases hjl : j < L
        · have hjc : j ≤ bc := by omega
          go_wp2_with fail
          refine (HSH.out j hjl j (by omega) ba (fun _ => rfl)).mono ?_
          rintro e w5 ⟨rfl, rfl⟩
          go_wp2_with fail
          go_round
          case rel => exact ⟨j + 1, by omega, by go_num⟩
          case measure => simp [intOf]; omega
        · obtain ⟨s, hs⟩ : ∃ s, s = wrap64 x := ⟨_, rfl⟩
          have hsr : -9223372036854775808 ≤ s ∧ s ≤ 9223372036854775807 := by rw [hs]; unfold wrap64; omega
          have HS := Lib.hid hs
          clear HSH
          go_wp2_with fail
          rw [← hs]
          refine (putInts_any [s] _ _ (rd_lit w4 _ _ _ _ rfl rfl (by simp [maxLen])) (by intro y hy; simp at hy; omega) (by simp)).mono ?_
          rintro e w6 ⟨v6, rfl, hown6, hb6⟩
          have hb6' := (hb4'.alloc hsz4 _).trans (hb6.mono (by simp; omega))
          have hr6 := hown6.rd
          rw [lebs_zz] at hr6
          have c6 := HC.out w6 hb6'
          clear hown6 hb6 c4
          go_wp2_with fail
          refine (getInt_leb s v6 w6 hsr hr6).mono ?_
          rintro e w7 ⟨rfl, rfl⟩
          have hne : (s != wrap64 x) = false := by rw [← hs]; simp
          clear hr6 hs
          go_wp2_with fail
          go_roundw
          case rel => exact ⟨k + 1, by omega, by go_num, hb6'⟩
          case measure => simp [intOf]; omega
    · have hke : k = xs.length := by omega
      subst hke
      clear hlt hk
      go_wp2_with fail
      refine (puts_any xs _ wr (hv.grow hbel) HW.out (by omega)).mono ?_
      rintro e w2 ⟨v2, rfl, hown2, hb2⟩
      have hb2' := bthen hbel hb2
      have hall := alls_lebs xs HW.out
      have hbytes : ∀ y ∈ lebs xs, 0 ≤ y ∧ y ≤ 255 := by
        intro y hy
        obtain ⟨z, hz, hy⟩ := List.mem_flatMap.1 hy
        exact leb1_bytes z (HW.out z hz).1 (HW.out z hz).2 y hy
      have hga := all_good (lebs xs) v2 w2 hown2.rd hbytes (by rw [hall]) (by rw [hall]; show xs.length * 8 ≤ _; omega)
      rw [hall] at hga
      have HGA := Lib.hid hga
      clear hga hbytes hall hown2 hb2
      go_wp2_with fail
      refine HGA.out.mono ?_
      rintro e w3 ⟨v3, rfl, hown3, hb3⟩
      have hb3' := bthen hb2' hb3
      have hr3 : Rd eU64 w3 v3 xs := hown3.rd
      clear hown3 hb3 hb2' HGA
      go_wp2_with fail
      refine (numbers_bel xs v3 _ w3 hr3 (hv.grow hb3')).mono ?_
      rintro e w4 ⟨rfl, hb4⟩
      have hb4' := bthen hb3' hb4
      have hr4 := hvm.grow hb4'
      have hga := get_any m _ w4 hr4 HM.out
      have hrng := get1_range m HM.out
      have hgb := get1_back m
      have hge := get1_err m
      have hgw := get1_width m HM.out
      obtain ⟨⟨n, wd, er⟩, hg⟩ : ∃ g, g = get1 m := ⟨_, rfl⟩
      rw [← hg] at hga hrng hgb hge hgw
      simp only [] at hga hrng hgb hge hgw
      have HGA := Lib.hid hga
      clear hga hg hr3 hb4 hb3'
      go_wp2_with fail
      refine HGA.out.mono ?_
      rintro e w5 ⟨rfl, rfl⟩
      clear HGA
      by_cases he : er = 0
      · subst he
        obtain ⟨hn0, hn1, hwl, hll, hlt⟩ := hgb n wd HM.out rfl
        have hl10 := leb1_len n
        obtain ⟨L, hL⟩ : ∃ L, L = (leb1 n).length := ⟨_, rfl⟩
        have hlt2 : leb1 n = m.take L := by rw [hL]; exact hlt
        rw [← hL] at hl10 hwl hll
        have HLT := Lib.hid hlt2
        subst hwl
        have hge1 : (1 : Int) ≤ (L : Int) := by omega
        have hle1 : (L : Int) ≤ (m.length : Int) := by omega
        have hL0 : (0 : Int) ≤ (L : Int) := by omega
        obtain ⟨hlc4, hno4⟩ : m.length ≤ sc ∧ (so = none → sc = 0) := by
          obtain ⟨_, a', c', he, h1, h2, _⟩ := hr4
          obtain ⟨rfl, rfl⟩ : so = a' ∧ sc = c' := by simpa using he
          exact ⟨h1, h2⟩
        obtain ⟨ba, rfl⟩ : ∃ ba, so = some ba := by
          cases so with
          | none => have := hno4 rfl; omega
          | some a => exact ⟨a, rfl⟩
        have hsc : (L : Int) ≤ (sc : Int) := by omega
        have hmm : (m.length : Int) ≤ (sc : Int) := by omega
        have HRT : Hid (∀ w', Below w4.heap.size w4 w' → Rd eU8 w' (.slice (some ba) L sc) (leb1 n)) := by
          intro w' hb'
          rw [HLT.out]
          exact (hr4.grow hb').taken L (by omega) sc (by omega) (by simp)
        clear hL hlt hlt2 hgb hge hgw hrng hno4
        go_wp2_with fail
        go_region_held3 (fun w' => Below w4.heap.size w4 w')
          (first | exact (Below.refl _ _).drew | exact Below.refl _ _ | exact ((Below.refl _ _).alloc (Nat.le_refl _) _).drew | exact hbi | exact hbk)
          (first
            | (go_at_call 13; refine (puts_any [n] _ _ ((rd_lit w4 _ _ _ _ rfl rfl (by simp [maxLen])).drew) (by simp; omega) (by simp)).mono ?_; rintro e wi ⟨vi2, rfl, howi, hbi0⟩; have hbi : Below w4.heap.size w4 wi := ((Below.refl _ _).alloc (Nat.le_refl _) _).drew.trans (hbi0.mono (by simp)))
            | (go_at_call 12; refine (same_bel (leb1 n) _ _ _ (by rw [← lebs_one]; exact howi.rd) (HRT.out _ hbi)).mono ?_; rintro e wk ⟨rfl, hbk0⟩; have hbk := bthen hbi hbk0))
        clear howi hbi0 hbi hbk0
        go_wp2_with fail
        go_ret
        exact ⟨rfl, bthen hb4' hbk⟩
      · have h2 : er ≠ 0 := he
        have hnw : n = 0 ∧ wd = 0 := by
          rcases hge with h | h | h
          · exact absurd h he
          · simp at h; omega
          · simp at h; omega
        obtain ⟨rfl, rfl⟩ := hnw
        have heb : (er != 0) = true := by simpa using he
        clear he h2 hgb hge hgw hrng
        go_wp2_with fail
        go_ret
        exact ⟨rfl, hb4'⟩
end Go.Proofs.Ytncppfoodjgpkaa
