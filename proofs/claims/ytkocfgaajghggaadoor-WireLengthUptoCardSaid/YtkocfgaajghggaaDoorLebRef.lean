/- Layer 1: the reference's One, Put, Turned, Back. -/
import Derived.Test.YtkocfgaajghggaaDoorLebPut
import Derived.Test.YtkocfgaajghggaaDoorGrid
namespace Go.Proofs.YtkocfgaajghggaaDoor
open Go.RowKit
set_option linter.unusedVariables false

/-- the digits, the least first -/
def digF : Nat → Int → List Int
  | 0, n => [n % 128]
  | f + 1, n => n % 128 :: if n / 128 = 0 then [] else digF f (n / 128)
/-- the first k of them marked -/
def hiF (d : List Int) (k : Nat) : List Int := (d.take k).map (· + 128) ++ d.drop k
theorem digF_pos (f : Nat) (n : Int) : 1 ≤ (digF f n).length ∧ (digF f n).length ≤ f + 1 := by
  induction f generalizing n with
  | zero => simp [digF]
  | succ f ih =>
    rw [digF]; split
    · simp
    · have := ih (n / 128); simp; omega
theorem digF_lt (f : Nat) (n : Int) : ∀ x ∈ digF f n, 0 ≤ x ∧ x < 128 := by
  induction f generalizing n with
  | zero => intro x hx; simp [digF] at hx; omega
  | succ f ih =>
    intro x hx
    rw [digF] at hx
    rcases List.mem_cons.1 hx with rfl | hx
    · omega
    · split at hx
      · simp at hx
      · exact ih _ x hx
theorem hiF_digF (f : Nat) : ∀ n : Int, 0 ≤ n → n < 2 * 128 ^ f → hiF (digF f n) ((digF f n).length - 1) = lebF f n := by
  induction f with
  | zero => intro n h0 h1; simp at h1; simp [hiF, digF, lebF]; omega
  | succ f ih =>
    intro n h0 h1
    rw [lebF]
    by_cases hn : n < 128
    · rw [if_pos hn, digF, if_pos (by omega)]; simp [hiF]; omega
    · rw [if_neg hn, digF, if_neg (by omega)]
      have hp := (digF_pos f (n / 128)).1
      have := ih (n / 128) (by omega) (div_lt h1)
      rw [← this]
      obtain ⟨k, hk⟩ : ∃ k, (digF f (n / 128)).length = k + 1 := ⟨_, (Nat.sub_add_cancel hp).symm⟩
      simp [hiF, hk]
theorem hiF_set (d : List Int) (i : Nat) (h : i < d.length) : (hiF d i).set i (d[i] + 128) = hiF d (i + 1) := by
  unfold hiF
  have hl : ((d.take i).map (· + 128)).length = i := by simp; omega
  rw [List.set_append_right _ _ (by omega), hl, Nat.sub_self, List.drop_eq_getElem_cons h, List.set_cons_zero, List.take_succ_eq_append_getElem h, List.map_append, List.append_assoc]; rfl
theorem hiF_len (d : List Int) (i : Nat) : (hiF d i).length = d.length := by simp [hiF]; omega
theorem hiF_at (d : List Int) (i : Nat) (h : i < d.length) (h' : i < (hiF d i).length) : (hiF d i)[i] = d[i] := by
  have e : (hiF d i)[i]? = d[i]? := by
    unfold hiF
    have hl : ((d.take i).map (· + 128)).length = i := by simp; omega
    rw [List.getElem?_append_right (by omega), hl, Nat.sub_self, List.getElem?_drop, Nat.add_zero]
  rw [List.getElem?_eq_getElem h', List.getElem?_eq_getElem h] at e
  exact Option.some.inj e
theorem hiF_zero (d : List Int) : hiF d 0 = d := by simp [hiF]

set_option maxHeartbeats 2000000 in
theorem one_any (n0 : Int) (w : World) (h0 : 0 ≤ n0) (h1 : n0 ≤ 18446744073709551615) :
    Calls Tryd.prog 39 #[.int .u64 n0] w fun e w' => ∃ v', e = .returned v' ∧ Ow eU8 w.heap.size 5 w' v' (leb1 n0) ∧ Below w.heap.size w w' := by
  go_enter Tryd.func39, Tryd.ntmps39
  go_wp2
  go_loopw [0, 3] (fun nn b wr => ∃ (f : Nat) (n : Int) (xs : List Int), f ≤ 9 ∧ 0 ≤ n ∧ Hid (n < 2 * 128 ^ f) ∧ nn = .int .u64 n ∧ n ≤ 18446744073709551615 ∧ Ow eU8 w.heap.size 5 wr b xs ∧ Hid (xs ++ digF f n = digF 9 n0) ∧ xs.length + f = 9 ∧ Below w.heap.size w wr)
    (fun nn _ _ => (intOf nn).toNat)
  case atStart => exact ⟨9, n0, [], by omega, h0, two64 h1, rfl, h1, Ow.nil _ _ _, rfl, rfl, Below.refl _ _⟩
  case round =>
    obtain ⟨f, n, xs, hf, hn0, hn1, rfl, hn2, hown, heq, hlen, hbel⟩ := hrel
    have hsz := hbel.size
    have hw : n % 128 % 256 = n % 128 := by omega
    go_wp2_with (at_builtin; refine wl_append (E := eU8) rfl _ _ _ rfl w.heap.size 5 1 sliceU8 _ xs rfl (hown.alloc _) _ [n % 128] rfl (Rd.lit wr _ _ _ _ _ _ (by simp [Enc.all, eInt]) rfl (by simp) (by decide)) (by simp; omega) (by unfold maxLen; simp; omega) (by simp; omega) ?_)
    intro v' w1 hown' hgrow _ _
    have hb' := (hbel.alloc hsz (.cells #[.int .u8 (n % 128)] 5)).grown hgrow (by simp; omega) (fun j hj => (hown.lt hj).1)
    clear hgrow hown hw
    by_cases hz : n / 128 = 0
    · have hdig : xs ++ [n % 128] = digF 9 n0 := by
        rw [← heq.out]; congr 1
        cases f with
        | zero => rfl
        | succ k => rw [digF, if_pos hz]
      rw [hdig] at hown'
      have hzb : (n / 128 == 0) = true := by simp [hz]
      have HZ := Lib.hid hz
      clear hz hdig heq hn1
      have hpos := digF_pos 9 n0
      have hfin : hiF (digF 9 n0) ((digF 9 n0).length - 1) = leb1 n0 := hiF_digF 9 n0 h0 (two64 h1)
      have HFIN := Lib.hid hfin
      obtain ⟨D, hD⟩ : ∃ D, D = digF 9 n0 := ⟨_, rfl⟩
      have hDl : ∀ x ∈ D, 0 ≤ x ∧ x < 128 := by rw [hD]; exact digF_lt 9 n0
      have HDL := Lib.hid hDl
      rw [← hD] at hown' hpos HFIN
      clear hfin hD hDl
      obtain ⟨ao, cap, rfl⟩ := hown'.len
      rw [← hiF_zero D] at hown'
      go_wp2_with fail
      go_loopw [4] (fun i wr => ∃ k : Nat, k ≤ D.length - 1 ∧ i = .int .i64 k ∧ Ow eU8 w.heap.size 5 wr (.slice ao D.length cap) (hiF D k) ∧ Below w.heap.size w wr) (fun i _ => D.length - (intOf i).toNat)
      case atStart => exact ⟨0, Nat.zero_le _, rfl, hown', hb'⟩
      case round =>
        clear hown' hb'
        obtain ⟨k, hk, rfl, hown, hbel⟩ := hrel
        by_cases hlt : k < D.length - 1
        · obtain ⟨g, off, rfl, hg, hc⟩ := hown.at_ k (by rw [hiF_len]; omega)
          obtain ⟨c1, f1⟩ := hc 0 (by decide)
          have hd := HDL.out (D[k]) (List.getElem_mem (by omega))
          have hst := hown.store k (by rw [hiF_len]; omega) (D[k] + 128)
          rw [hiF_set D k (by omega)] at hst
          rw [hiF_at D k (by omega) (by rw [hiF_len]; omega)] at c1
          obtain ⟨x, hx⟩ : ∃ x, x = D[k] := ⟨_, rfl⟩
          rw [← hx] at hst c1 hd
          have e1 : off + (k * eU8.size + 0) = off + k := by simp [eInt]
          rw [e1] at c1 f1
          have c1' : wr.cell? ⟨g, off + k, none⟩ = some (.int .u8 x) := by rw [c1]; rfl
          have hst' : Ow eU8 w.heap.size 5 (wr.setCell ⟨g, off + k, none⟩ (.int .u8 (x + 128))) (.slice (some ⟨g, off, none⟩) D.length cap) (hiF D (k + 1)) := by
            have e2 : off + k * eU8.size = off + k := by simp [eInt]
            rw [e2] at hst; exact hst
          have hb2 := hbel.setCell (p := ⟨g, off + k, none⟩) hg (.int .u8 (x + 128))
          have hxw : (x + 128) % 256 = x + 128 := by omega
          clear hst c1 hc hx e1 hown
          go_wp2_with fail
          go_roundw
          case rel => exact ⟨k + 1, by omega, by go_num, hst', hb2⟩
          case measure => simp [intOf]; omega
        · have hke : k = D.length - 1 := by omega
          subst hke
          rw [HFIN.out] at hown
          go_wp2_with fail
          go_ret
          exact ⟨_, rfl, hown, hbel⟩
    · have hzb : (n / 128 == 0) = false := by simp; omega
      have hf1 : f ≠ 0 := by rintro rfl; have := hn1.out; simp at this; omega
      have hdig : (xs ++ [n % 128]) ++ digF (f - 1) (n / 128) = digF 9 n0 := by
        rw [← heq.out, List.append_assoc]; congr 1
        obtain ⟨k, rfl⟩ : ∃ k, f = k + 1 := ⟨f - 1, by omega⟩
        rw [digF, if_neg hz]; rfl
      have hd : n / 128 < 2 * 128 ^ (f - 1) := by
        obtain ⟨k, rfl⟩ : ∃ k, f = k + 1 := ⟨f - 1, by omega⟩
        exact div_lt hn1.out
      have HDIG := Lib.hid hdig
      have HD := Lib.hid hd
      clear hdig hd heq hn1
      go_wp2_with fail
      go_roundw
      case rel => exact ⟨f - 1, n / 128, _, by omega, by omega, HD, rfl, by omega, hown', HDIG, by simp; omega, hb'⟩
      case measure => simp [intOf]; omega

theorem turned_pos (n : Int) (h : 0 ≤ n) (h2 : n ≤ 9223372036854775807) : zz n = 2 * n := by rw [zz, if_pos h]
set_option maxHeartbeats 400000 in
theorem turned_any (n : Int) (w : World) (h : -9223372036854775808 ≤ n ∧ n ≤ 9223372036854775807) :
    Calls Tryd.prog 40 #[.int .i64 n] w fun e w' => e = .returned (.int .u64 (zz n)) ∧ w = w' := by
  obtain ⟨ha, hb⟩ := h
  by_cases hn : 0 ≤ n
  · go_enter Tryd.func40, Tryd.ntmps40
    go_wp2
    go_ret
    exact ⟨ret_int (by rw [zz, if_pos (by omega)]; first | done | omega | (simp only [IntKind.wrap_u64]; omega)), rfl⟩
  · have hn' : n < 0 := by omega
    go_enter Tryd.func40, Tryd.ntmps40
    go_wp2
    go_ret
    exact ⟨ret_int (by rw [zz, if_neg (by omega)]; first | done | omega | (simp only [IntKind.wrap_u64, wrap64]; omega)), rfl⟩
set_option maxHeartbeats 400000 in
theorem back_any (n : Int) (w : World) (h0 : 0 ≤ n) (h1 : n ≤ 18446744073709551615) :
    Calls Tryd.prog 32 #[.int .u64 n] w fun e w' => e = .returned (.int .i64 (unzz n)) ∧ w = w' := by
  by_cases hn : n % 2 = 0
  · have hb : (n % 2 == 0) = true := by simp [hn]
    have hn1 := Lib.hid hn
    clear hn
    go_enter Tryd.func32, Tryd.ntmps32
    go_wp2
    go_ret
    have hn := hn1.out
    exact ⟨ret_int (by rw [unzz, if_pos hn]; first | done | omega | (simp only [wrap64]; omega)), rfl⟩
  · have hb : (n % 2 == 0) = false := by simp; omega
    have hn1 := Lib.hid hn
    clear hn
    go_enter Tryd.func32, Tryd.ntmps32
    go_wp2
    go_ret
    have hn := hn1.out
    exact ⟨ret_int (by rw [unzz, if_neg hn]; first | done | omega | (simp only [wrap64]; omega)), rfl⟩
end Go.Proofs.YtkocfgaajghggaaDoor
