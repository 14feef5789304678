/- leb.All of a good encoding: as many numbers as there are. -/
import Derived.Test.YtncppfoodjgpkaaLebAll
namespace Go.Proofs.Ytncppfoodjgpkaa
open Go.RowKit
set_option linter.unusedVariables false
theorem comb_len {acc : List Int} {r s : List Int × Int} (h : comb acc r = s) (h0 : s.2 = 0) : acc.length ≤ s.1.length := by
  subst h
  unfold comb at *
  split at h0
  · exact absurd h0 (by assumption)
  · rename_i hr; rw [if_neg hr]; simp

set_option maxHeartbeats 2000000 in
theorem all_good (b0 : List Int) (v : Value) (w : World) (hv : Rd eU8 w v b0) (hb : ∀ x ∈ b0, 0 ≤ x ∧ x ≤ 255) (h0 : (alls b0).2 = 0) (hl : (alls b0).1.length * 8 ≤ 140737488355328) :
    Calls Try.prog 23 #[v] w fun e w' => ∃ v', e = .returned (.tuple #[v', .int .i64 (alls b0).2]) ∧ Ow eU64 w.heap.size 22 w' v' (alls b0).1 ∧ Below w.heap.size w w' := by
  have H0 := Lib.hid h0
  clear h0
  obtain ⟨N, hN⟩ : ∃ N, N = (alls b0).1.length := ⟨_, rfl⟩
  have HN := Lib.hid hN
  rw [← hN] at hl
  clear hN
  go_enter Try.func23, Try.ntmps23
  go_wp2
  go_loopw [0, 4, 5, 6, 7] (fun bv nv _ _ _ wr => ∃ (b acc : List Int), Rd eU8 w bv b ∧ Hid (∀ x ∈ b, 0 ≤ x ∧ x ≤ 255) ∧ Ow eU64 w.heap.size 22 wr nv acc ∧ Hid (comb acc (alls b) = alls b0) ∧ acc.length ≤ N ∧ Below w.heap.size w wr)
    (fun bv _ _ _ _ _ => lenOfV bv)
  case atStart => exact ⟨b0, [], hv, hb, Ow.nil _ _ _, comb_nil b0, Nat.zero_le _, Below.refl _ _⟩
  case round =>
    obtain ⟨b, acc, hr, hbb, hown, hc, hlen, hbel⟩ := hrel
    have hrw := hr.grow hbel
    obtain ⟨hm, ao, cap, rfl, hlc, hn, hcell⟩ := hr
    by_cases h0 : 0 < b.length
    · have hbn : b ≠ [] := by rintro rfl; simp at h0
      have hstep := alls_step b hbb.out hbn acc
      rw [hc.out] at hstep
      have hg := get_any b _ wr hrw hbb.out
      have hrng := get1_range b hbb.out
      have hwd : (get1 b).2.2 = 0 → 1 ≤ (get1 b).2.1 := fun h => (get1_width b hbb.out h).1
      obtain ⟨n, hn'⟩ : ∃ n, n = (get1 b).1 := ⟨_, rfl⟩
      obtain ⟨wd, hw'⟩ : ∃ n, n = (get1 b).2.1 := ⟨_, rfl⟩
      obtain ⟨er, he'⟩ : ∃ n, n = (get1 b).2.2 := ⟨_, rfl⟩
      rw [← hn', ← hw', ← he'] at hstep hg hrng
      rw [← hw', ← he'] at hwd
      clear hn' hw' he'
      have HG := Lib.hid hg
      have hr0 : Rd eU8 w (.slice ao b.length cap) b := ⟨hm, ao, cap, rfl, hlc, hn, hcell⟩
      clear hg hbn
      obtain ⟨⟨hn0, hn1⟩, ⟨hw0, hw1, hw2⟩, her⟩ := hrng
      by_cases he : er = 0
      · subst he
        rw [if_neg (by simp)] at hstep
        have HS := Lib.hid hstep
        have hw3 := hwd rfl
        have hlen2 : acc.length + 1 ≤ N := by have h := comb_len hstep.symm H0.out; rw [HN.out]; simpa using h
        clear hstep hwd her
        obtain ⟨wn, rfl⟩ : ∃ wn : Nat, wd = wn := ⟨wd.toNat, by omega⟩
        go_wp2_with fail
        refine HG.out.mono ?_
        rintro e w' ⟨rfl, rfl⟩
        have hsz := hbel.size
        go_wp2_with (at_builtin; refine wl_append (E := eU64) rfl _ _ _ rfl w.heap.size 22 8 sliceU64 _ acc rfl (hown.alloc _) _ [n] rfl (Rd.lit wr _ _ _ _ _ _ (by simp [Enc.all, eInt]) rfl (by simp) (by decide)) (by simp; omega) (by unfold maxLen; simp; omega) (by simp; omega) ?_)
        intro v' w1 hown' hgrow _ _
        have hb' := (hbel.alloc hsz (.cells #[.int .u64 n] 22)).grown hgrow (by simp; omega) (fun j hj => (hown.lt hj).1)
        clear hgrow hown HG
        go_wp2_with fail
        go_roundw
        case rel =>
          rw [Int.toNat_natCast] at HS
          refine ⟨b.drop wn, acc ++ [n], hr0.sliced wn wn (by simp [eInt]) (by omega), drop_bytes hbb.out wn, hown', HS.out.symm, by simp; omega, hb'⟩
        case measure => simp [lenOfV]; omega
      · rw [if_pos he] at hstep
        have HS := Lib.hid hstep
        have heb : (er != 0) = true := by simpa using he
        clear hstep hwd
        go_wp2_with fail
        refine HG.out.mono ?_
        rintro e w' ⟨rfl, rfl⟩
        clear her he
        go_wp2_with fail
        go_ret2
        rw [HS.out]
        exact ⟨_, rfl, Ow.nil _ _ _, hbel⟩
    · obtain rfl : b = [] := List.eq_nil_of_length_eq_zero (by omega)
      have hall : alls b0 = (acc, 0) := by rw [← hc.out, alls_nil, comb]; simp
      have HS := Lib.hid hall
      have hz : ¬ (0 : Int) < (([] : List Int).length : Int) := by simp
      clear hall
      go_wp2_with fail
      go_ret2
      rw [HS.out]
      exact ⟨_, rfl, hown, hbel⟩

end Go.Proofs.Ytncppfoodjgpkaa
