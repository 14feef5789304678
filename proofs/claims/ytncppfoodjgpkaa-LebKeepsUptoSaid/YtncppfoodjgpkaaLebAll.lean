/- Layer 1: the walks of All and the reference's All. -/
import Derived.Test.YtncppfoodjgpkaaLebRefGet
namespace Go.Proofs.Ytncppfoodjgpkaa
open Go.RowKit
set_option linter.unusedVariables false

/-- what is left of a slice behind its first k elements -/
theorem Rd.drop {α : Type} {E : Enc α} {w : World} {ao : Option Addr} {n cap : Nat} {xs : List α} (h : Rd E w (.slice ao n cap) xs) (k : Nat) (hk : k ≤ xs.length) (a' : Option Addr) (ha : k < xs.length → ∀ b off, ao = some ⟨b, off, none⟩ → a' = some ⟨b, off + k * E.size, none⟩) (hn : a' = none → cap - k = 0) :
    Rd E w (.slice a' (n - k) (cap - k)) (xs.drop k) := by
  obtain ⟨hm, ao', cap', he, hlc, hnone, hx⟩ := h
  obtain ⟨rfl, rfl, rfl⟩ : ao = ao' ∧ n = xs.length ∧ cap = cap' := by simpa using he
  refine ⟨by simp; omega, a', cap - k, by simp, by simp; omega, hn, fun h0 => ?_⟩
  have hlt : k < xs.length := by simp at h0; omega
  obtain ⟨b, off, rfl, hc⟩ := hx (by omega)
  refine ⟨b, off + k * E.size, ha hlt b off rfl, fun j u hj => ?_⟩
  rw [E.all_drop, List.getElem?_drop] at hj
  have := hc _ u hj
  rw [Nat.add_assoc]; exact this

/-- a slice's length -/
def lenOfV : Value → Nat
  | .slice _ n _ => n
  | _ => 0
/-- s[k:], as the walk writes it -/
theorem Rd.sliced {α : Type} {E : Enc α} {w : World} {ao : Option Addr} {n cap : Nat} {xs : List α} (h : Rd E w (.slice ao n cap) xs) (k m : Nat) (hm : m = k * E.size) (hk : k ≤ xs.length) :
    Rd E w (.slice (if cap = k then ao else Option.map (fun x => x.add m) ao) (n - k) (cap - k)) (xs.drop k) := by
  have hlc : xs.length ≤ cap ∧ (ao = none → cap = 0) := by
    obtain ⟨_, ao', cap', he, h1, h2, _⟩ := h
    obtain ⟨rfl, rfl, rfl⟩ : ao = ao' ∧ n = xs.length ∧ cap = cap' := by simpa using he
    exact ⟨h1, h2⟩
  refine h.drop k hk _ (fun hlt b off he => ?_) (fun hn => ?_)
  · subst he; subst hm
    rw [if_neg (by omega)]; simp [Addr.add]
  · split at hn
    · omega
    · simp at hn; have := hlc.2 hn; omega

set_option maxHeartbeats 2000000 in
theorem all_any (b0 : List Int) (v : Value) (w : World) (hv : Rd eU8 w v b0) (hb : ∀ x ∈ b0, 0 ≤ x ∧ x ≤ 255) (hl : b0.length * 8 ≤ 140737488355328) :
    Calls Try.prog 23 #[v] w fun e w' => ∃ v', e = .returned (.tuple #[v', .int .i64 (alls b0).2]) ∧ Ow eU64 w.heap.size 22 w' v' (alls b0).1 ∧ Below w.heap.size w w' := by
  go_enter Try.func23, Try.ntmps23
  go_wp2
  go_loopw [0, 4, 5, 6, 7] (fun bv nv _ _ _ wr => ∃ (b acc : List Int), Rd eU8 w bv b ∧ Hid (∀ x ∈ b, 0 ≤ x ∧ x ≤ 255) ∧ Ow eU64 w.heap.size 22 wr nv acc ∧ Hid (comb acc (alls b) = alls b0) ∧ acc.length + b.length ≤ b0.length ∧ Below w.heap.size w wr)
    (fun bv _ _ _ _ _ => lenOfV bv)
  case atStart => exact ⟨b0, [], hv, hb, Ow.nil _ _ _, comb_nil b0, by simp, Below.refl _ _⟩
  case round =>
    obtain ⟨b, acc, hr, hbb, hown, hc, hlen, hbel⟩ := hrel
    have hrw := hr.grow hbel
    obtain ⟨hm, ao, cap, rfl, hlc, hn, hcell⟩ := hr
    by_cases h0 : 0 < b.length
    · have hbn : b ≠ [] := by rintro rfl; simp at h0
      have hstep := alls_step b hbb.out hbn acc
      rw [hc.out] at hstep
      have hg := get_any b _ wr hrw hbb.out
      have hrng := get1_range b hbb.out
      have hwd : (get1 b).2.2 = 0 → 1 ≤ (get1 b).2.1 := fun h => (get1_width b hbb.out h).1
      obtain ⟨n, hn'⟩ : ∃ n, n = (get1 b).1 := ⟨_, rfl⟩
      obtain ⟨wd, hw'⟩ : ∃ n, n = (get1 b).2.1 := ⟨_, rfl⟩
      obtain ⟨er, he'⟩ : ∃ n, n = (get1 b).2.2 := ⟨_, rfl⟩
      rw [← hn', ← hw', ← he'] at hstep hg hrng
      rw [← hw', ← he'] at hwd
      clear hn' hw' he'
      have HG := Lib.hid hg
      have hr0 : Rd eU8 w (.slice ao b.length cap) b := ⟨hm, ao, cap, rfl, hlc, hn, hcell⟩
      clear hg hbn
      obtain ⟨⟨hn0, hn1⟩, ⟨hw0, hw1, hw2⟩, her⟩ := hrng
      by_cases he : er = 0
      · subst he
        rw [if_neg (by simp)] at hstep
        have HS := Lib.hid hstep
        have hw3 := hwd rfl
        clear hstep hwd her
        obtain ⟨wn, rfl⟩ : ∃ wn : Nat, wd = wn := ⟨wd.toNat, by omega⟩
        go_wp2_with fail
        refine HG.out.mono ?_
        rintro e w' ⟨rfl, rfl⟩
        have hsz := hbel.size
        go_wp2_with (at_builtin; refine wl_append (E := eU64) rfl _ _ _ rfl w.heap.size 22 8 sliceU64 _ acc rfl (hown.alloc _) _ [n] rfl (Rd.lit wr _ _ _ _ _ _ (by simp [Enc.all, eInt]) rfl (by simp) (by decide)) (by simp; omega) (by unfold maxLen; simp; omega) (by simp; omega) ?_)
        intro v' w1 hown' hgrow _ _
        have hb' := (hbel.alloc hsz (.cells #[.int .u64 n] 22)).grown hgrow (by simp; omega) (fun j hj => (hown.lt hj).1)
        clear hgrow hown HG
        go_wp2_with fail
        go_roundw
        case rel =>
          rw [Int.toNat_natCast] at HS
          refine ⟨b.drop wn, acc ++ [n], hr0.sliced wn wn (by simp [eInt]) (by omega), drop_bytes hbb.out wn, hown', HS.out.symm, by simp; omega, hb'⟩
        case measure => simp [lenOfV]; omega
      · rw [if_pos he] at hstep
        have HS := Lib.hid hstep
        have heb : (er != 0) = true := by simpa using he
        clear hstep hwd
        go_wp2_with fail
        refine HG.out.mono ?_
        rintro e w' ⟨rfl, rfl⟩
        clear her he
        go_wp2_with fail
        go_ret2
        rw [HS.out]
        exact ⟨_, rfl, Ow.nil _ _ _, hbel⟩
    · obtain rfl : b = [] := List.eq_nil_of_length_eq_zero (by omega)
      have hall : alls b0 = (acc, 0) := by rw [← hc.out, alls_nil, comb]; simp
      have HS := Lib.hid hall
      have hz : ¬ (0 : Int) < (([] : List Int).length : Int) := by simp
      clear hall
      go_wp2_with fail
      go_ret2
      rw [HS.out]
      exact ⟨_, rfl, hown, hbel⟩

set_option maxHeartbeats 400000 in
theorem refAll_any (b0 : List Int) (v : Value) (w : World) (hv : Rd eU8 w v b0) (hb : ∀ x ∈ b0, 0 ≤ x ∧ x ≤ 255) (hl : b0.length * 8 ≤ 140737488355328) :
    Calls Try.prog 24 #[v] w fun e w' => ∃ v', e = .returned (.tuple #[v', .int .i64 (alls b0).2]) ∧ Ow eU64 w.heap.size 22 w' v' (alls b0).1 ∧ Below w.heap.size w w' := by
  have HB := Lib.hid hb
  clear hb
  obtain ⟨ao, ca, rfl⟩ : ∃ ao ca, v = .slice ao b0.length ca := by obtain ⟨_, a, c, h, _⟩ := hv; exact ⟨a, c, h⟩
  have hcap : b0.length ≤ ca := by
    obtain ⟨_, a', c', he, h1, _⟩ := hv
    have hcc : ca = c' := by simp at he; exact he.2
    omega
  go_enter Try.func24, Try.ntmps24
  go_wp2
  go_loopw [4, 5, 6, 7, 8] (fun nv atv _ _ _ wr => ∃ (k : Nat) (acc : List Int), k ≤ b0.length ∧ atv = .int .i64 k ∧ Ow eU64 w.heap.size 22 wr nv acc ∧ Hid (comb acc (alls (b0.drop k)) = alls b0) ∧ acc.length ≤ k ∧ Below w.heap.size w wr)
    (fun _ atv _ _ _ _ => b0.length - (intOf atv).toNat)
  case atStart => exact ⟨0, [], Nat.zero_le _, rfl, Ow.nil _ _ _, comb_nil b0, by simp, Below.refl _ _⟩
  case round =>
    obtain ⟨k, acc, hk, rfl, hown, hc, hlen, hbel⟩ := hrel
    by_cases h0 : k < b0.length
    · obtain ⟨b, hbd⟩ : ∃ b, b = b0.drop k := ⟨_, rfl⟩
      have hbn : b ≠ [] := by rw [hbd]; intro e; have := congrArg List.length e; simp at this; omega
      have hbb : ∀ x ∈ b, 0 ≤ x ∧ x ≤ 255 := by rw [hbd]; exact drop_bytes HB.out k
      have hbl : b.length = b0.length - k := by rw [hbd]; simp
      have hstep := alls_step b hbb hbn acc
      have hcc := hc.out
      rw [← hbd] at hcc
      rw [hcc] at hstep
      have hrs := (hv.grow hbel).sliced k k (by simp [eInt]) hk
      rw [← hbd, if_neg (by omega)] at hrs
      have hg := refGet_any b _ wr hrs hbb
      have hrng := get1_range b hbb
      have hwd : (get1 b).2.2 = 0 → 1 ≤ (get1 b).2.1 := fun h => (get1_width b hbb h).1
      obtain ⟨n, hn'⟩ : ∃ n, n = (get1 b).1 := ⟨_, rfl⟩
      obtain ⟨wd, hw'⟩ : ∃ n, n = (get1 b).2.1 := ⟨_, rfl⟩
      obtain ⟨er, he'⟩ : ∃ n, n = (get1 b).2.2 := ⟨_, rfl⟩
      rw [← hn', ← hw', ← he'] at hstep hg hrng
      rw [← hw', ← he'] at hwd
      clear hn' hw' he' hrs hcc hc
      have HG := Lib.hid hg
      clear hg hbn hbb
      obtain ⟨⟨hn0, hn1⟩, ⟨hw0, hw1, hw2⟩, her⟩ := hrng
      rw [hbl] at hw2
      clear hbl
      by_cases he : er = 0
      · subst he
        rw [if_neg (by simp), hbd, List.drop_drop] at hstep
        have HS := Lib.hid hstep
        have hw3 := hwd rfl
        clear hstep hwd her hbd
        obtain ⟨wn, rfl⟩ : ∃ wn : Nat, wd = wn := ⟨wd.toNat, by omega⟩
        go_wp2_with fail
        refine HG.out.mono ?_
        rintro e w' ⟨rfl, rfl⟩
        have hsz := hbel.size
        go_wp2_with (at_builtin; refine wl_append (E := eU64) rfl _ _ _ rfl w.heap.size 22 8 sliceU64 _ acc rfl (hown.alloc _) _ [n] rfl (Rd.lit wr _ _ _ _ _ _ (by simp [Enc.all, eInt]) rfl (by simp) (by decide)) (by simp; omega) (by unfold maxLen; simp; omega) (by simp; omega) ?_)
        intro v' w1 hown' hgrow _ _
        have hb' := (hbel.alloc hsz (.cells #[.int .u64 n] 22)).grown hgrow (by simp; omega) (fun j hj => (hown.lt hj).1)
        clear hgrow hown HG
        go_wp2_with fail
        go_roundw
        case rel =>
          rw [Int.toNat_natCast] at HS
          refine ⟨k + wn, acc ++ [n], by omega, by go_num, hown', HS.out.symm, by simp; omega, hb'⟩
        case measure => simp [intOf]; omega
      · rw [if_pos he] at hstep
        have HS := Lib.hid hstep
        have heb : (er != 0) = true := by simpa using he
        clear hstep hwd hbd
        go_wp2_with fail
        refine HG.out.mono ?_
        rintro e w' ⟨rfl, rfl⟩
        clear her he
        go_wp2_with fail
        go_ret2
        rw [HS.out]
        exact ⟨_, rfl, Ow.nil _ _ _, hbel⟩
    · have hall : alls b0 = (acc, 0) := by rw [← hc.out, List.drop_eq_nil_of_le (by omega), alls_nil, comb]; simp
      have HS := Lib.hid hall
      clear hall
      go_wp2_with fail
      go_ret2
      rw [HS.out]
      exact ⟨_, rfl, hown, hbel⟩
end Go.Proofs.Ytncppfoodjgpkaa
