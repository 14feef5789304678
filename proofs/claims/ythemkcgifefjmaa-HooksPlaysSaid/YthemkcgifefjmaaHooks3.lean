/- Layer 19: Swap, Current, Where. -/
import Derived.Test.YthemkcgifefjmaaHooks2
namespace Go.Proofs.Ythemkcgifefjmaa
open Go.RowKit
set_option linter.unusedVariables false

set_option maxHeartbeats 2000000 in
theorem swap_any (g : Nat) (last : Int) (hs : List Pub) (h prog : Int) (S : Nat → Prop) (w : World) (H : TabS g last hs S w) (hn : hs.length ≤ 4) (h0 : 0 ≤ last) (h1 : last < 9223372036854775807) :
    Calls Try.prog 9 #[.pointer (some ⟨g, 0, none⟩), .int .i64 h, .int .i64 prog] w fun e w' => e = .returned (.tuple #[.int .i64 (swapOf hs last h prog).1, .int .i64 (swapOf hs last h prog).2.1]) ∧ TabS g (swapOf hs last h prog).2.2.1 (swapOf hs last h prog).2.2.2 S w' ∧ Only S w w' := by
  obtain ⟨v, H⟩ := H
  have HH := Lib.hid H
  by_cases hb : bad hs h
  · have e1 : swapOf hs last h prog = (0, 2, last, hs) := by simp [swapOf, hb]
    rw [e1]
    obtain ⟨ao, cap, rfl⟩ := H.shape
    have c1 := blk_cell H.1 1
    have HB := Lib.hid hb
    have HC := Lib.hid c1
    clear H hb c1 e1
    go_enter Try.func9, Try.ntmps9
    go_wp2_with fail
    refine (known_no g hs.length ao cap h w HC.out HB.out (by omega)).mono ?_
    rintro e w1 ⟨rfl, rfl⟩
    go_wp2_with fail
    go_ret2
    exact ⟨rfl, ⟨_, HH.out⟩, Only.refl _ _⟩
  · obtain ⟨k, rfl⟩ : ∃ k : Nat, h = (k : Int) := ⟨h.toNat, by unfold bad at hb; omega⟩
    have hk : k < hs.length := by unfold bad at hb; omega
    have hge : getH hs (k : Int) = hs[k] := by simp [getH, hk]
    obtain ⟨b, off, cap, rfl, hcap, x0, x1⟩ := H.at_ k hk
    have c1 : w.cell? ⟨g, 1, none⟩ = some (.slice (some ⟨b, off, none⟩) hs.length cap) := blk_cell H.1 1
    by_cases ht : 0 < hs[k].1
    · have e1 : swapOf hs last (k : Int) prog = (last + 1, 0, last + 1, hs.set k (last + 1, prog)) := by simp only [swapOf, if_neg hb, hge, if_pos ht]; simp
      rw [e1]
      have HX := Lib.hid x0
      have HT := Lib.hid ht
      have HC := Lib.hid c1
      clear H hb e1 hge x0 x1 ht c1
      go_enter Try.func9, Try.ntmps9
      go_wp2_with fail
      refine (known_yes g hs.length _ cap k w HC.out hk (by omega)).mono ?_
      rintro e w1 ⟨rfl, rfl⟩
      go_wp2_with fail
      refine (taken_any g b off hs.length cap k _ w HC.out hk (by omega) HX.out true (by simpa using HT.out)).mono ?_
      rintro e w1 ⟨rfl, rfl⟩
      go_wp2_with fail
      refine (publish_any g last hs k prog _ S w HH.out hk hn h0 h1).mono ?_
      rintro e w2 ⟨rfl, H2, O2⟩
      have HH2 := Lib.hid H2
      clear H2
      go_wp2_with fail
      go_ret2
      exact ⟨rfl, ⟨_, HH2.out⟩, O2⟩
    · have e1 : swapOf hs last (k : Int) prog = (0, 41, last, hs) := by simp only [swapOf, if_neg hb, hge, if_neg ht]
      rw [e1]
      have HX := Lib.hid x0
      have HT := Lib.hid ht
      have HC := Lib.hid c1
      clear H hb e1 hge x0 x1 ht c1
      go_enter Try.func9, Try.ntmps9
      go_wp2_with fail
      refine (known_yes g hs.length _ cap k w HC.out hk (by omega)).mono ?_
      rintro e w1 ⟨rfl, rfl⟩
      go_wp2_with fail
      refine (taken_any g b off hs.length cap k _ w HC.out hk (by omega) HX.out false (by simpa using HT.out)).mono ?_
      rintro e w1 ⟨rfl, rfl⟩
      go_wp2_with fail
      go_ret2
      exact ⟨rfl, ⟨_, HH.out⟩, Only.refl _ _⟩

set_option maxHeartbeats 2000000 in
theorem current_any (g : Nat) (last : Int) (hs : List Pub) (h : Int) (S : Nat → Prop) (w : World) (H : TabS g last hs S w) (hn : hs.length ≤ 4) :
    Calls Try.prog 12 #[.pointer (some ⟨g, 0, none⟩), .int .i64 h] w fun e w' => e = .returned (.tuple #[.int .i64 (currentOf hs h).1, .int .i64 (currentOf hs h).2.1, .bool (currentOf hs h).2.2]) ∧ Only (fun _ => False) w w' := by
  obtain ⟨v, H⟩ := H
  by_cases hb : bad hs h
  · have e1 : currentOf hs h = (0, 0, false) := by simp [currentOf, hb]
    rw [e1]
    obtain ⟨ao, cap, rfl⟩ := H.shape
    have c1 := blk_cell H.1 1
    have HB := Lib.hid hb
    have HC := Lib.hid c1
    clear H hb c1 e1
    go_enter Try.func12, Try.ntmps12
    go_wp2_with fail
    refine (known_no g hs.length ao cap h w HC.out HB.out (by omega)).mono ?_
    rintro e w1 ⟨rfl, rfl⟩
    go_wp2_with fail
    go_ret3
    exact ⟨rfl, Only.refl _ _⟩
  · obtain ⟨k, rfl⟩ : ∃ k : Nat, h = (k : Int) := ⟨h.toNat, by unfold bad at hb; omega⟩
    have hk : k < hs.length := by unfold bad at hb; omega
    have hge : getH hs (k : Int) = hs[k] := by simp [getH, hk]
    obtain ⟨b, off, cap, rfl, hcap, x0, x1⟩ := H.at_ k hk
    have c1 : w.cell? ⟨g, 1, none⟩ = some (.slice (some ⟨b, off, none⟩) hs.length cap) := blk_cell H.1 1
    by_cases ht : 0 < hs[k].1
    · have e1 : currentOf hs (k : Int) = (hs[k].1, hs[k].2, true) := by simp only [currentOf, if_neg hb, hge, if_pos ht]
      rw [e1]
      have HX := Lib.hid x0
      have HT := Lib.hid ht
      have HC := Lib.hid c1
      obtain ⟨n, hnn⟩ : ∃ n, n = hs.length := ⟨_, rfl⟩
      rw [← hnn] at c1 hk hn HC
      generalize hs[k] = p at *
      have hi0 : (0 : Int) ≤ (k : Int) := by omega
      have hi1 : (k : Int) < (n : Int) := by omega
      clear H hb e1 hge ht hnn
      go_enter Try.func12, Try.ntmps12
      go_wp2_with fail
      refine (known_yes g n _ cap k w HC.out hk (by omega)).mono ?_
      rintro e w1 ⟨rfl, rfl⟩
      go_wp2_with fail
      refine (taken_any g b off n cap k _ w HC.out hk (by omega) HX.out true (by simpa using HT.out)).mono ?_
      rintro e w1 ⟨rfl, rfl⟩
      go_wp2_with fail
      go_quiet (fail)
      go_wp2_with fail
      go_ret3
      exact ⟨rfl, (Only.alloc _ _ _).drewN _⟩
    · have e1 : currentOf hs (k : Int) = (0, 0, false) := by simp only [currentOf, if_neg hb, hge, if_neg ht]
      rw [e1]
      have HX := Lib.hid x0
      have HT := Lib.hid ht
      have HC := Lib.hid c1
      clear H hb e1 hge x0 x1 ht c1
      go_enter Try.func12, Try.ntmps12
      go_wp2_with fail
      refine (known_yes g hs.length _ cap k w HC.out hk (by omega)).mono ?_
      rintro e w1 ⟨rfl, rfl⟩
      go_wp2_with fail
      refine (taken_any g b off hs.length cap k _ w HC.out hk (by omega) HX.out false (by simpa using HT.out)).mono ?_
      rintro e w1 ⟨rfl, rfl⟩
      go_wp2_with fail
      go_ret3
      exact ⟨rfl, Only.refl _ _⟩


set_option maxHeartbeats 1000000 in
theorem index_any (xs : List Int) (x : Int) (v : Value) (w : World) (hv : Rd (eInt .i64) w v xs) :
    Calls Try.prog 26 #[v, .int .i64 x] w fun e w' => (∃ i : Int, e = .returned (.int .i64 i) ∧ (0 ≤ i ↔ x ∈ xs)) ∧ w = w' := by
  obtain ⟨hm, a, cap, rfl, _, _, hx⟩ := hv
  unfold maxLen at hm
  go_enter Try.func26, Try.ntmps26
  go_wp2_with fail
  go_loop [5, 8] (fun _ i => ∃ k : Nat, k ≤ xs.length ∧ i = .int .i64 k ∧ Hid (x ∉ xs.take k)) (fun _ i => xs.length - (intOf i).toNat)
  case atStart => exact ⟨0, Nat.zero_le _, rfl, by show x ∉ _; simp⟩
  case round =>
    obtain ⟨k, hk, rfl, hno⟩ := hrel
    by_cases hlt : k < xs.length
    · obtain ⟨b, off, rfl, hc⟩ := hx (by omega)
      have c0 := hc k _ (eInt_at .i64 xs k hlt)
      have hmem : xs[k] ∈ xs := List.getElem_mem hlt
      have hst : xs[k] ≠ x → x ∉ xs.take (k + 1) := fun hne h => by
        rw [List.take_succ_eq_append_getElem hlt] at h
        rcases List.mem_append.1 h with h | h
        · exact hno.out h
        · exact hne (List.mem_singleton.1 h).symm
      have HM := Lib.hid hmem
      have HST := Lib.hid hst
      clear hc hmem hst
      generalize xs[k] = y at *
      by_cases hxy : x = y
      · subst hxy
        have hq : (x == x) = true := by simp
        go_wp2_with fail
        go_ret
        exact ⟨⟨_, rfl, by simp [HM.out]⟩, rfl⟩
      · have hq : (x == y) = false := by simpa using hxy
        have HS2 := Lib.hid (HST.out (fun e => hxy e.symm))
        clear hxy
        go_wp2_with fail
        go_round
        case rel => exact ⟨k + 1, by omega, by go_num, HS2⟩
        case measure => simp [intOf]; omega
    · have hf := hno.out
      rw [List.take_of_length_le (by omega)] at hf
      have HF := Lib.hid hf
      clear hf hno
      go_wp2_with fail
      go_ret
      exact ⟨⟨_, rfl, by simp [HF.out]⟩, rfl⟩
theorem contains_any (xs : List Int) (x : Int) (v : Value) (w : World) (hv : Rd (eInt .i64) w v xs) :
    Calls Try.prog 20 #[v, .int .i64 x] w fun e w' => e = .returned (.bool (decide (x ∈ xs))) ∧ w = w' := by
  go_enter Try.func20, Try.ntmps20
  go_wp2_with fail
  refine (index_any xs x v w hv).mono ?_
  rintro e w1 ⟨⟨i, rfl, hi⟩, rfl⟩
  have HI := Lib.hid hi
  clear hi
  go_wp2_with fail
  go_ret
  exact ⟨ret_bool (by rw [decide_eq_decide]; exact HI.out), rfl⟩
end Go.Proofs.Ythemkcgifefjmaa
