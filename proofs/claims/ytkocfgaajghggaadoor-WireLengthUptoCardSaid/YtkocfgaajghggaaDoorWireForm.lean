/- wire: which maps are formed. -/
import Derived.Test.YtkocfgaajghggaaDoorToolW
import Derived.Test.YtkocfgaajghggaaDoorWirePlain
namespace Go.Proofs.YtkocfgaajghggaaDoor
open Go.RowKit
set_option linter.unusedVariables false
set_option linter.unusedSimpArgs false

def NoneOf (ms : List Int) (n : Int) (k : Nat) : Prop := ∀ j (h : j < ms.length), j < k → ms[j] ≠ n
theorem index_any (ms : List Int) (n : Int) (v : Value) (w : World) (hr : Rd (eInt .i64) w v ms) :
    Calls Tryd.prog 42 #[v, .int .i64 n] w fun e w' => (∃ r : Int, e = .returned (.int .i64 r) ∧ decide (0 ≤ r) = decide (n ∈ ms)) ∧ w = w' := by
  obtain ⟨hmx, ao, cap, rfl, _, _, hx⟩ := hr
  unfold maxLen at hmx
  have HX := Lib.hid hx
  clear hx
  go_enter Tryd.func42, Tryd.ntmps42
  go_wp2_with fail
  go_loopw [5, 8] (fun t5 t8 wr => ∃ i : Nat, i ≤ ms.length ∧ t8 = .int .i64 i ∧ Hid (NoneOf ms n i) ∧ wr = w) (fun _ t8 _ => ms.length - (intOf t8).toNat)
  case atStart => exact ⟨0, Nat.zero_le _, rfl, fun a _ h => by omega, rfl⟩
  case round =>
    obtain ⟨i, hi, rfl, HN, rfl⟩ := hrel
    by_cases hlt : i < ms.length
    · obtain ⟨sb, off, rfl, hc⟩ := HX.out (by omega)
      have c1 := hc i _ (eInt_at .i64 ms i hlt)
      have hi0 : (0 : Int) ≤ (i : Int) := by omega
      have hi1 : (i : Int) < (ms.length : Int) := by omega
      clear hc
      by_cases hk : n = ms[i]
      · have HP := Lib.hid (show decide ((0 : Int) ≤ (i : Int)) = decide (n ∈ ms) by
          rw [decide_eq_true (by omega), decide_eq_true]
          rw [hk]; exact List.getElem_mem hlt)
        rw [← hk] at c1
        clear hk
        go_wp2_with fail
        go_ret
        exact ⟨⟨_, rfl, HP.out⟩, rfl⟩
      · have HN2 := Lib.hid (show NoneOf ms n (i + 1) from fun a ha hlt' => by
          by_cases e : a = i
          · subst e; exact fun e => hk e.symm
          · exact HN.out a ha (by omega))
        generalize ms[i] = p0 at *
        go_wp2_with fail
        go_roundw
        case rel => first | exact ⟨i + 1, by omega, by go_num, HN2⟩ | exact ⟨i + 1, by omega, by go_num, HN2, by first | rfl | trivial⟩
        case measure => simp [intOf]; omega
    · have HP := Lib.hid (show decide ((0 : Int) ≤ -1) = decide (n ∈ ms) by
        rw [decide_eq_false (by omega), decide_eq_false]
        intro hm
        obtain ⟨j, hj, he⟩ := List.getElem_of_mem hm
        exact HN.out j hj (by omega) he)
      go_wp2_with fail
      go_ret
      exact ⟨⟨_, rfl, HP.out⟩, rfl⟩
theorem contains_any (ms : List Int) (n : Int) (v : Value) (w : World) (hr : Rd (eInt .i64) w v ms) :
    Calls Tryd.prog 27 #[v, .int .i64 n] w fun e w' => e = .returned (.bool (decide (n ∈ ms))) ∧ w = w' := by
  have H := Lib.hid (index_any ms n v w hr)
  clear hr
  go_enter Tryd.func27, Tryd.ntmps27
  go_wp2_with fail
  refine H.out.mono ?_
  rintro e w' ⟨⟨r, rfl, h⟩, rfl⟩
  have HH := Lib.hid h
  clear h H
  go_wp2_with fail
  go_ret
  exact ⟨ret_b HH.out, rfl⟩

def MapsTo (ms : List Int) (k : Nat) : Prop := (∀ n ∈ ms.take k, 0 ≤ n ∧ n ≤ 3) ∧ (ms.take k).Nodup
theorem maps_no {ms : List Int} {k : Nat} (h : k < ms.length) (e : ¬ (0 ≤ ms[k] ∧ ms[k] ≤ 3) ∨ ms[k] ∈ ms.take k) : false = formedP ms := by
  unfold formedP
  rw [eq_comm, decide_eq_false_iff_not]
  rintro ⟨_, h1, h2⟩
  rcases e with e | e
  · exact e (h1 _ (List.getElem_mem h))
  · obtain ⟨j, hj, he⟩ := List.getElem_of_mem e
    rw [List.getElem_take] at he
    have hj2 : j < k := by simp at hj; omega
    unfold List.Nodup at h2
    rw [List.pairwise_iff_getElem] at h2
    exact h2 j k (by omega) h hj2 he
theorem maps_next {ms : List Int} {k : Nat} (M : MapsTo ms k) (h : k < ms.length) (e : 0 ≤ ms[k] ∧ ms[k] ≤ 3) (e2 : ms[k] ∉ ms.take k) : MapsTo ms (k + 1) := by
  unfold MapsTo
  rw [List.take_succ_eq_append_getElem h]
  refine ⟨fun n hn => ?_, ?_⟩
  · rcases List.mem_append.1 hn with hn | hn
    · exact M.1 n hn
    · obtain rfl : n = ms[k] := by simpa using hn
      exact e
  · rw [List.nodup_append]
    refine ⟨M.2, by simp, fun a ha b hb => ?_⟩
    obtain rfl : b = ms[k] := by simpa using hb
    exact fun e => e2 (e ▸ ha)
theorem maps_all {ms : List Int} {k : Nat} (M : MapsTo ms k) (hk : ms.length ≤ k) : decide ((ms.length : Int) ≤ 4) = formedP ms := by
  unfold MapsTo at M
  rw [List.take_of_length_le hk] at M
  unfold formedP
  rw [decide_eq_decide]
  exact ⟨fun h => ⟨by omega, M⟩, fun h => by have := h.1; omega⟩
set_option maxRecDepth 100000 in
theorem formed_any (ms : List Int) (v : Value) (w : World) (hr : Rd (eInt .i64) w v ms) :
    Calls Tryd.prog 20 #[v] w fun e w' => e = .returned (.bool (formedP ms)) ∧ w = w' := by
  have HRd := Lib.hid hr
  obtain ⟨hmx, ao, cap, rfl, hcap, hnone, hx⟩ := hr
  unfold maxLen at hmx
  have HX := Lib.hid hx
  clear hx
  go_enter Tryd.func20, Tryd.ntmps20
  go_wp2_with fail
  go_loopw [3, 4, 7] (fun _ _ t7 wr => ∃ i : Nat, i ≤ ms.length ∧ t7 = .int .i64 i ∧ Hid (MapsTo ms i) ∧ wr = w) (fun _ _ t7 _ => ms.length - (intOf t7).toNat)
  case atStart => exact ⟨0, Nat.zero_le _, rfl, ⟨by simp, by simp⟩, rfl⟩
  case round =>
    obtain ⟨i, hi, rfl, HN, rfl⟩ := hrel
    by_cases hlt : i < ms.length
    · obtain ⟨sb, off, rfl, hc⟩ := HX.out (by omega)
      have c1 := hc i _ (eInt_at .i64 ms i hlt)
      have hi0 : (0 : Int) ≤ (i : Int) := by omega
      have hi1 : (i : Int) < (ms.length : Int) := by omega
      have hi2 : (i : Int) ≤ (cap : Int) := by omega
      clear hc hnone
      have HNO := Lib.hid (fun e => maps_no (ms := ms) hlt e)
      have HNX := Lib.hid (fun e e2 => maps_next (ms := ms) HN.out hlt e e2)
      have HC := Lib.hid (contains_any (ms.take i) ms[i] _ wr (HRd.out.taken i (by omega) cap (by omega) (by simp)))
      generalize hm : ms[i] = m at *
      have HM := Lib.hid hm
      clear hm
      by_cases h0 : m < 0
      · have HF := Lib.hid (HNO.out (.inl (by omega)))
        clear HNO HNX HC
        go_wp2_with fail
        go_ret
        exact ⟨ret_b HF.out, rfl⟩
      · by_cases h4 : 4 ≤ m
        · have HF := Lib.hid (HNO.out (.inl (by omega)))
          clear HNO HNX HC
          go_wp2_with fail
          go_ret
          exact ⟨ret_b HF.out, rfl⟩
        · go_wp2_with fail
          refine HC.out.mono ?_
          rintro e w1 ⟨rfl, rfl⟩
          cases hd : decide (m ∈ ms.take i)
          · have HNE := Lib.hid (HNX.out (by omega) (of_decide_eq_false hd))
            clear HNO HNX HC hd
            go_wp2_with fail
            go_roundw
            case rel => first | exact ⟨i + 1, by omega, by go_num, HNE⟩ | exact ⟨i + 1, by omega, by go_num, HNE, by first | rfl | trivial⟩
            case measure => simp [intOf]; omega
          · have HF := Lib.hid (HNO.out (.inr (of_decide_eq_true hd)))
            clear HNO HNX HC hd
            go_wp2_with fail
            go_ret
            exact ⟨ret_b HF.out, rfl⟩
    · have HF := Lib.hid (maps_all (ms := ms) HN.out (by omega))
      go_wp2_with fail
      go_ret
      exact ⟨ret_b HF.out, rfl⟩
end Go.Proofs.YtkocfgaajghggaaDoor
