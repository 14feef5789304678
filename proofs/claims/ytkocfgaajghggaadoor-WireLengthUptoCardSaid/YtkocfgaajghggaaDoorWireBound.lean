/- wire: the document's bound and next. (printed by wirebound.py) -/
import Derived.Test.YtkocfgaajghggaaDoorWireDec
namespace Go.Proofs.YtkocfgaajghggaaDoor
open Go.RowKit
set_option linter.unusedVariables false
set_option linter.unusedSimpArgs false

def boundP (s n : Int) (ms : List Int) : Int :=
  if (s = 3 ∧ 4 < n) ∨ (s = 5 ∧ 64 < n) then 11
  else if (s = 4 ∧ 3 < n) ∨ (s = 5 ∧ n = 0) ∨ (s = 6 ∧ 22 < n) ∨ ((7 ≤ s ∧ s ≤ 9) ∧ 63 < n) then 12
  else if s = 4 ∧ n ∈ ms then 12 else 0
def nextP (s a c : Int) : Int := if s ≤ 4 ∧ 0 < a then 4 else if s ≤ 4 then 5 else if s = 10 ∧ 0 < c then 6 else s + 1
set_option maxRecDepth 100000 in
set_option maxHeartbeats 2000000 in
theorem bound_3 (n : Int) (ms : List Int) (v : Value) (w : World) (hn : 0 ≤ n ∧ n ≤ 18446744073709551615) (hr : Rd (eInt .i64) w v ms) :
    Calls Tryd.prog 31 #[.int .i64 3, .int .u64 n, v] w fun e w' => e = .returned (.int .i64 (boundP 3 n ms)) ∧ w = w' := by
  obtain ⟨_, ao, cap, rfl, _, _, _⟩ := hr
  by_cases h : 4 < n
  · have hb : boundP 3 n ms = 11 := by unfold boundP; simp; omega
    rw [hb]
    go_enter Tryd.func31, Tryd.ntmps31
    go_wp2_with fail
    go_ret
    exact ⟨rfl, rfl⟩
  · have hb : boundP 3 n ms = 0 := by unfold boundP; simp; omega
    rw [hb]
    go_enter Tryd.func31, Tryd.ntmps31
    cases ms with
    | nil =>
      go_wp2_with fail
      go_loopw [7] (fun t7 wr => t7 = .int .i64 0 ∧ wr = w) (fun t7 _ => 0)
      case atStart => exact ⟨rfl, rfl⟩
      case round =>
        obtain ⟨rfl, rfl⟩ := hrel
        go_wp2_with fail
        go_ret
        exact ⟨rfl, rfl⟩
    | cons m r =>
      have hl1 : (0 : Int) < ((m :: r).length : Int) := by simp only [List.length_cons]; omega
      go_wp2_with fail
      go_loopw [7] (fun t7 wr => t7 = .int .i64 0 ∧ wr = w) (fun t7 _ => 0)
      case atStart => exact ⟨rfl, rfl⟩
      case round =>
        obtain ⟨rfl, rfl⟩ := hrel
        go_wp2_with fail
        go_ret
        exact ⟨rfl, rfl⟩
set_option maxRecDepth 100000 in
set_option maxHeartbeats 2000000 in
theorem bound_6 (n : Int) (ms : List Int) (v : Value) (w : World) (hn : 0 ≤ n ∧ n ≤ 18446744073709551615) (hr : Rd (eInt .i64) w v ms) :
    Calls Tryd.prog 31 #[.int .i64 6, .int .u64 n, v] w fun e w' => e = .returned (.int .i64 (boundP 6 n ms)) ∧ w = w' := by
  obtain ⟨_, ao, cap, rfl, _, _, _⟩ := hr
  by_cases h : 22 < n
  · have hb : boundP 6 n ms = 12 := by unfold boundP; simp; omega
    rw [hb]
    go_enter Tryd.func31, Tryd.ntmps31
    go_wp2_with fail
    go_ret
    exact ⟨rfl, rfl⟩
  · have hb : boundP 6 n ms = 0 := by unfold boundP; simp; omega
    rw [hb]
    go_enter Tryd.func31, Tryd.ntmps31
    cases ms with
    | nil =>
      go_wp2_with fail
      go_loopw [7] (fun t7 wr => t7 = .int .i64 0 ∧ wr = w) (fun t7 _ => 0)
      case atStart => exact ⟨rfl, rfl⟩
      case round =>
        obtain ⟨rfl, rfl⟩ := hrel
        go_wp2_with fail
        go_ret
        exact ⟨rfl, rfl⟩
    | cons m r =>
      have hl1 : (0 : Int) < ((m :: r).length : Int) := by simp only [List.length_cons]; omega
      go_wp2_with fail
      go_loopw [7] (fun t7 wr => t7 = .int .i64 0 ∧ wr = w) (fun t7 _ => 0)
      case atStart => exact ⟨rfl, rfl⟩
      case round =>
        obtain ⟨rfl, rfl⟩ := hrel
        go_wp2_with fail
        go_ret
        exact ⟨rfl, rfl⟩
set_option maxRecDepth 100000 in
set_option maxHeartbeats 2000000 in
theorem bound_7 (n : Int) (ms : List Int) (v : Value) (w : World) (hn : 0 ≤ n ∧ n ≤ 18446744073709551615) (hr : Rd (eInt .i64) w v ms) :
    Calls Tryd.prog 31 #[.int .i64 7, .int .u64 n, v] w fun e w' => e = .returned (.int .i64 (boundP 7 n ms)) ∧ w = w' := by
  obtain ⟨_, ao, cap, rfl, _, _, _⟩ := hr
  by_cases h : 63 < n
  · have hb : boundP 7 n ms = 12 := by unfold boundP; simp; omega
    rw [hb]
    go_enter Tryd.func31, Tryd.ntmps31
    go_wp2_with fail
    go_ret
    exact ⟨rfl, rfl⟩
  · have hb : boundP 7 n ms = 0 := by unfold boundP; simp; omega
    rw [hb]
    go_enter Tryd.func31, Tryd.ntmps31
    cases ms with
    | nil =>
      go_wp2_with fail
      go_loopw [7] (fun t7 wr => t7 = .int .i64 0 ∧ wr = w) (fun t7 _ => 0)
      case atStart => exact ⟨rfl, rfl⟩
      case round =>
        obtain ⟨rfl, rfl⟩ := hrel
        go_wp2_with fail
        go_ret
        exact ⟨rfl, rfl⟩
    | cons m r =>
      have hl1 : (0 : Int) < ((m :: r).length : Int) := by simp only [List.length_cons]; omega
      go_wp2_with fail
      go_loopw [7] (fun t7 wr => t7 = .int .i64 0 ∧ wr = w) (fun t7 _ => 0)
      case atStart => exact ⟨rfl, rfl⟩
      case round =>
        obtain ⟨rfl, rfl⟩ := hrel
        go_wp2_with fail
        go_ret
        exact ⟨rfl, rfl⟩
set_option maxRecDepth 100000 in
set_option maxHeartbeats 2000000 in
theorem bound_8 (n : Int) (ms : List Int) (v : Value) (w : World) (hn : 0 ≤ n ∧ n ≤ 18446744073709551615) (hr : Rd (eInt .i64) w v ms) :
    Calls Tryd.prog 31 #[.int .i64 8, .int .u64 n, v] w fun e w' => e = .returned (.int .i64 (boundP 8 n ms)) ∧ w = w' := by
  obtain ⟨_, ao, cap, rfl, _, _, _⟩ := hr
  by_cases h : 63 < n
  · have hb : boundP 8 n ms = 12 := by unfold boundP; simp; omega
    rw [hb]
    go_enter Tryd.func31, Tryd.ntmps31
    go_wp2_with fail
    go_ret
    exact ⟨rfl, rfl⟩
  · have hb : boundP 8 n ms = 0 := by unfold boundP; simp; omega
    rw [hb]
    go_enter Tryd.func31, Tryd.ntmps31
    cases ms with
    | nil =>
      go_wp2_with fail
      go_loopw [7] (fun t7 wr => t7 = .int .i64 0 ∧ wr = w) (fun t7 _ => 0)
      case atStart => exact ⟨rfl, rfl⟩
      case round =>
        obtain ⟨rfl, rfl⟩ := hrel
        go_wp2_with fail
        go_ret
        exact ⟨rfl, rfl⟩
    | cons m r =>
      have hl1 : (0 : Int) < ((m :: r).length : Int) := by simp only [List.length_cons]; omega
      go_wp2_with fail
      go_loopw [7] (fun t7 wr => t7 = .int .i64 0 ∧ wr = w) (fun t7 _ => 0)
      case atStart => exact ⟨rfl, rfl⟩
      case round =>
        obtain ⟨rfl, rfl⟩ := hrel
        go_wp2_with fail
        go_ret
        exact ⟨rfl, rfl⟩
set_option maxRecDepth 100000 in
set_option maxHeartbeats 2000000 in
theorem bound_9 (n : Int) (ms : List Int) (v : Value) (w : World) (hn : 0 ≤ n ∧ n ≤ 18446744073709551615) (hr : Rd (eInt .i64) w v ms) :
    Calls Tryd.prog 31 #[.int .i64 9, .int .u64 n, v] w fun e w' => e = .returned (.int .i64 (boundP 9 n ms)) ∧ w = w' := by
  obtain ⟨_, ao, cap, rfl, _, _, _⟩ := hr
  by_cases h : 63 < n
  · have hb : boundP 9 n ms = 12 := by unfold boundP; simp; omega
    rw [hb]
    go_enter Tryd.func31, Tryd.ntmps31
    go_wp2_with fail
    go_ret
    exact ⟨rfl, rfl⟩
  · have hb : boundP 9 n ms = 0 := by unfold boundP; simp; omega
    rw [hb]
    go_enter Tryd.func31, Tryd.ntmps31
    cases ms with
    | nil =>
      go_wp2_with fail
      go_loopw [7] (fun t7 wr => t7 = .int .i64 0 ∧ wr = w) (fun t7 _ => 0)
      case atStart => exact ⟨rfl, rfl⟩
      case round =>
        obtain ⟨rfl, rfl⟩ := hrel
        go_wp2_with fail
        go_ret
        exact ⟨rfl, rfl⟩
    | cons m r =>
      have hl1 : (0 : Int) < ((m :: r).length : Int) := by simp only [List.length_cons]; omega
      go_wp2_with fail
      go_loopw [7] (fun t7 wr => t7 = .int .i64 0 ∧ wr = w) (fun t7 _ => 0)
      case atStart => exact ⟨rfl, rfl⟩
      case round =>
        obtain ⟨rfl, rfl⟩ := hrel
        go_wp2_with fail
        go_ret
        exact ⟨rfl, rfl⟩
set_option maxRecDepth 100000 in
set_option maxHeartbeats 2000000 in
theorem bound_10 (n : Int) (ms : List Int) (v : Value) (w : World) (hn : 0 ≤ n ∧ n ≤ 18446744073709551615) (hr : Rd (eInt .i64) w v ms) :
    Calls Tryd.prog 31 #[.int .i64 10, .int .u64 n, v] w fun e w' => e = .returned (.int .i64 (boundP 10 n ms)) ∧ w = w' := by
  obtain ⟨_, ao, cap, rfl, _, _, _⟩ := hr
  have hb : boundP 10 n ms = 0 := by unfold boundP; simp
  rw [hb]
  go_enter Tryd.func31, Tryd.ntmps31
  cases ms with
  | nil =>
    go_wp2_with fail
    go_loopw [7] (fun t7 wr => t7 = .int .i64 0 ∧ wr = w) (fun t7 _ => 0)
    case atStart => exact ⟨rfl, rfl⟩
    case round =>
      obtain ⟨rfl, rfl⟩ := hrel
      go_wp2_with fail
      go_ret
      exact ⟨rfl, rfl⟩
  | cons m r =>
    have hl1 : (0 : Int) < ((m :: r).length : Int) := by simp only [List.length_cons]; omega
    go_wp2_with fail
    go_loopw [7] (fun t7 wr => t7 = .int .i64 0 ∧ wr = w) (fun t7 _ => 0)
    case atStart => exact ⟨rfl, rfl⟩
    case round =>
      obtain ⟨rfl, rfl⟩ := hrel
      go_wp2_with fail
      go_ret
      exact ⟨rfl, rfl⟩
set_option maxRecDepth 100000 in
set_option maxHeartbeats 2000000 in
theorem bound_5 (n : Int) (ms : List Int) (v : Value) (w : World) (hn : 0 ≤ n ∧ n ≤ 18446744073709551615) (hr : Rd (eInt .i64) w v ms) :
    Calls Tryd.prog 31 #[.int .i64 5, .int .u64 n, v] w fun e w' => e = .returned (.int .i64 (boundP 5 n ms)) ∧ w = w' := by
  obtain ⟨_, ao, cap, rfl, _, _, _⟩ := hr
  by_cases h : 64 < n
  · have hb : boundP 5 n ms = 11 := by unfold boundP; simp; omega
    rw [hb]
    go_enter Tryd.func31, Tryd.ntmps31
    go_wp2_with fail
    go_ret
    exact ⟨rfl, rfl⟩
  · by_cases h0 : n = 0
    · subst h0
      have hb : boundP 5 0 ms = 12 := by unfold boundP; simp
      rw [hb]
      go_enter Tryd.func31, Tryd.ntmps31
      go_wp2_with fail
      go_ret
      exact ⟨rfl, rfl⟩
    · have hb : boundP 5 n ms = 0 := by unfold boundP; simp; omega
      have hq : (n == 0) = false := by rw [beq_eq_false_iff_ne]; exact h0
      rw [hb]
      go_enter Tryd.func31, Tryd.ntmps31
      cases ms with
      | nil =>
        go_wp2_with fail
        go_loopw [7] (fun t7 wr => t7 = .int .i64 0 ∧ wr = w) (fun t7 _ => 0)
        case atStart => exact ⟨rfl, rfl⟩
        case round =>
          obtain ⟨rfl, rfl⟩ := hrel
          go_wp2_with fail
          go_ret
          exact ⟨rfl, rfl⟩
      | cons m r =>
        have hl1 : (0 : Int) < ((m :: r).length : Int) := by simp only [List.length_cons]; omega
        go_wp2_with fail
        go_loopw [7] (fun t7 wr => t7 = .int .i64 0 ∧ wr = w) (fun t7 _ => 0)
        case atStart => exact ⟨rfl, rfl⟩
        case round =>
          obtain ⟨rfl, rfl⟩ := hrel
          go_wp2_with fail
          go_ret
          exact ⟨rfl, rfl⟩
set_option maxRecDepth 100000 in
set_option maxHeartbeats 2000000 in
theorem bound_4 (n : Int) (ms : List Int) (v : Value) (w : World) (hn : 0 ≤ n ∧ n ≤ 18446744073709551615) (hr : Rd (eInt .i64) w v ms) :
    Calls Tryd.prog 31 #[.int .i64 4, .int .u64 n, v] w fun e w' => e = .returned (.int .i64 (boundP 4 n ms)) ∧ w = w' := by
  obtain ⟨hmx, ao, cap, rfl, _, _, hx⟩ := hr
  unfold maxLen at hmx
  have HX := Lib.hid hx
  clear hx
  by_cases h : 3 < n
  · have hb : boundP 4 n ms = 12 := by unfold boundP; simp; omega
    rw [hb]
    go_enter Tryd.func31, Tryd.ntmps31
    go_wp2_with fail
    go_ret
    exact ⟨rfl, rfl⟩
  · have hY := Lib.hid (fun (h : n ∈ ms) => show boundP 4 n ms = 12 by unfold boundP; rw [if_neg (by omega), if_neg (by omega), if_pos ⟨rfl, h⟩])
    have hN := Lib.hid (fun (h2 : n ∉ ms) => show boundP 4 n ms = 0 by unfold boundP; rw [if_neg (by omega), if_neg (by omega), if_neg (fun h => h2 h.2)])
    have hw : IntKind.i64.wrap n = n := by rw [IntKind.wrap_i64]; omega
    go_enter Tryd.func31, Tryd.ntmps31
    go_wp2_with fail
    go_loopw [7] (fun t7 wr => ∃ i : Nat, i ≤ ms.length ∧ t7 = .int .i64 i ∧ Hid (NoneOf ms n i) ∧ wr = w) (fun t7 _ => ms.length - (intOf t7).toNat)
    case atStart => exact ⟨0, Nat.zero_le _, rfl, fun a _ h => by omega, rfl⟩
    case round =>
      obtain ⟨i, hi, rfl, HN, rfl⟩ := hrel
      by_cases hlt : i < ms.length
      · obtain ⟨sb, off, rfl, hc⟩ := HX.out (by omega)
        have c1 := hc i _ (eInt_at .i64 ms i hlt)
        have hi0 : (0 : Int) ≤ (i : Int) := by omega
        have hi1 : (i : Int) < (ms.length : Int) := by omega
        clear hc
        by_cases hk : ms[i] = n
        · have HP := Lib.hid (hY.out (hk ▸ List.getElem_mem hlt))
          rw [hk] at c1
          clear hk
          go_wp2_with fail
          go_ret
          rw [HP.out]
          exact ⟨rfl, rfl⟩
        · have HN2 := Lib.hid (show NoneOf ms n (i + 1) from fun a ha hlt' => by
            by_cases e : a = i
            · subst e; exact hk
            · exact HN.out a ha (by omega))
          have hq : (ms[i] == n) = false := by rw [beq_eq_false_iff_ne]; exact hk
          generalize ms[i] = p0 at *
          go_wp2_with fail
          go_roundw
          case rel => first | exact ⟨i + 1, by omega, by go_num, HN2⟩ | exact ⟨i + 1, by omega, by go_num, HN2, by first | rfl | trivial⟩
          case measure => simp [intOf]; omega
      · have HP := Lib.hid (hN.out fun hm => by
          obtain ⟨j, hj, he⟩ := List.getElem_of_mem hm
          exact HN.out j hj (by omega) he)
        go_wp2_with fail
        go_ret
        rw [HP.out]
        exact ⟨rfl, rfl⟩
theorem bound_any (s n : Int) (ms : List Int) (v : Value) (w : World) (hs : 3 ≤ s ∧ s ≤ 10) (hn : 0 ≤ n ∧ n ≤ 18446744073709551615) (hr : Rd (eInt .i64) w v ms) :
    Calls Tryd.prog 31 #[.int .i64 s, .int .u64 n, v] w fun e w' => e = .returned (.int .i64 (boundP s n ms)) ∧ w = w' := by
  obtain rfl | rfl | rfl | rfl | rfl | rfl | rfl | rfl : s = 3 ∨ s = 4 ∨ s = 5 ∨ s = 6 ∨ s = 7 ∨ s = 8 ∨ s = 9 ∨ s = 10 := by omega
  · exact bound_3 n ms v w hn hr
  · exact bound_4 n ms v w hn hr
  · exact bound_5 n ms v w hn hr
  · exact bound_6 n ms v w hn hr
  · exact bound_7 n ms v w hn hr
  · exact bound_8 n ms v w hn hr
  · exact bound_9 n ms v w hn hr
  · exact bound_10 n ms v w hn hr
set_option maxHeartbeats 2000000 in
theorem next_any (s a c : Int) (w : World) (hs : 0 ≤ s ∧ s ≤ 100) :
    Calls Tryd.prog 34 #[.int .i64 s, .int .i64 a, .int .i64 c] w fun e w' => e = .returned (.int .i64 (nextP s a c)) ∧ w = w' := by
  by_cases h4 : s ≤ 4
  · by_cases ha : 0 < a
    · have hb : nextP s a c = 4 := by unfold nextP; rw [if_pos ⟨h4, ha⟩]
      rw [hb]
      go_enter Tryd.func34, Tryd.ntmps34
      go_wp2_with fail
      go_ret
      exact ⟨rfl, rfl⟩
    · have hb : nextP s a c = 5 := by unfold nextP; rw [if_neg (by omega), if_pos h4]
      rw [hb]
      go_enter Tryd.func34, Tryd.ntmps34
      go_wp2_with fail
      go_ret
      exact ⟨rfl, rfl⟩
  · by_cases h10 : s = 10
    · subst h10
      by_cases hc : 0 < c
      · have hb : nextP 10 a c = 6 := by unfold nextP; rw [if_neg (by omega), if_neg (by omega), if_pos ⟨rfl, hc⟩]
        rw [hb]
        go_enter Tryd.func34, Tryd.ntmps34
        go_wp2_with fail
        go_ret
        exact ⟨rfl, rfl⟩
      · have hb : nextP 10 a c = 11 := by unfold nextP; rw [if_neg (by omega), if_neg (by omega), if_neg (by omega)]; rfl
        rw [hb]
        go_enter Tryd.func34, Tryd.ntmps34
        go_wp2_with fail
        go_ret
        exact ⟨rfl, rfl⟩
    · have hb : nextP s a c = s + 1 := by unfold nextP; rw [if_neg (by omega), if_neg (by omega), if_neg (by omega)]
      have hq : (s == 10) = false := by rw [beq_eq_false_iff_ne]; exact h10
      have hw : IntKind.i64.wrap (s + 1) = s + 1 := by rw [IntKind.wrap_i64]; omega
      rw [hb]
      go_enter Tryd.func34, Tryd.ntmps34
      go_wp2_with fail
      go_ret
      exact ⟨rfl, rfl⟩
end Go.Proofs.YtkocfgaajghggaaDoor
