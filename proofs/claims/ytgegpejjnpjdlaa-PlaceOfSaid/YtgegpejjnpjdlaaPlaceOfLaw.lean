/- The law PlaceOf: its walk. -/
import Derived.Test.YtgegpejjnpjdlaaPlaceAwake
namespace Go.Proofs.Ytgegpejjnpjdlaa
open Go.RowKit
set_option linter.unusedVariables false

set_option maxHeartbeats 1000000 in
theorem placeOf_any (k n : Int) (w : World) (hk : 0 ≤ k ∧ k ≤ 18446744073709551615) (hn : -9223372036854775808 ≤ n ∧ n ≤ 9223372036854775807) :
    Calls Try.prog 3 #[.int .u64 k, .int .i64 n] w fun e w' => e = .returned (.bool true) ∧ Below w.heap.size w w' := by
  obtain ⟨hk0, hk1⟩ := hk
  obtain ⟨hn0, hn⟩ := hn
  have hr := ofS_range k n
  have hself : ∀ s : Int, (ofS k s != ofS k s) = false := fun s => by simp
  have hself2 : ∀ s : Int, (ofS k s == ofS k s) = true := fun s => by simp
  go_enter Try.func3, Try.ntmps3
  go_wp2_with (go_at_call 7; refine (awake_any _).mono ?_; rintro e w1 ⟨rfl, hb⟩)
  go_loop [5] (fun i => ∃ s : Int, -1 ≤ s ∧ s ≤ 9 ∧ i = .int .i64 s) (fun i => (9 - intOf i).toNat)
  case atStart => exact ⟨-1, by omega, by omega, rfl⟩
  case round =>
    obtain ⟨s, h0, h1, rfl⟩ := hrel
    by_cases hlt : s < 9
    · go_wp2_with (first | (go_at_call 8; refine (of_any _ _ _ (by omega)).mono ?_; rintro e w' ⟨rfl, rfl⟩) | (go_at_call 9; refine (refOf_any _ _ _ hk0 hk1 (by omega)).mono ?_; rintro e w' ⟨rfl, rfl⟩))
      go_round
      case rel => exact ⟨s + 1, by omega, by omega, by go_num⟩
      case measure => simp [intOf]; omega
    · go_wp2_with (first | (go_at_call 8; refine (of_any _ _ _ (by omega)).mono ?_; rintro e w' ⟨rfl, rfl⟩) | (go_at_call 9; refine (refOf_any _ _ _ hk0 hk1 (by omega)).mono ?_; rintro e w' ⟨rfl, rfl⟩))
      · go_ret
        exact ⟨ret_bool (by simp; omega), hb⟩
      · go_ret
        exact ⟨rfl, hb⟩
end Go.Proofs.Ytgegpejjnpjdlaa
