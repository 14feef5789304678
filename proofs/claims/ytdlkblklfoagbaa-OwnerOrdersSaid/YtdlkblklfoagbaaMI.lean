/- the chapters below, merged: MI -/
import Derived.Test.YtdlkblklfoagbaaMA
namespace Go.Proofs.Ytdlkblklfoagbaa
open Go.RowKit
set_option linter.unusedVariables false
set_option linter.unusedSimpArgs false

/-- a key's shard -/
def ofS (key n : Int) : Int := if n < 1 then 0 else (key * 11400714819323198485 % 18446744073709551616 / 4294967296) % n
theorem ofS_range (key n : Int) : 0 ≤ ofS key n ∧ (ofS key n < n ∨ n < 1 ∧ ofS key n = 0) := by
  unfold ofS; split
  · omega
  · exact ⟨Int.emod_nonneg _ (by omega), .inl (Int.emod_lt_of_pos _ (by omega))⟩
theorem of_prog (a b : Int) (h : 1 ≤ b) (hb : b ≤ 9223372036854775807) : wrap64 ((IntKind.u64.wrap (a * 11400714819323198485) / 4294967296).tmod b) = ofS a b := by
  unfold ofS wrap64
  rw [if_neg (by omega), IntKind.wrap_u64, Int.tmod_eq_emod_of_nonneg (by omega)]
  have h1 := Int.emod_nonneg (a * 11400714819323198485 % 18446744073709551616 / 4294967296) (b := b) (by omega)
  have h2 := Int.emod_lt_of_pos (a * 11400714819323198485 % 18446744073709551616 / 4294967296) (b := b) (by omega)
  omega

theorem of_halves (a : Int) (ha : 0 ≤ a) (ha' : a ≤ 18446744073709551615) :
    IntKind.u64.wrap (IntKind.u64.wrap (a / 4294967296 * 2135587861 + a % 4294967296 * 2654435769) + a % 4294967296 * 2135587861 / 4294967296) % 4294967296 = a * 11400714819323198485 % 18446744073709551616 / 4294967296 := by
  simp only [IntKind.wrap_u64]
  have e1 : ∀ x f : Int, (x % 18446744073709551616 + f) % 18446744073709551616 % 4294967296 = (x + f) % 4294967296 := fun x f => by omega
  have e2 : ∀ x : Int, x % 18446744073709551616 / 4294967296 = x / 4294967296 % 4294967296 := fun x => by omega
  rw [e1, e2]
  obtain ⟨A, hA⟩ : ∃ A, A = a / 4294967296 := ⟨_, rfl⟩
  obtain ⟨B, hB⟩ : ∃ B, B = a % 4294967296 := ⟨_, rfl⟩
  rw [← hA, ← hB]
  have e3 : a * 11400714819323198485 / 4294967296 = A * 2654435769 * 4294967296 + (A * 2135587861 + B * 2654435769) + B * 2135587861 / 4294967296 := by
    have : a = 4294967296 * A + B := by omega
    rw [this]; omega
  rw [e3]; omega
theorem of_ref (a b : Int) (ha : 0 ≤ a) (ha' : a ≤ 18446744073709551615) (h : 1 ≤ b) (hb : b ≤ 9223372036854775807) :
    wrap64 (((IntKind.u64.wrap (IntKind.u64.wrap (a / 4294967296 * 2135587861 + a % 4294967296 * 2654435769) + a % 4294967296 * 2135587861 / 4294967296)).tmod 4294967296).tmod b) = ofS a b := by
  have h0 : 0 ≤ IntKind.u64.wrap (IntKind.u64.wrap (a / 4294967296 * 2135587861 + a % 4294967296 * 2654435769) + a % 4294967296 * 2135587861 / 4294967296) := by
    rw [IntKind.wrap_u64]; omega
  rw [Int.tmod_eq_emod_of_nonneg h0, of_halves a ha ha', ← of_prog a b h hb, IntKind.wrap_u64]
set_option maxHeartbeats 400000 in
theorem of_any (a b : Int) (w : World) (hb : b ≤ 9223372036854775807) :
    Calls Try.prog 24 #[.int .u64 a, .int .i64 b] w fun e w' => e = .returned (.int .i64 (ofS a b)) ∧ w = w' := by
  by_cases h : b < 1
  · go_enter Try.func24, Try.ntmps24
    go_wp2
    go_ret
    exact ⟨ret_int (by rw [ofS, if_pos h]), rfl⟩
  · have h1 : 1 ≤ b := by omega
    go_enter Try.func24, Try.ntmps24
    go_wp2
    go_ret
    exact ⟨ret_int (of_prog a b h1 hb), rfl⟩

set_option maxHeartbeats 400000 in
theorem refOf_any (a b : Int) (w : World) (ha : 0 ≤ a) (ha' : a ≤ 18446744073709551615) (hb : b ≤ 9223372036854775807) :
    Calls Try.prog 28 #[.int .u64 a, .int .i64 b] w fun e w' => e = .returned (.int .i64 (ofS a b)) ∧ w = w' := by
  by_cases h : b < 1
  · go_enter Try.func28, Try.ntmps28
    go_wp2
    go_ret
    exact ⟨ret_int (by rw [ofS, if_pos h]), rfl⟩
  · have h1 : 1 ≤ b := by omega
    go_enter Try.func28, Try.ntmps28
    go_wp2
    go_ret
    exact ⟨ret_int (of_ref a b ha ha' h1 hb), rfl⟩
end Go.Proofs.Ytdlkblklfoagbaa
