/- slices.DeleteFunc with the closure of drop: all numbers but one stay. -/
import Derived.Test.YtodacnpbhlkoiaaUIns3
namespace Go.Proofs.Ytodacnpbhlkoiaa
open Go.RowKit
set_option linter.unusedVariables false
set_option linter.unusedSimpArgs false

theorem eqk_any (k key : Int) (kb : Nat) (w : World) (hk : w.cell? ⟨kb, 0, none⟩ = some (.int .u64 key)) :
    Calls Try.prog 38 #[.int .u64 k, .pointer (some ⟨kb, 0, none⟩)] w fun e w' => e = .returned (.bool (k == key)) ∧ w' = w := by
  go_enter Try.func38, Try.ntmps38
  go_wp2_with fail
  go_ret
  exact ⟨rfl, rfl⟩

def NotTo (od : List Int) (key : Int) (i : Nat) : Prop := ∀ a (h : a < od.length), a < i → od[a] ≠ key

theorem idx_any (v : Value) (od : List Int) (key : Int) (kb : Nat) (w : World) (hr : Rd eU64 w v od) (hk : w.cell? ⟨kb, 0, none⟩ = some (.int .u64 key)) :
    Calls Try.prog 46 #[v, .func (.func 38) #[] #[.pointer (some ⟨kb, 0, none⟩)]] w fun e w' =>
      ((∃ p : Nat, e = .returned (.int .i64 p) ∧ NotTo od key p ∧ ∃ h : p < od.length, od[p] = key) ∨ (e = .returned (.int .i64 (-1)) ∧ NotTo od key od.length)) ∧ w' = w := by
  have HRD := Lib.hid hr
  have HK := Lib.hid (eqk_any · key kb w hk)
  obtain ⟨hm, ao, cap, rfl, _, _, _⟩ := id hr
  unfold maxLen at hm
  clear hr hk
  go_enter Try.func46, Try.ntmps46
  go_wp2_with fail
  go_loop [4, 5, 8] (fun _ _ t8 => ∃ i : Nat, i ≤ od.length ∧ t8 = .int .i64 i ∧ Hid (NotTo od key i)) (fun _ _ t8 => od.length - (intOf t8).toNat)
  case atStart => exact ⟨0, Nat.zero_le _, rfl, fun a _ h => by omega⟩
  case round =>
    obtain ⟨i, hi, rfl, HN⟩ := hrel
    by_cases hlt : i < od.length
    · obtain ⟨_, ao', cap', hao, _, _, hx⟩ := HRD.out
      obtain ⟨rfl, _, rfl⟩ : ao = ao' ∧ od.length = od.length ∧ cap = cap' := by simpa using hao
      obtain ⟨sb, off, rfl, hc⟩ := hx (by omega)
      have d0 := hc i _ (eU64_at od i hlt)
      have hi0 : (0 : Int) ≤ (i : Int) := by omega
      have hi1 : (i : Int) < (od.length : Int) := by omega
      clear hc hx hao
      by_cases hke : od[i] = key
      · have HKE := Lib.hid (show ∃ h : i < od.length, od[i] = key from ⟨hlt, hke⟩)
        have hb : (od[i] == key) = true := by simpa using hke
        generalize od[i] = p0 at *
        clear hke
        go_wp2_with (go_at_call 38; refine (HK.out _).mono ?_; rintro e w' ⟨rfl, rfl⟩)
        go_ret
        exact ⟨.inl ⟨i, rfl, HN.out, HKE.out⟩, rfl⟩
      · have HN2 := Lib.hid (show NotTo od key (i + 1) from fun a ha hlt' => by
          by_cases e : a = i
          · subst e; exact hke
          · exact HN.out a ha (by omega))
        have hb : (od[i] == key) = false := by simpa using hke
        generalize od[i] = p0 at *
        clear hke
        go_wp2_with (go_at_call 38; refine (HK.out _).mono ?_; rintro e w' ⟨rfl, rfl⟩)
        go_round
        case rel => exact ⟨i + 1, by omega, by go_num, HN2⟩
        case measure => simp [intOf]; omega
    · obtain rfl : i = od.length := by omega
      go_wp2_with fail
      go_ret
      exact ⟨.inr ⟨rfl, HN.out⟩, rfl⟩
end Go.Proofs.Ytodacnpbhlkoiaa
