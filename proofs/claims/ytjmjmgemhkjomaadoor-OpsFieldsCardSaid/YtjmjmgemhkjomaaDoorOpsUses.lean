/- ops: uses. -/
import Derived.Test.YtjmjmgemhkjomaaDoorOpsSmall
namespace Go.Proofs.YtjmjmgemhkjomaaDoor
open Go.RowKit
set_option linter.unusedVariables false

def usesB (s : ByteArray) (c : UInt8) : Bool := s.data.toList.any fun x => x.toNat == c.toNat
def NotIn (s : ByteArray) (c : UInt8) (k : Nat) : Prop := ∀ j (h : j < s.size), j < k → (s[j].toNat == c.toNat) = false
theorem usesB_yes {s : ByteArray} {c : UInt8} {k : Nat} (h : k < s.size) (e : (s[k].toNat == c.toNat) = true) : true = usesB s c := by
  symm; unfold usesB; rw [List.any_eq_true]
  exact ⟨s[k], by rw [show s[k] = s.data.toList[k]'(by simpa using h) from rfl]; exact List.getElem_mem _, e⟩
theorem usesB_no {s : ByteArray} {c : UInt8} {k : Nat} (h : NotIn s c k) (hk : s.size ≤ k) : false = usesB s c := by
  symm; unfold usesB; rw [List.any_eq_false]
  intro x hx
  obtain ⟨j, hj, rfl⟩ := List.getElem_of_mem hx
  have hj' : j < s.size := by simpa using hj
  have := h j hj' (by omega)
  rw [show s.data.toList[j] = s[j] from rfl, this]; simp

set_option maxHeartbeats 1000000 in
theorem uses_any (nm s : ByteArray) (c : UInt8) (w : World) (hs : s.size ≤ maxLen) :
    Calls Tryd.prog 29 #[.agg #[.string nm, .string s], .int .u8 (c.toNat : Int)] w fun e w' => e = .returned (.bool (usesB s c)) ∧ Only (fun _ => False) w w' := by
  unfold maxLen at hs
  go_enter Tryd.func29, Tryd.ntmps29
  go_wp2_with fail
  go_loop [5, 9] (fun _ v => ∃ k : Nat, k ≤ s.size ∧ v = .int .i64 k ∧ NotIn s c k) (fun _ v => s.size - (intOf v).toNat)
  case atStart => exact ⟨0, by omega, rfl, fun j _ h => by omega⟩
  case round =>
    obtain ⟨k, hk, rfl, hn⟩ := hrel
    have HN := Lib.hid hn
    clear hn
    by_cases hlt : k < s.size
    · have hi0 : (0 : Int) ≤ (k : Int) := by omega
      have hi1 : (k : Int) < s.size := by omega
      cases hb : s[k].toNat == c.toNat
      · have HB := Lib.hid (show NotIn s c (k + 1) from fun j h hj => by
          by_cases hjk : j < k
          · exact HN.out j h hjk
          · obtain rfl : j = k := by omega
            exact hb)
        have hb' : ((s[k].toNat : Int) == (c.toNat : Int)) = false := by simp at hb ⊢; omega
        clear hb
        go_wp2_with fail
        go_round
        case rel => exact ⟨k + 1, by omega, by go_num, HB.out⟩
        case measure => simp [intOf]; omega
      · have HF := Lib.hid (usesB_yes hlt hb)
        have hb' : ((s[k].toNat : Int) == (c.toNat : Int)) = true := by simp at hb ⊢; omega
        clear hb
        go_wp2_with fail
        go_ret
        exact ⟨ret_b HF.out, Only.alloc _ _ _⟩
    · have HF := Lib.hid (usesB_no HN.out (by omega))
      go_wp2_with fail
      go_ret
      exact ⟨ret_b HF.out, Only.alloc _ _ _⟩
end Go.Proofs.YtjmjmgemhkjomaaDoor
