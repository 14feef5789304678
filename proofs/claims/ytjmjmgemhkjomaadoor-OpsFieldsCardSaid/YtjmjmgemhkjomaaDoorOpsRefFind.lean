/- ops: the reference's Find. -/
import Derived.Test.YtjmjmgemhkjomaaDoorOpsRefName
namespace Go.Proofs.YtjmjmgemhkjomaaDoor
open Go.RowKit
set_option linter.unusedVariables false

def nameB : DataW Unit → ByteArray
  | .agg [.lit (.string nb), _] => ⟨nb.toArray⟩
  | _ => ⟨#[]⟩
/-- the names, by number -/
def namesB : List ByteArray := (rowsOf Rows.laid_tappet_ops_forms).map nameB
theorem namesB_len : namesB.length = 23 := by decide +kernel
/-- the first of that name -/
def findR (s : ByteArray) : Int × Bool := match namesB.findIdx? (fun n => n.toList == s.toList) with
  | some i => ((i : Int), true)
  | none => (0, false)
theorem findR_at {s : ByteArray} {k : Nat} (hk : k < namesB.length) (he : (namesB[k].toList == s.toList) = true) (hn : ∀ j (h : j < namesB.length), j < k → (namesB[j].toList == s.toList) = false) : findR s = ((k : Int), true) := by
  have : namesB.findIdx? (fun n => n.toList == s.toList) = some k := List.findIdx?_eq_some_iff_getElem.2 ⟨hk, he, fun j hj => by rw [hn j (by omega) hj]; simp⟩
  unfold findR; rw [this]
theorem findR_none {s : ByteArray} (hn : ∀ j (h : j < namesB.length), (namesB[j].toList == s.toList) = false) : findR s = (0, false) := by
  have : namesB.findIdx? (fun n => n.toList == s.toList) = none := List.findIdx?_eq_none_iff.2 fun x hx => by
    obtain ⟨j, hj, rfl⟩ := List.getElem_of_mem hx
    exact hn j hj
  unfold findR; rw [this]
theorem names_all : ∀ (k : Nat) (h : k < namesB.length), ∃ nb fb : List UInt8, (rowsOf Rows.laid_tappet_ops_forms)[k]? = some (.agg [.lit (.string nb), .lit (.string fb)]) ∧ namesB[k] = ⟨nb.toArray⟩ := by
  intro k h
  have h' : k < 23 := by rw [namesB_len] at h; exact h
  match k, h' with
  | 0, _ | 1, _ | 2, _ | 3, _ | 4, _ | 5, _ | 6, _ | 7, _ | 8, _ | 9, _ | 10, _ | 11, _ | 12, _ | 13, _ | 14, _ | 15, _ | 16, _ | 17, _ | 18, _ | 19, _ | 20, _ | 21, _ | 22, _ => exact ⟨_, _, rfl, rfl⟩
  | n + 23, h' => exact absurd h' (by omega)

/-- none of the first k is of that name -/
def NotYet (s : ByteArray) (k : Nat) : Prop := ∀ j (h : j < namesB.length), j < k → (namesB[j].toList == s.toList) = false

set_option maxHeartbeats 2000000 in
theorem refFind_any (s : ByteArray) (w : World) :
    Calls Tryd.prog 9 #[.string s] w fun e w' => e = .returned (.tuple #[.int .i64 (findR s).1, .bool (findR s).2]) ∧ Only (fun _ => False) w w' := by
  go_enter Tryd.func9, Tryd.ntmps9
  go_wp2_with fail
  refine (names_any _).mono ?_
  rintro e w1 ⟨rfl, ho, hc⟩
  have HC := Lib.hid hc
  clear hc
  go_wp2_with fail
  go_loop [5] (fun v => ∃ k : Nat, k ≤ 23 ∧ v = .int .i64 k ∧ NotYet s k) (fun v => 23 - (intOf v).toNat)
  case atStart => exact ⟨0, by omega, rfl, fun j _ h => by omega⟩
  case round =>
    obtain ⟨k, hk, rfl, hn⟩ := hrel
    have HN := Lib.hid hn
    clear hn
    by_cases hlt : k < 23
    · obtain ⟨nb, fb, hk1, hk2⟩ := names_all k (by rw [namesB_len]; exact hlt)
      have c0 := HC.out k nb fb hk1
      have hi0 : (0 : Int) ≤ (k : Int) := by omega
      have hi1 : (k : Int) < 23 := by omega
      rw [← hk2] at c0
      have HL := Lib.hid (show k < namesB.length by rw [namesB_len]; exact hlt)
      clear hk1 hk2
      cases hb : (namesB[k]'HL.out).toList == s.toList
      · have HB := Lib.hid (show NotYet s (k + 1) from fun j h hj => by
          by_cases hjk : j < k
          · exact HN.out j h hjk
          · obtain rfl : j = k := by omega
            exact hb)
        generalize namesB[k]'HL.out = nm at *
        go_wp2_with fail
        go_round
        case rel => exact ⟨k + 1, by omega, by go_num, HB.out⟩
        case measure => simp [intOf]; omega
      · have HF := Lib.hid (findR_at HL.out hb HN.out)
        generalize namesB[k]'HL.out = nm at *
        go_wp2_with fail
        go_ret2
        exact ⟨by rw [HF.out]; rfl, ho⟩
    · have HF := Lib.hid (findR_none (s := s) fun j h => HN.out j h (by rw [namesB_len] at h; omega))
      obtain rfl : k = 23 := by omega
      go_wp2_with fail
      go_ret2
      exact ⟨by rw [HF.out]; rfl, ho⟩
end Go.Proofs.YtjmjmgemhkjomaaDoor
