/- ops: the law OpsNames, walked. -/
import Derived.Test.YtjmjmgemhkjomaaDoorOpsAwake
namespace Go.Proofs.YtjmjmgemhkjomaaDoor
open Go.RowKit
set_option linter.unusedVariables false
set_option linter.unusedSimpArgs false

theorem both_names (op : Int) : ∃ s : ByteArray, (∀ w, Forms w → Calls Tryd.prog 10 #[.int .i64 op] w fun e w' => e = .returned (.string s) ∧ Only (fun _ => False) w w') ∧
    (∀ w, Calls Tryd.prog 11 #[.int .i64 op] w fun e w' => e = .returned (.string s) ∧ Only (fun _ => False) w w') := by
  by_cases h : 0 ≤ op ∧ op < 23
  · obtain ⟨k, rfl⟩ : ∃ k : Nat, op = (k : Int) := ⟨op.toNat, by omega⟩
    obtain ⟨nb, fb, hrow, _⟩ := row_of k (by omega)
    exact ⟨⟨nb.toArray⟩, fun w hF => name_in k nb fb w (by omega) hF hrow, fun w => refName_in k nb fb w (by omega) hrow⟩
  · exact ⟨⟨#[]⟩, fun w _ => name_out op w (by omega), fun w => refName_out op w (by omega)⟩

set_option maxHeartbeats 2000000 in
theorem opsNames_any (op : Int) (s : ByteArray) (w : World) (hop : -9223372036854775808 ≤ op ∧ op ≤ 9223372036854775807) (hsz : s.size ≤ 140737488351232) (hF : FormsB w) :
    Calls Tryd.prog 3 #[.int .i64 op, .string s] w fun e w' => e = .returned (.bool true) ∧ Below w.heap.size w w' := by
  have HF := Lib.hid hF
  obtain ⟨nm, hn1, hn2⟩ := both_names op
  have HN1 := Lib.hid hn1
  have HN2 := Lib.hid hn2
  clear hF hn1 hn2 hop hsz
  go_enter Tryd.func3, Tryd.ntmps3
  go_wp2_with fail
  refine (awake_any _ HF.out).mono ?_
  rintro e w1 ⟨rfl, ho⟩
  have HO1 := Lib.hid ho
  clear ho
  go_wp2_with fail
  refine (find_any _ _ (HF.out.only HO1.out)).mono ?_
  rintro e w2 ⟨rfl, ho⟩
  have HO2 := Lib.hid (HO1.out.tr ho)
  clear ho
  go_wp2_with fail
  refine (refFind_any _ _).mono ?_
  rintro e w3 ⟨rfl, ho⟩
  have HO3 := Lib.hid (HO2.out.tr ho)
  clear ho
  generalize (findR s).1 = j
  generalize (findR s).2 = ok
  go_wp2_with fail
  refine (HN1.out _ (HF.out.only HO3.out).forms).mono ?_
  rintro e w4 ⟨rfl, ho⟩
  have HO4 := Lib.hid (HO3.out.tr ho)
  clear ho
  go_wp2_with fail
  refine (HN2.out _).mono ?_
  rintro e w5 ⟨rfl, ho⟩
  have HO5 := Lib.hid (HO4.out.tr ho)
  clear ho
  cases ok
  all_goals
    go_wp2_with fail
    go_ret
    exact ⟨rfl, HO5.out.below (Nat.le_refl _) fun _ h => h.elim⟩
end Go.Proofs.YtjmjmgemhkjomaaDoor
