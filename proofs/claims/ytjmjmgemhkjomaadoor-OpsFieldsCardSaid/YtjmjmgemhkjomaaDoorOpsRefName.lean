/- ops: the reference's Name. -/
import Derived.Test.YtjmjmgemhkjomaaDoorOpsNames
namespace Go.Proofs.YtjmjmgemhkjomaaDoor
open Go.RowKit
set_option linter.unusedVariables false

theorem refName_in (k : Nat) (nb fb : List UInt8) (w : World) (h23 : k < 23) (hk : (rowsOf Rows.laid_tappet_ops_forms)[k]? = some (.agg [.lit (.string nb), .lit (.string fb)])) :
    Calls Tryd.prog 11 #[.int .i64 (k : Int)] w fun e w' => e = .returned (.string ⟨nb.toArray⟩) ∧ Only (fun _ => False) w w' := by
  have HK := Lib.hid hk
  have hi0 : (0 : Int) ≤ (k : Int) := by omega
  have hi1 : (k : Int) < 23 := by omega
  clear hk
  go_enter Tryd.func11, Tryd.ntmps11
  go_wp2_with fail
  refine (names_any _).mono ?_
  rintro e w1 ⟨rfl, ho, hc⟩
  have c0 := hc k nb fb HK.out
  clear hc
  go_wp2_with fail
  go_ret
  exact ⟨rfl, ho⟩

theorem refName_out (op : Int) (w : World) (h : op < 0 ∨ 23 ≤ op) :
    Calls Tryd.prog 11 #[.int .i64 op] w fun e w' => e = .returned (.string ⟨#[]⟩) ∧ Only (fun _ => False) w w' := by
  have hd : (decide (op < 0) || decide (23 ≤ op)) = true := by simpa using h
  by_cases h0 : op < 0
  · clear h hd
    go_enter Tryd.func11, Tryd.ntmps11
    go_wp2_with fail
    refine (names_any _).mono ?_
    rintro e w1 ⟨rfl, ho, hc⟩
    clear hc
    go_wp2_with fail
    go_ret
    exact ⟨rfl, ho⟩
  · have h23 : 23 ≤ op := by omega
    clear h hd
    go_enter Tryd.func11, Tryd.ntmps11
    go_wp2_with fail
    refine (names_any _).mono ?_
    rintro e w1 ⟨rfl, ho, hc⟩
    clear hc
    go_wp2_with fail
    go_ret
    exact ⟨rfl, ho⟩
end Go.Proofs.YtjmjmgemhkjomaaDoor
