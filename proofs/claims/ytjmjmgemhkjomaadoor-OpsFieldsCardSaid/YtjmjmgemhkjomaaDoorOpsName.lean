/- ops: the name of an operation. -/
import Derived.Test.YtjmjmgemhkjomaaDoorOpsOf
import Derived.Test.YtjmjmgemhkjomaaDoorFoot
namespace Go.Proofs.YtjmjmgemhkjomaaDoor
open Go.RowKit
set_option linter.unusedVariables false

theorem name_in (k : Nat) (nb fb : List UInt8) (w : World) (h23 : k < 23) (hF : Forms w) (hk : (rowsOf Rows.laid_tappet_ops_forms)[k]? = some (.agg [.lit (.string nb), .lit (.string fb)])) :
    Calls Tryd.prog 10 #[.int .i64 (k : Int)] w fun e w' => e = .returned (.string ⟨nb.toArray⟩) ∧ Only (fun _ => False) w w' := by
  have hof := Lib.hid (of_in k nb fb w h23 hF hk)
  clear hF hk
  go_enter Tryd.func10, Tryd.ntmps10
  go_wp2_with fail
  refine hof.out.mono ?_
  rintro e w1 ⟨rfl, ho⟩
  go_wp2_with fail
  go_ret
  exact ⟨rfl, ho.tr (Only.alloc _ _ _)⟩

theorem name_out (op : Int) (w : World) (h : op < 0 ∨ 23 ≤ op) :
    Calls Tryd.prog 10 #[.int .i64 op] w fun e w' => e = .returned (.string ⟨#[]⟩) ∧ Only (fun _ => False) w w' := by
  have hof := Lib.hid (of_out op w h)
  clear h
  go_enter Tryd.func10, Tryd.ntmps10
  go_wp2_with fail
  refine hof.out.mono ?_
  rintro e w1 ⟨rfl, ho⟩
  go_wp2_with fail
  go_ret
  exact ⟨rfl, ho.tr (Only.alloc _ _ _)⟩
end Go.Proofs.YtjmjmgemhkjomaaDoor
