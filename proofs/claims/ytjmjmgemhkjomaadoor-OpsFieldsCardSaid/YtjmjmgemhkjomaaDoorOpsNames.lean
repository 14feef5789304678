/- ops: the reference's names. -/
import Derived.Test.YtjmjmgemhkjomaaDoorOpsName
namespace Go.Proofs.YtjmjmgemhkjomaaDoor
open Go.RowKit
set_option linter.unusedVariables false

def nameV : DataW Unit → Value
  | .agg [.lit (.string nb), _] => .string ⟨nb.toArray⟩
  | _ => undef
theorem names_cell (w : World) (cs : Array Value) (t : TypeId) (fr : Nat × Nat) (h : cs = ((rowsOf Rows.laid_tappet_ops_forms).map nameV).toArray) (k : Nat) (nb fb : List UInt8) (hk : (rowsOf Rows.laid_tappet_ops_forms)[k]? = some (.agg [.lit (.string nb), .lit (.string fb)])) :
    (w.alloc (.cells cs t fr)).cell? ⟨w.heap.size, k, none⟩ = some (.string ⟨nb.toArray⟩) := by
  subst h
  simp only [World.cell?, heap_alloc_new]
  simp [hk, nameV]

theorem names_any (w : World) : Calls Tryd.prog 22 #[] w fun e w' => e = .returned (.slice (some ⟨w.heap.size, 0, none⟩) 23 23) ∧ Only (fun _ => False) w w' ∧ ∀ (k : Nat) (nb fb : List UInt8), (rowsOf Rows.laid_tappet_ops_forms)[k]? = some (.agg [.lit (.string nb), .lit (.string fb)]) → w'.cell? ⟨w.heap.size, k, none⟩ = some (.string ⟨nb.toArray⟩) := by
  go_enter Tryd.func22, Tryd.ntmps22
  go_wp2_with fail
  go_ret
  refine ⟨rfl, Only.alloc _ _ _, fun k nb fb hk => ?_⟩
  exact names_cell w _ _ _ (by kernel_rfl) k nb fb hk
end Go.Proofs.YtjmjmgemhkjomaaDoor
