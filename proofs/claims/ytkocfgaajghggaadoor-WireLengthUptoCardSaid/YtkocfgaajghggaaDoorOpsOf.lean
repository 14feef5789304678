/- ops: the form of an operation. -/
import Derived.Test.YtkocfgaajghggaaDoorOpsForms
import Derived.Test.YtkocfgaajghggaaDoorOnly
namespace Go.Proofs.YtkocfgaajghggaaDoor
open Go.RowKit
set_option linter.unusedVariables false

theorem Forms.below {b : Nat} {w w' : World} (h : Forms w) (hb : Below b w w') (h0 : 0 < b) : Forms w' := fun k nb fb hk =>
  ⟨(hb.cell (p := ⟨0, k * 2, none⟩) h0).trans (h k nb fb hk).1, (hb.cell (p := ⟨0, k * 2 + 1, none⟩) h0).trans (h k nb fb hk).2⟩

theorem results_cell_row_tmp {P : Program} {fn : Func} {p u : Tmp} {ty : TypeId} (h : fn.results = #[.cell p ty, .tmp u]) (tmps : Array Value) (w : World) (g : Nat) (t : TypeId) (cs : Array Value) (fr : Nat × Nat) (d : TypeDesc)
    (hp : tmps.getD p undef = .pointer (some ⟨g, 0, none⟩)) (hg : w.heap[g]? = some (.cells cs t fr))
    (hu : P.underlying ty = some d) (hd : (match d with | .struct _ | .array _ _ => true | _ => false) = true) (hi : (P.info? ty).map (·.size) = some cs.size) :
    (results fn tmps).run P w = .ok (.tuple #[.agg cs, tmps.getD u undef]) w := by
  rw [results_cell_tmp h, hp]
  simp [asAddr, run_loadVar_row w g t ty cs fr d hg hu hd hi, Result.andThen]

theorem of_in (k : Nat) (nb fb : List UInt8) (w : World) (h23 : k < 23) (hF : Forms w) (hk : (rowsOf Rows.laid_tappet_ops_forms)[k]? = some (.agg [.lit (.string nb), .lit (.string fb)])) :
    Calls Tryd.prog 48 #[.int .i64 (k : Int)] w fun e w' => e = .returned (.tuple #[.agg #[.string ⟨nb.toArray⟩, .string ⟨fb.toArray⟩], .bool true]) ∧ Only (fun _ => False) w w' := by
  obtain ⟨c0, c1⟩ := hF k nb fb hk
  have hi0 : (0 : Int) ≤ (k : Int) := by omega
  have hi1 : (k : Int) < 23 := by omega
  have hlt : 0 < w.heap.size := World.block_lt_of_cell? w _ c0
  have hne : ¬ w.heap.size = 0 := by omega
  clear hk hF
  go_enter Tryd.func48, Tryd.ntmps48
  go_wp2_with fail
  try simp only [Exit.inBlock, Exit.then]
  refine bodyPost_ret (results_cell_row_tmp rfl _ _ w.heap.size _ _ _ _ rfl (heap_alloc_new w _) Tryd.underlying83 rfl (by kernel_rfl)) rfl ?_
  exact ⟨rfl, Only.alloc _ _ _⟩

theorem of_out (op : Int) (w : World) (h : op < 0 ∨ 23 ≤ op) :
    Calls Tryd.prog 48 #[.int .i64 op] w fun e w' => e = .returned (.tuple #[.agg #[.string ⟨#[]⟩, .string ⟨#[]⟩], .bool false]) ∧ Only (fun _ => False) w w' := by
  have hd : (decide (op < 0) || decide (23 ≤ op)) = true := by simpa using h
  by_cases h0 : op < 0
  · go_enter Tryd.func48, Tryd.ntmps48
    go_wp2_with fail
    try simp only [Exit.inBlock, Exit.then]
    refine bodyPost_ret (results_cell_row_tmp rfl _ _ w.heap.size _ _ _ _ rfl (heap_alloc_new w _) Tryd.underlying83 rfl (by kernel_rfl)) rfl ?_
    exact ⟨rfl, Only.alloc _ _ _⟩
  · have h23 : 23 ≤ op := by omega
    go_enter Tryd.func48, Tryd.ntmps48
    go_wp2_with fail
    try simp only [Exit.inBlock, Exit.then]
    refine bodyPost_ret (results_cell_row_tmp rfl _ _ w.heap.size _ _ _ _ rfl (heap_alloc_new w _) Tryd.underlying83 rfl (by kernel_rfl)) rfl ?_
    exact ⟨rfl, Only.alloc _ _ _⟩
end Go.Proofs.YtkocfgaajghggaaDoor
