/- cmap: which functions a shard's methods are. -/
import Derived.Test.YthppleegiieneaaMA
import Derived.Laws.ByValue
namespace Go.Proofs.Ythppleegiieneaa
open Go.RowKit
set_option linter.unusedVariables false
set_option linter.unusedSimpArgs false

theorem cm_book_do (b : Nat) (op key val : Int) (w : World) : (callMethod (.iface 67 (.pointer (some ⟨b, 0, none⟩))) "Do" #[.int .i64 op, .int .u64 key, .int .u64 val]).run Try.prog w = .ok (.enter 53 #[.pointer (some ⟨b, 0, none⟩), .int .i64 op, .int .u64 key, .int .u64 val]) w := by kernel_rfl
theorem cm_book_len (b : Nat) (w : World) : (callMethod (.iface 67 (.pointer (some ⟨b, 0, none⟩))) "Len" #[]).run Try.prog w = .ok (.enter 54 #[.pointer (some ⟨b, 0, none⟩)]) w := by kernel_rfl
theorem cm_book_cap (b : Nat) (w : World) : (callMethod (.iface 67 (.pointer (some ⟨b, 0, none⟩))) "Cap" #[]).run Try.prog w = .ok (.enter 52 #[.pointer (some ⟨b, 0, none⟩)]) w := by kernel_rfl
theorem cm_book_pairs (b : Nat) (w : World) : (callMethod (.iface 67 (.pointer (some ⟨b, 0, none⟩))) "Pairs" #[]).run Try.prog w = .ok (.enter 55 #[.pointer (some ⟨b, 0, none⟩)]) w := by kernel_rfl
theorem cm_lru_do (b : Nat) (op key val : Int) (w : World) : (callMethod (.iface 70 (.pointer (some ⟨b, 0, none⟩))) "Do" #[.int .i64 op, .int .u64 key, .int .u64 val]).run Try.prog w = .ok (.enter 66 #[.pointer (some ⟨b, 0, none⟩), .int .i64 op, .int .u64 key, .int .u64 val]) w := by kernel_rfl
/-- the path into the embedded book -/
theorem cm_lru_recv (g b : Nat) (w : World) (h : w.cell? ⟨g, 0, none⟩ = some (.pointer (some ⟨b, 0, none⟩))) (name : String) (f : FuncId) (hm : ((Try.prog.info? 70).bind fun i => (i.methods.find? (·.name == name)).map fun m => (m.path.toList, m.func)) = some ([{ struct := 92, index := 0, deref := true }], some (f, true))) :
    (method (Try.prog.types.size + Made.depth) 70 (.pointer (some ⟨g, 0, none⟩)) name).run Try.prog w = .ok (f, .pointer (some ⟨b, 0, none⟩)) w := by
  obtain ⟨i, hi, hm⟩ := Option.bind_eq_some_iff.1 hm
  obtain ⟨m, hf, hm⟩ := Option.map_eq_some_iff.1 hm
  simp only [Prod.mk.injEq] at hm
  obtain ⟨hp, hfn⟩ := hm
  rw [show Try.prog.types.size + Made.depth = (Try.prog.types.size + Made.depth - 1) + 1 by kernel_rfl]
  unfold method
  simp [typeInfo, hi, hf, hp, hfn, go_sem, follow, receiverAt, Place.get, loadVar, isAgg, h, Try.underlying70, Try.underlying92, Try.underlying67]
theorem cm_lru_len (g b : Nat) (w : World) (h : w.cell? ⟨g, 0, none⟩ = some (.pointer (some ⟨b, 0, none⟩))) : (callMethod (.iface 70 (.pointer (some ⟨g, 0, none⟩))) "Len" #[]).run Try.prog w = .ok (.enter 54 #[.pointer (some ⟨b, 0, none⟩)]) w := by
  have h2 := cm_lru_recv g b w h "Len" 54 (by kernel_rfl)
  have h3 : (callFunc 54 (#[.pointer (some ⟨b, 0, none⟩)] ++ #[])).run Try.prog w = .ok (.enter 54 #[.pointer (some ⟨b, 0, none⟩)]) w := by kernel_rfl
  simp only [callMethod, Sem.run_bind, run_program, Result.andThen_ok, h2]
  exact h3
theorem cm_lru_cap (g b : Nat) (w : World) (h : w.cell? ⟨g, 0, none⟩ = some (.pointer (some ⟨b, 0, none⟩))) : (callMethod (.iface 70 (.pointer (some ⟨g, 0, none⟩))) "Cap" #[]).run Try.prog w = .ok (.enter 52 #[.pointer (some ⟨b, 0, none⟩)]) w := by
  have h2 := cm_lru_recv g b w h "Cap" 52 (by kernel_rfl)
  have h3 : (callFunc 52 (#[.pointer (some ⟨b, 0, none⟩)] ++ #[])).run Try.prog w = .ok (.enter 52 #[.pointer (some ⟨b, 0, none⟩)]) w := by kernel_rfl
  simp only [callMethod, Sem.run_bind, run_program, Result.andThen_ok, h2]
  exact h3
theorem cm_lru_pairs (g b : Nat) (w : World) (h : w.cell? ⟨g, 0, none⟩ = some (.pointer (some ⟨b, 0, none⟩))) : (callMethod (.iface 70 (.pointer (some ⟨g, 0, none⟩))) "Pairs" #[]).run Try.prog w = .ok (.enter 55 #[.pointer (some ⟨b, 0, none⟩)]) w := by
  have h2 := cm_lru_recv g b w h "Pairs" 55 (by kernel_rfl)
  have h3 : (callFunc 55 (#[.pointer (some ⟨b, 0, none⟩)] ++ #[])).run Try.prog w = .ok (.enter 55 #[.pointer (some ⟨b, 0, none⟩)]) w := by kernel_rfl
  simp only [callMethod, Sem.run_bind, run_program, Result.andThen_ok, h2]
  exact h3
theorem mk_book (x : Value) (w : World) : (Instr.makeInterface 67 x).run Try.prog w = .ok (.iface 67 x) w := run_makeInterface w 67 x (by kernel_rfl)
theorem mk_lru (x : Value) (w : World) : (Instr.makeInterface 70 x).run Try.prog w = .ok (.iface 70 x) w := run_makeInterface w 70 x (by kernel_rfl)
theorem sh_eqn (t : TypeId) (x : Value) (w : World) : (binOp .eql 28 (.iface t x) .nilIface).run Try.prog w = .ok (.bool false) w := by kernel_rfl
theorem sh_eqn0 (w : World) : (binOp .eql 28 .nilIface .nilIface).run Try.prog w = .ok (.bool true) w := by kernel_rfl
end Go.Proofs.Ythppleegiieneaa
