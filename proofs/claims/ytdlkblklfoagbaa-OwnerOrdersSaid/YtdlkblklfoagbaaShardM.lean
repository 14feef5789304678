/- cmap: which functions a shard's methods are. -/
import Derived.Test.YtdlkblklfoagbaaMA
import Derived.Laws.ByValue
namespace Go.Proofs.Ytdlkblklfoagbaa
open Go.RowKit
set_option linter.unusedVariables false
set_option linter.unusedSimpArgs false

theorem cm_book_do (b : Nat) (op key val : Int) (w : World) : (callMethod (.iface 96 (.pointer (some ⟨b, 0, none⟩))) "Do" #[.int .i64 op, .int .u64 key, .int .u64 val]).run Try.prog w = .ok (.enter 56 #[.pointer (some ⟨b, 0, none⟩), .int .i64 op, .int .u64 key, .int .u64 val]) w := by kernel_rfl
theorem cm_book_pairs (b : Nat) (w : World) : (callMethod (.iface 96 (.pointer (some ⟨b, 0, none⟩))) "Pairs" #[]).run Try.prog w = .ok (.enter 58 #[.pointer (some ⟨b, 0, none⟩)]) w := by kernel_rfl
theorem cm_lru_do (b : Nat) (op key val : Int) (w : World) : (callMethod (.iface 99 (.pointer (some ⟨b, 0, none⟩))) "Do" #[.int .i64 op, .int .u64 key, .int .u64 val]).run Try.prog w = .ok (.enter 69 #[.pointer (some ⟨b, 0, none⟩), .int .i64 op, .int .u64 key, .int .u64 val]) w := by kernel_rfl
/-- the path into the embedded book -/
theorem cm_lru_recv (g b : Nat) (w : World) (h : w.cell? ⟨g, 0, none⟩ = some (.pointer (some ⟨b, 0, none⟩))) (name : String) (f : FuncId) (hm : ((Try.prog.info? 99).bind fun i => (i.methods.find? (·.name == name)).map fun m => (m.path.toList, m.func)) = some ([{ struct := 112, index := 0, deref := true }], some (f, true))) :
    (method (Try.prog.types.size + Made.depth) 99 (.pointer (some ⟨g, 0, none⟩)) name).run Try.prog w = .ok (f, .pointer (some ⟨b, 0, none⟩)) w := by
  obtain ⟨i, hi, hm⟩ := Option.bind_eq_some_iff.1 hm
  obtain ⟨m, hf, hm⟩ := Option.map_eq_some_iff.1 hm
  simp only [Prod.mk.injEq] at hm
  obtain ⟨hp, hfn⟩ := hm
  rw [show Try.prog.types.size + Made.depth = (Try.prog.types.size + Made.depth - 1) + 1 by kernel_rfl]
  unfold method
  simp [typeInfo, hi, hf, hp, hfn, go_sem, follow, receiverAt, Place.get, loadVar, isAgg, h, Try.underlying99, Try.underlying112, Try.underlying96]
theorem cm_lru_pairs (g b : Nat) (w : World) (h : w.cell? ⟨g, 0, none⟩ = some (.pointer (some ⟨b, 0, none⟩))) : (callMethod (.iface 99 (.pointer (some ⟨g, 0, none⟩))) "Pairs" #[]).run Try.prog w = .ok (.enter 58 #[.pointer (some ⟨b, 0, none⟩)]) w := by
  have h2 := cm_lru_recv g b w h "Pairs" 58 (by kernel_rfl)
  have h3 : (callFunc 58 (#[.pointer (some ⟨b, 0, none⟩)] ++ #[])).run Try.prog w = .ok (.enter 58 #[.pointer (some ⟨b, 0, none⟩)]) w := by kernel_rfl
  simp only [callMethod, Sem.run_bind, run_program, Result.andThen_ok, h2]
  exact h3
theorem mk_book (x : Value) (w : World) : (Instr.makeInterface 96 x).run Try.prog w = .ok (.iface 96 x) w := run_makeInterface w 96 x (by kernel_rfl)
theorem mk_lru (x : Value) (w : World) : (Instr.makeInterface 99 x).run Try.prog w = .ok (.iface 99 x) w := run_makeInterface w 99 x (by kernel_rfl)
theorem sh_eqn (t : TypeId) (x : Value) (w : World) : (binOp .eql 72 (.iface t x) .nilIface).run Try.prog w = .ok (.bool false) w := by kernel_rfl
theorem sh_eqn0 (w : World) : (binOp .eql 72 .nilIface .nilIface).run Try.prog w = .ok (.bool true) w := by kernel_rfl
end Go.Proofs.Ytdlkblklfoagbaa
