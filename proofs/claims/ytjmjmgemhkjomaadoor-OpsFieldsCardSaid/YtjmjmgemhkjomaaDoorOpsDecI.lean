/- ops: an instruction that came in by value. -/
import Derived.Test.YtjmjmgemhkjomaaDoorOpsDec
import Derived.Test.YtjmjmgemhkjomaaDoorOpsAll
namespace Go.Proofs.YtjmjmgemhkjomaaDoor
open Go.RowKit Go.WideShapes
set_option linter.unusedVariables false

theorem open_inst {H : Type} {enc : TypeId × Value → H} {w : World} {r : Reach} {base : Nat} {v : Value} {d : DataW H} {p : List MemPlace}
    (ho : Value.okWide Tryd.prog w r base 34 v) (h : DataW.Trod enc Tryd.prog w 0 (fun _ => true) true 34 v d p) : ∃ x : In, v = x.v ∧ InstD.ok (x.op, x.d, x.a, x.b, x.imm) := by
  obtain ⟨cs, rfl, _⟩ := okWide_struct Tryd.underlying34 ho
  obtain ⟨fuel, hf⟩ := h
  obtain ⟨x, hx, hv⟩ := (eInst_dec (w := w)).2 H enc fuel _ _ hf
  refine ⟨In.of x, ?_, hv⟩
  have : cs = #[.int .i64 x.1, .int .i64 x.2.1, .int .i64 x.2.2.1, .int .i64 x.2.2.2.1, .int .i64 x.2.2.2.2] := by
    apply Array.ext'
    exact hx
  rw [this]; rfl
end Go.Proofs.YtjmjmgemhkjomaaDoor
