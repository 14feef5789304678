/- Structs in memory (printed by gen_enc.py). -/
import Derived.Test.YtodacnpbhlkoiaaFoot
import Derived.Laws.StructEq
namespace Go.Proofs.Ytodacnpbhlkoiaa
open Go.RowKit
set_option linter.unusedVariables false

abbrev PairD := Int × Int
abbrev ePair : Enc PairD where
  size := 2
  pos := by decide
  cells x := [.int .u64 x.1, .int .u64 x.2]
  len _ := rfl
  one q := by simp [Value.oneCell']
def PairD.v (x : PairD) : Value := .agg #[.int .u64 x.1, .int .u64 x.2]
theorem ePair_slice : SliceInfo Try.prog 43 46 ePair.size 16 := SliceInfo.mk' Try.underlying43 (z := .agg #[.int .u64 0, .int .u64 0]) (by kernel_rfl) rfl
theorem ePair_neq (x y : PairD) (w : World) : (binOp .neq 46 (.agg #[.int .u64 x.1, .int .u64 x.2]) (.agg #[.int .u64 y.1, .int .u64 y.2])).run Try.prog w = .ok (.bool (!decide (x = y))) w := by
  obtain ⟨x0, x1⟩ := x
  obtain ⟨y0, y1⟩ := y
  simp [go_sem, Try.underlying46]
  by_cases h0 : x0 = y0 <;> by_cases h1 : x1 = y1 <;> simp [h0, h1]
theorem ePair_eql (x y : PairD) (w : World) : (binOp .eql 46 (.agg #[.int .u64 x.1, .int .u64 x.2]) (.agg #[.int .u64 y.1, .int .u64 y.2])).run Try.prog w = .ok (.bool (decide (x = y))) w := by
  obtain ⟨x0, x1⟩ := x
  obtain ⟨y0, y1⟩ := y
  simp [go_sem, Try.underlying46]
  by_cases h0 : x0 = y0 <;> by_cases h1 : x1 = y1 <;> simp [h0, h1]
abbrev ResD := Int × Bool × Int × Bool × Int × Int
abbrev eRes : Enc ResD where
  size := 6
  pos := by decide
  cells x := [.int .i64 x.1, .bool x.2.1, .int .u64 x.2.2.1, .bool x.2.2.2.1, .int .u64 x.2.2.2.2.1, .int .u64 x.2.2.2.2.2]
  len _ := rfl
  one q := by simp [Value.oneCell']
def ResD.v (x : ResD) : Value := .agg #[.int .i64 x.1, .bool x.2.1, .int .u64 x.2.2.1, .bool x.2.2.2.1, .int .u64 x.2.2.2.2.1, .int .u64 x.2.2.2.2.2]
theorem eRes_neq (x y : ResD) (w : World) : (binOp .neq 35 (.agg #[.int .i64 x.1, .bool x.2.1, .int .u64 x.2.2.1, .bool x.2.2.2.1, .int .u64 x.2.2.2.2.1, .int .u64 x.2.2.2.2.2]) (.agg #[.int .i64 y.1, .bool y.2.1, .int .u64 y.2.2.1, .bool y.2.2.2.1, .int .u64 y.2.2.2.2.1, .int .u64 y.2.2.2.2.2])).run Try.prog w = .ok (.bool (!decide (x = y))) w := by
  obtain ⟨x0, x1, x2, x3, x4, x5⟩ := x
  obtain ⟨y0, y1, y2, y3, y4, y5⟩ := y
  simp [go_sem, Try.underlying35]
  by_cases h0 : x0 = y0 <;> by_cases h1 : x1 = y1 <;> by_cases h2 : x2 = y2 <;> by_cases h3 : x3 = y3 <;> by_cases h4 : x4 = y4 <;> by_cases h5 : x5 = y5 <;> simp [h0, h1, h2, h3, h4, h5]
theorem eRes_eql (x y : ResD) (w : World) : (binOp .eql 35 (.agg #[.int .i64 x.1, .bool x.2.1, .int .u64 x.2.2.1, .bool x.2.2.2.1, .int .u64 x.2.2.2.2.1, .int .u64 x.2.2.2.2.2]) (.agg #[.int .i64 y.1, .bool y.2.1, .int .u64 y.2.2.1, .bool y.2.2.2.1, .int .u64 y.2.2.2.2.1, .int .u64 y.2.2.2.2.2])).run Try.prog w = .ok (.bool (decide (x = y))) w := by
  obtain ⟨x0, x1, x2, x3, x4, x5⟩ := x
  obtain ⟨y0, y1, y2, y3, y4, y5⟩ := y
  simp [go_sem, Try.underlying35]
  by_cases h0 : x0 = y0 <;> by_cases h1 : x1 = y1 <;> by_cases h2 : x2 = y2 <;> by_cases h3 : x3 = y3 <;> by_cases h4 : x4 = y4 <;> by_cases h5 : x5 = y5 <;> simp [h0, h1, h2, h3, h4, h5]
abbrev DoD := Int × Int × Int
abbrev eDo : Enc DoD where
  size := 3
  pos := by decide
  cells x := [.int .i64 x.1, .int .u64 x.2.1, .int .u64 x.2.2]
  len _ := rfl
  one q := by simp [Value.oneCell']
def DoD.v (x : DoD) : Value := .agg #[.int .i64 x.1, .int .u64 x.2.1, .int .u64 x.2.2]
theorem eDo_slice : SliceInfo Try.prog 22 30 eDo.size 24 := SliceInfo.mk' Try.underlying22 (z := .agg #[.int .i64 0, .int .u64 0, .int .u64 0]) (by kernel_rfl) rfl
theorem eDo_neq (x y : DoD) (w : World) : (binOp .neq 30 (.agg #[.int .i64 x.1, .int .u64 x.2.1, .int .u64 x.2.2]) (.agg #[.int .i64 y.1, .int .u64 y.2.1, .int .u64 y.2.2])).run Try.prog w = .ok (.bool (!decide (x = y))) w := by
  obtain ⟨x0, x1, x2⟩ := x
  obtain ⟨y0, y1, y2⟩ := y
  simp [go_sem, Try.underlying30]
  by_cases h0 : x0 = y0 <;> by_cases h1 : x1 = y1 <;> by_cases h2 : x2 = y2 <;> simp [h0, h1, h2]
theorem eDo_eql (x y : DoD) (w : World) : (binOp .eql 30 (.agg #[.int .i64 x.1, .int .u64 x.2.1, .int .u64 x.2.2]) (.agg #[.int .i64 y.1, .int .u64 y.2.1, .int .u64 y.2.2])).run Try.prog w = .ok (.bool (decide (x = y))) w := by
  obtain ⟨x0, x1, x2⟩ := x
  obtain ⟨y0, y1, y2⟩ := y
  simp [go_sem, Try.underlying30]
  by_cases h0 : x0 = y0 <;> by_cases h1 : x1 = y1 <;> by_cases h2 : x2 = y2 <;> simp [h0, h1, h2]
end Go.Proofs.Ytodacnpbhlkoiaa
