/- Structs in memory (printed by gen_enc.py). -/
import Derived.Test.YthppleegiieneaaMB
import Derived.Laws.StructEq
namespace Go.Proofs.Ythppleegiieneaa
open Go.RowKit
set_option linter.unusedVariables false

abbrev ItemD := Int × Int × Int × Int
abbrev eItem : Enc ItemD where
  size := 4
  pos := by decide
  cells x := [.int .i64 x.1, .int .i64 x.2.1, .int .u64 x.2.2.1, .int .u64 x.2.2.2]
  len _ := rfl
  one q := by simp [Value.oneCell']
def ItemD.v (x : ItemD) : Value := .agg #[.int .i64 x.1, .int .i64 x.2.1, .int .u64 x.2.2.1, .int .u64 x.2.2.2]
theorem eItem_slice : SliceInfo Try.prog 25 42 eItem.size 32 := SliceInfo.mk' Try.underlying25 (z := .agg #[.int .i64 0, .int .i64 0, .int .u64 0, .int .u64 0]) (by kernel_rfl) rfl
theorem eItem_neq (x y : ItemD) (w : World) : (binOp .neq 42 (.agg #[.int .i64 x.1, .int .i64 x.2.1, .int .u64 x.2.2.1, .int .u64 x.2.2.2]) (.agg #[.int .i64 y.1, .int .i64 y.2.1, .int .u64 y.2.2.1, .int .u64 y.2.2.2])).run Try.prog w = .ok (.bool (!decide (x = y))) w := by
  obtain ⟨x0, x1, x2, x3⟩ := x
  obtain ⟨y0, y1, y2, y3⟩ := y
  simp [go_sem, Try.underlying42]
  by_cases h0 : x0 = y0 <;> by_cases h1 : x1 = y1 <;> by_cases h2 : x2 = y2 <;> by_cases h3 : x3 = y3 <;> simp [h0, h1, h2, h3]
theorem eItem_eql (x y : ItemD) (w : World) : (binOp .eql 42 (.agg #[.int .i64 x.1, .int .i64 x.2.1, .int .u64 x.2.2.1, .int .u64 x.2.2.2]) (.agg #[.int .i64 y.1, .int .i64 y.2.1, .int .u64 y.2.2.1, .int .u64 y.2.2.2])).run Try.prog w = .ok (.bool (decide (x = y))) w := by
  obtain ⟨x0, x1, x2, x3⟩ := x
  obtain ⟨y0, y1, y2, y3⟩ := y
  simp [go_sem, Try.underlying42]
  by_cases h0 : x0 = y0 <;> by_cases h1 : x1 = y1 <;> by_cases h2 : x2 = y2 <;> by_cases h3 : x3 = y3 <;> simp [h0, h1, h2, h3]
abbrev DefD := Int × Int
abbrev eDef : Enc DefD where
  size := 2
  pos := by decide
  cells x := [.int .i64 x.1, .int .i64 x.2]
  len _ := rfl
  one q := by simp [Value.oneCell']
def DefD.v (x : DefD) : Value := .agg #[.int .i64 x.1, .int .i64 x.2]
theorem eDef_neq (x y : DefD) (w : World) : (binOp .neq 24 (.agg #[.int .i64 x.1, .int .i64 x.2]) (.agg #[.int .i64 y.1, .int .i64 y.2])).run Try.prog w = .ok (.bool (!decide (x = y))) w := by
  obtain ⟨x0, x1⟩ := x
  obtain ⟨y0, y1⟩ := y
  simp [go_sem, Try.underlying24]
  by_cases h0 : x0 = y0 <;> by_cases h1 : x1 = y1 <;> simp [h0, h1]
theorem eDef_eql (x y : DefD) (w : World) : (binOp .eql 24 (.agg #[.int .i64 x.1, .int .i64 x.2]) (.agg #[.int .i64 y.1, .int .i64 y.2])).run Try.prog w = .ok (.bool (decide (x = y))) w := by
  obtain ⟨x0, x1⟩ := x
  obtain ⟨y0, y1⟩ := y
  simp [go_sem, Try.underlying24]
  by_cases h0 : x0 = y0 <;> by_cases h1 : x1 = y1 <;> simp [h0, h1]
end Go.Proofs.Ythppleegiieneaa
