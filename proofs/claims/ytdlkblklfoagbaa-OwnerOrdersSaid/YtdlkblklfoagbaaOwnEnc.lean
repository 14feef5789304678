/- Structs in memory (printed by gen_enc.py). -/
import Derived.Test.YtdlkblklfoagbaaMB
import Derived.Laws.StructEq
namespace Go.Proofs.Ytdlkblklfoagbaa
open Go.RowKit
set_option linter.unusedVariables false

abbrev ItemD := Int × Int × Int × Int
abbrev eItem : Enc ItemD where
  size := 4
  pos := by decide
  cells x := [.int .i64 x.1, .int .i64 x.2.1, .int .u64 x.2.2.1, .int .u64 x.2.2.2]
  len _ := rfl
  one q := by simp [Value.oneCell']
def ItemD.v (x : ItemD) : Value := .agg #[.int .i64 x.1, .int .i64 x.2.1, .int .u64 x.2.2.1, .int .u64 x.2.2.2]
theorem eItem_neq (x y : ItemD) (w : World) : (binOp .neq 35 (.agg #[.int .i64 x.1, .int .i64 x.2.1, .int .u64 x.2.2.1, .int .u64 x.2.2.2]) (.agg #[.int .i64 y.1, .int .i64 y.2.1, .int .u64 y.2.2.1, .int .u64 y.2.2.2])).run Try.prog w = .ok (.bool (!decide (x = y))) w := by
  obtain ⟨x0, x1, x2, x3⟩ := x
  obtain ⟨y0, y1, y2, y3⟩ := y
  simp [go_sem, Try.underlying35]
  by_cases h0 : x0 = y0 <;> by_cases h1 : x1 = y1 <;> by_cases h2 : x2 = y2 <;> by_cases h3 : x3 = y3 <;> simp [h0, h1, h2, h3]
theorem eItem_eql (x y : ItemD) (w : World) : (binOp .eql 35 (.agg #[.int .i64 x.1, .int .i64 x.2.1, .int .u64 x.2.2.1, .int .u64 x.2.2.2]) (.agg #[.int .i64 y.1, .int .i64 y.2.1, .int .u64 y.2.2.1, .int .u64 y.2.2.2])).run Try.prog w = .ok (.bool (decide (x = y))) w := by
  obtain ⟨x0, x1, x2, x3⟩ := x
  obtain ⟨y0, y1, y2, y3⟩ := y
  simp [go_sem, Try.underlying35]
  by_cases h0 : x0 = y0 <;> by_cases h1 : x1 = y1 <;> by_cases h2 : x2 = y2 <;> by_cases h3 : x3 = y3 <;> simp [h0, h1, h2, h3]
abbrev DefD := Int × Int
abbrev eDef : Enc DefD where
  size := 2
  pos := by decide
  cells x := [.int .i64 x.1, .int .i64 x.2]
  len _ := rfl
  one q := by simp [Value.oneCell']
def DefD.v (x : DefD) : Value := .agg #[.int .i64 x.1, .int .i64 x.2]
theorem eDef_slice : SliceInfo Try.prog 22 77 eDef.size 16 := SliceInfo.mk' Try.underlying22 (z := .agg #[.int .i64 0, .int .i64 0]) (by kernel_rfl) rfl
theorem eDef_neq (x y : DefD) (w : World) : (binOp .neq 77 (.agg #[.int .i64 x.1, .int .i64 x.2]) (.agg #[.int .i64 y.1, .int .i64 y.2])).run Try.prog w = .ok (.bool (!decide (x = y))) w := by
  obtain ⟨x0, x1⟩ := x
  obtain ⟨y0, y1⟩ := y
  simp [go_sem, Try.underlying77]
  by_cases h0 : x0 = y0 <;> by_cases h1 : x1 = y1 <;> simp [h0, h1]
theorem eDef_eql (x y : DefD) (w : World) : (binOp .eql 77 (.agg #[.int .i64 x.1, .int .i64 x.2]) (.agg #[.int .i64 y.1, .int .i64 y.2])).run Try.prog w = .ok (.bool (decide (x = y))) w := by
  obtain ⟨x0, x1⟩ := x
  obtain ⟨y0, y1⟩ := y
  simp [go_sem, Try.underlying77]
  by_cases h0 : x0 = y0 <;> by_cases h1 : x1 = y1 <;> simp [h0, h1]
abbrev ReqD := Int × Int × Bool × Int × Int × Int × Int
abbrev eReq : Enc ReqD where
  size := 7
  pos := by decide
  cells x := [.int .i64 x.1, .int .i64 x.2.1, .bool x.2.2.1, .int .i64 x.2.2.2.1, .int .i64 x.2.2.2.2.1, .int .u64 x.2.2.2.2.2.1, .int .u64 x.2.2.2.2.2.2]
  len _ := rfl
  one q := by simp [Value.oneCell']
def ReqD.v (x : ReqD) : Value := .agg #[.int .i64 x.1, .int .i64 x.2.1, .bool x.2.2.1, .int .i64 x.2.2.2.1, .int .i64 x.2.2.2.2.1, .int .u64 x.2.2.2.2.2.1, .int .u64 x.2.2.2.2.2.2]
theorem eReq_slice : SliceInfo Try.prog 25 37 eReq.size 56 := SliceInfo.mk' Try.underlying25 (z := .agg #[.int .i64 0, .int .i64 0, .bool false, .int .i64 0, .int .i64 0, .int .u64 0, .int .u64 0]) (by kernel_rfl) rfl
theorem eReq_neq (x y : ReqD) (w : World) : (binOp .neq 37 (.agg #[.int .i64 x.1, .int .i64 x.2.1, .bool x.2.2.1, .int .i64 x.2.2.2.1, .int .i64 x.2.2.2.2.1, .int .u64 x.2.2.2.2.2.1, .int .u64 x.2.2.2.2.2.2]) (.agg #[.int .i64 y.1, .int .i64 y.2.1, .bool y.2.2.1, .int .i64 y.2.2.2.1, .int .i64 y.2.2.2.2.1, .int .u64 y.2.2.2.2.2.1, .int .u64 y.2.2.2.2.2.2])).run Try.prog w = .ok (.bool (!decide (x = y))) w := by
  obtain ⟨x0, x1, x2, x3, x4, x5, x6⟩ := x
  obtain ⟨y0, y1, y2, y3, y4, y5, y6⟩ := y
  simp [go_sem, Try.underlying37, Try.underlying35]
  by_cases h0 : x0 = y0 <;> by_cases h1 : x1 = y1 <;> by_cases h2 : x2 = y2 <;> by_cases h3 : x3 = y3 <;> by_cases h4 : x4 = y4 <;> by_cases h5 : x5 = y5 <;> by_cases h6 : x6 = y6 <;> simp [h0, h1, h2, h3, h4, h5, h6]
theorem eReq_eql (x y : ReqD) (w : World) : (binOp .eql 37 (.agg #[.int .i64 x.1, .int .i64 x.2.1, .bool x.2.2.1, .int .i64 x.2.2.2.1, .int .i64 x.2.2.2.2.1, .int .u64 x.2.2.2.2.2.1, .int .u64 x.2.2.2.2.2.2]) (.agg #[.int .i64 y.1, .int .i64 y.2.1, .bool y.2.2.1, .int .i64 y.2.2.2.1, .int .i64 y.2.2.2.2.1, .int .u64 y.2.2.2.2.2.1, .int .u64 y.2.2.2.2.2.2])).run Try.prog w = .ok (.bool (decide (x = y))) w := by
  obtain ⟨x0, x1, x2, x3, x4, x5, x6⟩ := x
  obtain ⟨y0, y1, y2, y3, y4, y5, y6⟩ := y
  simp [go_sem, Try.underlying37, Try.underlying35]
  by_cases h0 : x0 = y0 <;> by_cases h1 : x1 = y1 <;> by_cases h2 : x2 = y2 <;> by_cases h3 : x3 = y3 <;> by_cases h4 : x4 = y4 <;> by_cases h5 : x5 = y5 <;> by_cases h6 : x6 = y6 <;> simp [h0, h1, h2, h3, h4, h5, h6]
end Go.Proofs.Ytdlkblklfoagbaa
