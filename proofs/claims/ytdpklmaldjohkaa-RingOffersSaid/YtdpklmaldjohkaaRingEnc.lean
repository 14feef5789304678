/- Structs in memory (printed by gen_enc.py). -/
import Derived.Test.YtdpklmaldjohkaaFoot
import Derived.Laws.StructEq
namespace Go.Proofs.Ytdpklmaldjohkaa
open Go.RowKit
set_option linter.unusedVariables false

abbrev Qd := Int × Int × Int
abbrev eQ : Enc Qd where
  size := 3
  pos := by decide
  cells x := [.int .i64 x.1, .int .u64 x.2.1, .int .u64 x.2.2]
  len _ := rfl
  one q := by simp [Value.oneCell']
def Qd.v (x : Qd) : Value := .agg #[.int .i64 x.1, .int .u64 x.2.1, .int .u64 x.2.2]
theorem eQ_slice : SliceInfo Try.prog 32 39 eQ.size 24 := SliceInfo.mk' Try.underlying32 (z := .agg #[.int .i64 0, .int .u64 0, .int .u64 0]) (by kernel_rfl) rfl
theorem eQ_neq (x y : Qd) (w : World) : (binOp .neq 39 (.agg #[.int .i64 x.1, .int .u64 x.2.1, .int .u64 x.2.2]) (.agg #[.int .i64 y.1, .int .u64 y.2.1, .int .u64 y.2.2])).run Try.prog w = .ok (.bool (!decide (x = y))) w := by
  obtain ⟨x0, x1, x2⟩ := x
  obtain ⟨y0, y1, y2⟩ := y
  simp [go_sem, Try.underlying39, Try.underlying35]
  by_cases h0 : x0 = y0 <;> by_cases h1 : x1 = y1 <;> by_cases h2 : x2 = y2 <;> simp [h0, h1, h2]
theorem eQ_eql (x y : Qd) (w : World) : (binOp .eql 39 (.agg #[.int .i64 x.1, .int .u64 x.2.1, .int .u64 x.2.2]) (.agg #[.int .i64 y.1, .int .u64 y.2.1, .int .u64 y.2.2])).run Try.prog w = .ok (.bool (decide (x = y))) w := by
  obtain ⟨x0, x1, x2⟩ := x
  obtain ⟨y0, y1, y2⟩ := y
  simp [go_sem, Try.underlying39, Try.underlying35]
  by_cases h0 : x0 = y0 <;> by_cases h1 : x1 = y1 <;> by_cases h2 : x2 = y2 <;> simp [h0, h1, h2]
abbrev Ev := Int × Int
abbrev eE : Enc Ev where
  size := 2
  pos := by decide
  cells x := [.int .u64 x.1, .int .u64 x.2]
  len _ := rfl
  one q := by simp [Value.oneCell']
def Ev.v (x : Ev) : Value := .agg #[.int .u64 x.1, .int .u64 x.2]
theorem eE_slice : SliceInfo Try.prog 31 35 eE.size 16 := SliceInfo.mk' Try.underlying31 (z := .agg #[.int .u64 0, .int .u64 0]) (by kernel_rfl) rfl
theorem eE_neq (x y : Ev) (w : World) : (binOp .neq 35 (.agg #[.int .u64 x.1, .int .u64 x.2]) (.agg #[.int .u64 y.1, .int .u64 y.2])).run Try.prog w = .ok (.bool (!decide (x = y))) w := by
  obtain ⟨x0, x1⟩ := x
  obtain ⟨y0, y1⟩ := y
  simp [go_sem, Try.underlying35]
  by_cases h0 : x0 = y0 <;> by_cases h1 : x1 = y1 <;> simp [h0, h1]
theorem eE_eql (x y : Ev) (w : World) : (binOp .eql 35 (.agg #[.int .u64 x.1, .int .u64 x.2]) (.agg #[.int .u64 y.1, .int .u64 y.2])).run Try.prog w = .ok (.bool (decide (x = y))) w := by
  obtain ⟨x0, x1⟩ := x
  obtain ⟨y0, y1⟩ := y
  simp [go_sem, Try.underlying35]
  by_cases h0 : x0 = y0 <;> by_cases h1 : x1 = y1 <;> simp [h0, h1]
abbrev OpD := Int × Int × Int × Int
abbrev eOp : Enc OpD where
  size := 4
  pos := by decide
  cells x := [.int .i64 x.1, .int .i64 x.2.1, .int .u64 x.2.2.1, .int .u64 x.2.2.2]
  len _ := rfl
  one q := by simp [Value.oneCell']
def OpD.v (x : OpD) : Value := .agg #[.int .i64 x.1, .int .i64 x.2.1, .int .u64 x.2.2.1, .int .u64 x.2.2.2]
theorem eOp_slice : SliceInfo Try.prog 22 37 eOp.size 32 := SliceInfo.mk' Try.underlying22 (z := .agg #[.int .i64 0, .int .i64 0, .int .u64 0, .int .u64 0]) (by kernel_rfl) rfl
theorem eOp_neq (x y : OpD) (w : World) : (binOp .neq 37 (.agg #[.int .i64 x.1, .int .i64 x.2.1, .int .u64 x.2.2.1, .int .u64 x.2.2.2]) (.agg #[.int .i64 y.1, .int .i64 y.2.1, .int .u64 y.2.2.1, .int .u64 y.2.2.2])).run Try.prog w = .ok (.bool (!decide (x = y))) w := by
  obtain ⟨x0, x1, x2, x3⟩ := x
  obtain ⟨y0, y1, y2, y3⟩ := y
  simp [go_sem, Try.underlying37, Try.underlying35]
  by_cases h0 : x0 = y0 <;> by_cases h1 : x1 = y1 <;> by_cases h2 : x2 = y2 <;> by_cases h3 : x3 = y3 <;> simp [h0, h1, h2, h3]
theorem eOp_eql (x y : OpD) (w : World) : (binOp .eql 37 (.agg #[.int .i64 x.1, .int .i64 x.2.1, .int .u64 x.2.2.1, .int .u64 x.2.2.2]) (.agg #[.int .i64 y.1, .int .i64 y.2.1, .int .u64 y.2.2.1, .int .u64 y.2.2.2])).run Try.prog w = .ok (.bool (decide (x = y))) w := by
  obtain ⟨x0, x1, x2, x3⟩ := x
  obtain ⟨y0, y1, y2, y3⟩ := y
  simp [go_sem, Try.underlying37, Try.underlying35]
  by_cases h0 : x0 = y0 <;> by_cases h1 : x1 = y1 <;> by_cases h2 : x2 = y2 <;> by_cases h3 : x3 = y3 <;> simp [h0, h1, h2, h3]
abbrev Cts := Int × Int × Int × Int × Int
abbrev eC : Enc Cts where
  size := 5
  pos := by decide
  cells x := [.int .i64 x.1, .int .i64 x.2.1, .int .i64 x.2.2.1, .int .i64 x.2.2.2.1, .int .i64 x.2.2.2.2]
  len _ := rfl
  one q := by simp [Value.oneCell']
def Cts.v (x : Cts) : Value := .agg #[.int .i64 x.1, .int .i64 x.2.1, .int .i64 x.2.2.1, .int .i64 x.2.2.2.1, .int .i64 x.2.2.2.2]
theorem eC_neq (x y : Cts) (w : World) : (binOp .neq 55 (.agg #[.int .i64 x.1, .int .i64 x.2.1, .int .i64 x.2.2.1, .int .i64 x.2.2.2.1, .int .i64 x.2.2.2.2]) (.agg #[.int .i64 y.1, .int .i64 y.2.1, .int .i64 y.2.2.1, .int .i64 y.2.2.2.1, .int .i64 y.2.2.2.2])).run Try.prog w = .ok (.bool (!decide (x = y))) w := by
  obtain ⟨x0, x1, x2, x3, x4⟩ := x
  obtain ⟨y0, y1, y2, y3, y4⟩ := y
  simp [go_sem, Try.underlying55]
  by_cases h0 : x0 = y0 <;> by_cases h1 : x1 = y1 <;> by_cases h2 : x2 = y2 <;> by_cases h3 : x3 = y3 <;> by_cases h4 : x4 = y4 <;> simp [h0, h1, h2, h3, h4]
theorem eC_eql (x y : Cts) (w : World) : (binOp .eql 55 (.agg #[.int .i64 x.1, .int .i64 x.2.1, .int .i64 x.2.2.1, .int .i64 x.2.2.2.1, .int .i64 x.2.2.2.2]) (.agg #[.int .i64 y.1, .int .i64 y.2.1, .int .i64 y.2.2.1, .int .i64 y.2.2.2.1, .int .i64 y.2.2.2.2])).run Try.prog w = .ok (.bool (decide (x = y))) w := by
  obtain ⟨x0, x1, x2, x3, x4⟩ := x
  obtain ⟨y0, y1, y2, y3, y4⟩ := y
  simp [go_sem, Try.underlying55]
  by_cases h0 : x0 = y0 <;> by_cases h1 : x1 = y1 <;> by_cases h2 : x2 = y2 <;> by_cases h3 : x3 = y3 <;> by_cases h4 : x4 = y4 <;> simp [h0, h1, h2, h3, h4]
end Go.Proofs.Ytdpklmaldjohkaa
