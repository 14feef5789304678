/- Structs in memory (printed by gen_enc.py). -/
import Derived.Test.YthemkcgifefjmaaFoot
import Derived.Laws.StructEq
namespace Go.Proofs.Ythemkcgifefjmaa
open Go.RowKit
set_option linter.unusedVariables false

abbrev Pub := Int × Int
abbrev ePub : Enc Pub where
  size := 2
  pos := by decide
  cells x := [.int .i64 x.1, .int .i64 x.2]
  len _ := rfl
  one q := by simp [Value.oneCell']
def Pub.v (x : Pub) : Value := .agg #[.int .i64 x.1, .int .i64 x.2]
theorem ePub_slice : SliceInfo Try.prog 41 53 ePub.size 16 := SliceInfo.mk' Try.underlying41 (z := .agg #[.int .i64 0, .int .i64 0]) (by kernel_rfl) rfl
theorem ePub_neq (x y : Pub) (w : World) : (binOp .neq 53 (.agg #[.int .i64 x.1, .int .i64 x.2]) (.agg #[.int .i64 y.1, .int .i64 y.2])).run Try.prog w = .ok (.bool (!decide (x = y))) w := by
  obtain ⟨x0, x1⟩ := x
  obtain ⟨y0, y1⟩ := y
  simp [go_sem, Try.underlying53]
  by_cases h0 : x0 = y0 <;> by_cases h1 : x1 = y1 <;> simp [h0, h1]
theorem ePub_eql (x y : Pub) (w : World) : (binOp .eql 53 (.agg #[.int .i64 x.1, .int .i64 x.2]) (.agg #[.int .i64 y.1, .int .i64 y.2])).run Try.prog w = .ok (.bool (decide (x = y))) w := by
  obtain ⟨x0, x1⟩ := x
  obtain ⟨y0, y1⟩ := y
  simp [go_sem, Try.underlying53]
  by_cases h0 : x0 = y0 <;> by_cases h1 : x1 = y1 <;> simp [h0, h1]
abbrev StepD := Int × Int × Int
abbrev eStep : Enc StepD where
  size := 3
  pos := by decide
  cells x := [.int .i64 x.1, .int .i64 x.2.1, .int .i64 x.2.2]
  len _ := rfl
  one q := by simp [Value.oneCell']
def StepD.v (x : StepD) : Value := .agg #[.int .i64 x.1, .int .i64 x.2.1, .int .i64 x.2.2]
theorem eStep_slice : SliceInfo Try.prog 47 62 eStep.size 24 := SliceInfo.mk' Try.underlying47 (z := .agg #[.int .i64 0, .int .i64 0, .int .i64 0]) (by kernel_rfl) rfl
theorem eStep_neq (x y : StepD) (w : World) : (binOp .neq 62 (.agg #[.int .i64 x.1, .int .i64 x.2.1, .int .i64 x.2.2]) (.agg #[.int .i64 y.1, .int .i64 y.2.1, .int .i64 y.2.2])).run Try.prog w = .ok (.bool (!decide (x = y))) w := by
  obtain ⟨x0, x1, x2⟩ := x
  obtain ⟨y0, y1, y2⟩ := y
  simp [go_sem, Try.underlying62]
  by_cases h0 : x0 = y0 <;> by_cases h1 : x1 = y1 <;> by_cases h2 : x2 = y2 <;> simp [h0, h1, h2]
theorem eStep_eql (x y : StepD) (w : World) : (binOp .eql 62 (.agg #[.int .i64 x.1, .int .i64 x.2.1, .int .i64 x.2.2]) (.agg #[.int .i64 y.1, .int .i64 y.2.1, .int .i64 y.2.2])).run Try.prog w = .ok (.bool (decide (x = y))) w := by
  obtain ⟨x0, x1, x2⟩ := x
  obtain ⟨y0, y1, y2⟩ := y
  simp [go_sem, Try.underlying62]
  by_cases h0 : x0 = y0 <;> by_cases h1 : x1 = y1 <;> by_cases h2 : x2 = y2 <;> simp [h0, h1, h2]
abbrev OpD := Int × Int × Int × (Option Addr × Nat × Nat)
abbrev eOp : Enc OpD where
  size := 4
  pos := by decide
  cells x := [.int .i64 x.1, .int .i64 x.2.1, .int .i64 x.2.2.1, .slice x.2.2.2.1 x.2.2.2.2.1 x.2.2.2.2.2]
  len _ := rfl
  one q := by simp [Value.oneCell']
def OpD.v (x : OpD) : Value := .agg #[.int .i64 x.1, .int .i64 x.2.1, .int .i64 x.2.2.1, .slice x.2.2.2.1 x.2.2.2.2.1 x.2.2.2.2.2]
theorem eOp_slice : SliceInfo Try.prog 22 30 eOp.size 48 := SliceInfo.mk' Try.underlying22 (z := .agg #[.int .i64 0, .int .i64 0, .int .i64 0, .slice none 0 0]) (by kernel_rfl) rfl
end Go.Proofs.Ythemkcgifefjmaa
