/- ops: an instruction with the bit 40 of its Imm turned. -/
import Derived.Test.YtjmjmgemhkjomaaDoorOpsRefRest
namespace Go.Proofs.YtjmjmgemhkjomaaDoor
open Go.RowKit
set_option linter.unusedVariables false
set_option linter.unusedSimpArgs false

theorem xor_all : ∀ n, n < 256 → 255 < bits BinOp.xor IntKind.i64 ((n : Nat) : Int) 1099511627776 := by decide +kernel
/-- far out: the bit 40 turned -/
theorem xor_far (imm Y : Int) (hY : Y = bits BinOp.xor IntKind.i64 imm 1099511627776) (h : 0 ≤ imm ∧ imm ≤ 255) : 255 < Y := by
  obtain ⟨n, rfl⟩ : ∃ n : Nat, imm = (n : Int) := ⟨imm.toNat, by omega⟩
  rw [hY]; exact xor_all n (by omega)
theorem right_xor (i : In) (Y : Int) (hY : Y = bits BinOp.xor IntKind.i64 i.imm 1099511627776) (him : -9223372036854775808 ≤ i.imm ∧ i.imm ≤ 9223372036854775807) (h : rightR i = true) :
    rightR ⟨i.op, i.d, i.a, i.b, Y⟩ = (sourceR i && (i.b == 8)) := by
  have hr := rightR_range h
  obtain ⟨op, d, a, b, imm⟩ := i
  have hf : 0 ≤ imm ∧ imm ≤ 255 → 255 < Y := fun h => xor_far imm Y hY h
  clear hY him
  obtain ⟨k, rfl⟩ : ∃ k : Nat, op = (k : Int) := ⟨op.toNat, by dsimp only at hr; omega⟩
  have hk : k < 23 := by dsimp only at hr; omega
  clear hr
  rw [Bool.eq_iff_iff]
  match k, hk with
  | 0, _ | 1, _ | 2, _ | 3, _ | 4, _ | 5, _ | 6, _ | 7, _ | 8, _ | 9, _ | 10, _ | 11, _ | 12, _ | 13, _ | 14, _ | 15, _ | 16, _ | 17, _ | 18, _ | 19, _ | 20, _ | 21, _ | 22, _ =>
    simp [rightR, sourceR, sourcedR, threeR, jumpR, regB] at h ⊢
    try omega
  | n + 23, h' => exact absurd h' (by omega)
end Go.Proofs.YtjmjmgemhkjomaaDoor
