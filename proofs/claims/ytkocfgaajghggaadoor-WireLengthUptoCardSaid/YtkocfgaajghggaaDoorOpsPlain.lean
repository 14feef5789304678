/- ops: the plain law of right: the fold over an operation's fields is the reference's text. -/
import Derived.Test.YtkocfgaajghggaaDoorOpsForms
namespace Go.Proofs.YtkocfgaajghggaaDoor
open Go.RowKit
set_option linter.unusedVariables false

structure In where
  op : Int
  d : Int
  a : Int
  b : Int
  imm : Int
structure St where
  ok : Bool
  d : Int
  a : Int
  b : Int
  imm : Int
def regB (n : Int) : Bool := decide (0 ≤ n) && decide (n < 8)
def withinB (n lo hi : Int) : Bool := decide (lo ≤ n) && decide (n ≤ hi)
def stepf (i : In) (s : St) (c : UInt8) : St :=
  if c = 100 then { s with ok := s.ok && regB i.d, d := 0 }
  else if c = 97 then { s with ok := s.ok && regB i.a, a := 0 }
  else if c = 115 then if i.b = 8 then { s with b := 0, imm := 0 } else { s with b := 0, ok := s.ok && regB i.b }
  else if c = 102 then { s with ok := s.ok && withinB i.imm 0 1, imm := 0 }
  else if c = 109 then { s with ok := s.ok && withinB i.imm 0 3, imm := 0 }
  else if c = 104 then { s with ok := s.ok && withinB i.imm 0 6, imm := 0 }
  else if c = 110 then { s with ok := s.ok && withinB i.imm 1 255, imm := 0 }
  else if c = 106 then { s with ok := s.ok && withinB i.d 0 63, d := 0 }
  else if c = 98 then { s with ok := s.ok && withinB i.d 1 63, d := 0 }
  else s
def fieldB : DataW Unit → List UInt8
  | .agg [_, .lit (.string fb)] => fb
  | _ => []
def fieldsB : List (List UInt8) := (rowsOf Rows.laid_tappet_ops_forms).map fieldB
def formB (op : Int) : Option (List UInt8) := if 0 ≤ op ∧ op < 23 then fieldsB[op.toNat]? else none
def St.good (s : St) : Bool := s.ok && decide (s.d = 0) && decide (s.a = 0) && decide (s.b = 0) && decide (s.imm = 0)
def In.start (i : In) : St := ⟨true, i.d, i.a, i.b, i.imm⟩
def rightP (i : In) : Bool := match formB i.op with
  | none => false
  | some fs => (fs.foldl (stepf i) i.start).good

def sourcedR (i : In) : Bool := regB i.b && decide (i.imm = 0) || decide (i.b = 8)
def threeR (op : Int) : Bool := decide (1 ≤ op) && decide (op ≤ 10)
def jumpR (op : Int) : Bool := decide (16 ≤ op) && decide (op ≤ 19)
def rightR (i : In) : Bool :=
  if i.op = 0 ∨ i.op = 11 then regB i.d && decide (i.a = 0) && sourcedR i
  else if threeR i.op then regB i.d && regB i.a && sourcedR i
  else if i.op = 12 then decide (i.d = 0) && regB i.a && sourcedR i
  else if i.op = 13 then regB i.d && decide (i.a = 0) && decide (i.b = 0) && (decide (i.imm = 0) || decide (i.imm = 1))
  else if i.op = 14 then regB i.d && decide (i.a = 0) && decide (i.b = 0) && decide (0 ≤ i.imm) && decide (i.imm ≤ 3)
  else if i.op = 15 then decide (0 ≤ i.d) && decide (i.d ≤ 63) && decide (i.a = 0) && decide (i.b = 0) && decide (i.imm = 0)
  else if jumpR i.op then decide (0 ≤ i.d) && decide (i.d ≤ 63) && regB i.a && sourcedR i
  else if i.op = 20 then decide (1 ≤ i.d) && decide (i.d ≤ 63) && regB i.a && decide (i.b = 0) && decide (1 ≤ i.imm) && decide (i.imm ≤ 255)
  else if i.op = 21 then decide (i.d = 0) && decide (i.a = 0) && decide (i.b = 0) && decide (0 ≤ i.imm) && decide (i.imm ≤ 6)
  else if i.op = 22 then decide (i.d = 0) && regB i.a && decide (i.b = 0) && decide (i.imm = 0)
  else false

theorem formB_eq : ∀ (op : Int) (fs : List UInt8), formB op = some fs → ∃ k : Nat, k < 23 ∧ op = k ∧ fieldsB[k]? = some fs := by
  intro op fs h
  unfold formB at h
  split at h
  · exact ⟨op.toNat, by omega, by omega, h⟩
  · cases h
theorem fieldsB_val : fieldsB = [[100, 115], [100, 97, 115], [100, 97, 115], [100, 97, 115], [100, 97, 115], [100, 97, 115], [100, 97, 115], [100, 97, 115], [100, 97, 115], [100, 97, 115], [100, 97, 115], [100, 115], [97, 115], [100, 102], [100, 109], [106], [106, 97, 115], [106, 97, 115], [106, 97, 115], [106, 97, 115], [98, 97, 110], [104], [97]] := by decide +kernel
theorem right_eq (i : In) : rightP i = rightR i := by
  obtain ⟨op, d, a, b, imm⟩ := i
  by_cases h : 0 ≤ op ∧ op < 23
  · obtain ⟨k, hk, rfl⟩ : ∃ k : Nat, k < 23 ∧ op = (k : Int) := ⟨op.toNat, by omega, by omega⟩
    have hf : formB (k : Int) = fieldsB[k]? := by unfold formB; rw [if_pos h]; simp
    unfold rightP
    simp only [hf, fieldsB_val]
    clear hf h
    rw [Bool.eq_iff_iff]
    by_cases h8 : b = 8
    · subst h8
      match k, hk with
      | 0, _ | 1, _ | 2, _ | 3, _ | 4, _ | 5, _ | 6, _ | 7, _ | 8, _ | 9, _ | 10, _ | 11, _ | 12, _ | 13, _ | 14, _ | 15, _ | 16, _ | 17, _ | 18, _ | 19, _ | 20, _ | 21, _ | 22, _ =>
        simp [stepf, St.good, In.start, rightR, sourcedR, threeR, jumpR, regB, withinB]
        try omega
      | n + 23, h' => exact absurd h' (by omega)
    · match k, hk with
      | 0, _ | 1, _ | 2, _ | 3, _ | 4, _ | 5, _ | 6, _ | 7, _ | 8, _ | 9, _ | 10, _ | 11, _ | 12, _ | 13, _ | 14, _ | 15, _ | 16, _ | 17, _ | 18, _ | 19, _ | 20, _ | 21, _ | 22, _ =>
        simp [stepf, St.good, In.start, rightR, sourcedR, threeR, jumpR, regB, withinB, h8]
        try omega
      | n + 23, h' => exact absurd h' (by omega)
  · have hf : formB op = none := by unfold formB; rw [if_neg h]
    unfold rightP
    simp only [hf]
    simp only [rightR, threeR, jumpR]
    rw [if_neg (by omega), if_neg (by simp; omega), if_neg (by omega), if_neg (by omega), if_neg (by omega), if_neg (by omega), if_neg (by simp; omega), if_neg (by omega), if_neg (by omega), if_neg (by omega)]
end Go.Proofs.YtkocfgaajghggaaDoor
