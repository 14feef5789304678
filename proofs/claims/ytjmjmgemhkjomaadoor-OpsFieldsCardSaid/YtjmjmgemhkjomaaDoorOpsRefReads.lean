/- ops: the reference's Reads. -/
import Derived.Test.YtjmjmgemhkjomaaDoorOpsRefRest
import Derived.Test.YtjmjmgemhkjomaaDoorOpsReads
namespace Go.Proofs.YtjmjmgemhkjomaaDoor
open Go.RowKit
set_option linter.unusedVariables false
set_option linter.unusedSimpArgs false

/-- does it read A? -/
def fA (op : Int) : Bool := threeR op || op == 12 || jumpR op || op == 20 || op == 22
def fS (i : In) : Bool := sourceR i && decide (i.b < 8)
def isAt (i : In) (r : Nat) : Bool := (fA i.op && (i.a == (r : Int))) || (fS i && (i.b == (r : Int)))
def readsR (i : In) : List Int := if rightR i then ((List.range 8).filter (isAt i)).map fun (r : Nat) => (r : Int) else []

theorem right_a {i : In} (h : rightR i = true) (ha : fA i.op = true) : 0 ≤ i.a ∧ i.a < 8 := by
  have hr := rightR_range h
  obtain ⟨op, d, a, b, imm⟩ := i
  obtain ⟨k, rfl⟩ : ∃ k : Nat, op = (k : Int) := ⟨op.toNat, by dsimp only at hr; omega⟩
  have hk : k < 23 := by dsimp only at hr; omega
  clear hr
  dsimp only at ha ⊢
  match k, hk with
  | 0, _ | 1, _ | 2, _ | 3, _ | 4, _ | 5, _ | 6, _ | 7, _ | 8, _ | 9, _ | 10, _ | 11, _ | 12, _ | 13, _ | 14, _ | 15, _ | 16, _ | 17, _ | 18, _ | 19, _ | 20, _ | 21, _ | 22, _ =>
    first
      | (exfalso; revert ha; decide)
      | (simp [rightR, threeR, jumpR, regB] at h; omega)
  | n + 23, h' => exact absurd h' (by omega)
theorem right_s {i : In} (hs : fS i = true) : 0 ≤ i.b ∧ i.b < 8 := by
  unfold fS sourceR at hs
  simp only [Bool.and_eq_true, decide_eq_true_eq] at hs
  obtain ⟨⟨h, h2⟩, h8⟩ := hs
  have hr := rightR_range h
  obtain ⟨op, d, a, b, imm⟩ := i
  obtain ⟨k, rfl⟩ : ∃ k : Nat, op = (k : Int) := ⟨op.toNat, by dsimp only at hr; omega⟩
  have hk : k < 23 := by dsimp only at hr; omega
  clear hr
  dsimp only at h2 h8 ⊢
  match k, hk with
  | 0, _ | 1, _ | 2, _ | 3, _ | 4, _ | 5, _ | 6, _ | 7, _ | 8, _ | 9, _ | 10, _ | 11, _ | 12, _ | 13, _ | 14, _ | 15, _ | 16, _ | 17, _ | 18, _ | 19, _ | 20, _ | 21, _ | 22, _ =>
    first
      | (exfalso; revert h2; decide)
      | (simp [rightR, threeR, jumpR, regB, sourcedR] at h; omega)
  | n + 23, h' => exact absurd h' (by omega)
theorem uses_a {i : In} (h : rightR i = true) : usesOp i.op 97 = fA i.op := by
  have hr := rightR_range h
  obtain ⟨op, d, a, b, imm⟩ := i
  obtain ⟨k, rfl⟩ : ∃ k : Nat, op = (k : Int) := ⟨op.toNat, by dsimp only at hr; omega⟩
  have hk : k < 23 := by dsimp only at hr; omega
  clear hr h
  dsimp only
  rw [usesOp_at k hk]
  match k, hk with
  | 0, _ | 1, _ | 2, _ | 3, _ | 4, _ | 5, _ | 6, _ | 7, _ | 8, _ | 9, _ | 10, _ | 11, _ | 12, _ | 13, _ | 14, _ | 15, _ | 16, _ | 17, _ | 18, _ | 19, _ | 20, _ | 21, _ | 22, _ => rfl
  | n + 23, h' => exact absurd h' (by omega)
theorem right_b8 {i : In} (h : rightR i = true) (hs : usesOp i.op 115 = true) : i.b < 8 ∨ i.b = 8 := by
  have hr := rightR_range h
  obtain ⟨op, d, a, b, imm⟩ := i
  obtain ⟨k, rfl⟩ : ∃ k : Nat, op = (k : Int) := ⟨op.toNat, by dsimp only at hr; omega⟩
  have hk : k < 23 := by dsimp only at hr; omega
  clear hr
  dsimp only at hs ⊢
  rw [usesOp_at k hk] at hs
  match k, hk with
  | 0, _ | 1, _ | 2, _ | 3, _ | 4, _ | 5, _ | 6, _ | 7, _ | 8, _ | 9, _ | 10, _ | 11, _ | 12, _ | 13, _ | 14, _ | 15, _ | 16, _ | 17, _ | 18, _ | 19, _ | 20, _ | 21, _ | 22, _ =>
    first
      | (exfalso; revert hs; decide +kernel)
      | (simp [rightR, threeR, jumpR, regB, sourcedR] at h; omega)
  | n + 23, h' => exact absurd h' (by omega)
theorem cast_beq (n r : Nat) : ((n : Int) == (r : Int)) = (n == r) := by rw [Bool.eq_iff_iff]; simp; omega
theorem two_of : ∀ a, a < 8 → ∀ b, b < 8 → a < b → (List.range 8).filter (fun r => a == r || b == r) = [a, b] := by decide +kernel
theorem two_of' : ∀ a, a < 8 → ∀ b, b < 8 → b < a → (List.range 8).filter (fun r => a == r || b == r) = [b, a] := by decide +kernel
theorem one_of : ∀ a, a < 8 → (List.range 8).filter (fun r => a == r) = [a] := by decide +kernel
theorem reads_eq (i : In) : readsP i = readsR i := by
  unfold readsR
  cases h : rightR i
  · unfold readsP; rw [right_eq, h]; rfl
  · have hP : rightP i = true := by rw [right_eq]; exact h
    have hua := uses_a h
    have hsr : usesOp i.op 115 = sourceR i := by
      have := source_eq i
      unfold sourceP at this
      rw [hP] at this
      simpa using this
    have hb8 := right_b8 h
    unfold readsP
    simp only [hP, if_true, hua]
    cases hA : fA i.op
    · cases hS : fS i
      · have e1 : ¬ (usesOp i.op 115 = true ∧ i.b ≠ 8) := by
          rintro ⟨h1, h2⟩
          unfold fS at hS
          rw [← hsr, h1] at hS
          have := hb8 h1
          simp at hS; omega
        have e2 : (List.range 8).filter (isAt i) = [] := by
          rw [List.filter_eq_nil_iff]; intro r _; unfold isAt; rw [hA, hS]; simp
        rw [e2]; simp [e1]
      · obtain ⟨h0, h7⟩ := right_s hS
        have e1 : usesOp i.op 115 = true ∧ i.b ≠ 8 := by
          unfold fS at hS
          rw [hsr]
          simp at hS
          exact ⟨hS.1, by omega⟩
        obtain ⟨n, hn⟩ : ∃ n : Nat, i.b = (n : Int) := ⟨i.b.toNat, by omega⟩
        have e2 : (List.range 8).filter (isAt i) = [n] := by
          rw [show isAt i = fun r => n == r from funext fun r => by unfold isAt; rw [hA, hS, hn]; simp [cast_beq]]
          exact one_of n (by omega)
        rw [e2]; simp [e1, hn]; omega
    · rw [if_pos rfl]
      obtain ⟨ha0, ha7⟩ := right_a h hA
      obtain ⟨m, hm⟩ : ∃ m : Nat, i.a = (m : Int) := ⟨i.a.toNat, by omega⟩
      cases hS : fS i
      · have e1 : ¬ (usesOp i.op 115 = true ∧ i.b ≠ 8 ∧ i.a ≠ i.b) := by
          rintro ⟨h1, h2, _⟩
          unfold fS at hS
          rw [← hsr, h1] at hS
          have := hb8 h1
          simp at hS; omega
        have e2 : (List.range 8).filter (isAt i) = [m] := by
          rw [show isAt i = fun r => m == r from funext fun r => by unfold isAt; rw [hA, hS, hm]; simp [cast_beq]]
          exact one_of m (by omega)
        rw [e2, if_neg e1]; simp [hm]
      · obtain ⟨h0, h7⟩ := right_s hS
        have e1 : usesOp i.op 115 = true ∧ i.b ≠ 8 := by
          unfold fS at hS
          rw [hsr]
          simp at hS
          exact ⟨hS.1, by omega⟩
        obtain ⟨n, hn⟩ : ∃ n : Nat, i.b = (n : Int) := ⟨i.b.toNat, by omega⟩
        have e0 : isAt i = fun r => m == r || n == r := funext fun r => by unfold isAt; rw [hA, hS, hn, hm]; simp [cast_beq]
        rw [e0]
        by_cases hmn : m = n
        · subst hmn
          have e2 : (List.range 8).filter (fun r => m == r || m == r) = [m] := by simp only [Bool.or_self]; exact one_of m (by omega)
          rw [e2, if_neg (by rintro ⟨_, _, h3⟩; omega)]; simp [hm]
        · rw [if_pos ⟨e1.1, e1.2, by omega⟩]
          by_cases hlt : m < n
          · rw [two_of m (by omega) n (by omega) hlt, if_pos (by omega)]; simp [hm, hn]
          · rw [two_of' m (by omega) n (by omega) (by omega), if_neg (by omega)]; simp [hm, hn]
end Go.Proofs.YtjmjmgemhkjomaaDoor
