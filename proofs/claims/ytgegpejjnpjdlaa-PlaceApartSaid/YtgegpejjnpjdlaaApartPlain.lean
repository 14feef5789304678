/- The law PlaceApart: its plain part, lists and numbers alone. -/
import Derived.Test.YtgegpejjnpjdlaaMine
namespace Go.Proofs.Ytgegpejjnpjdlaa
set_option linter.unusedVariables false

/-- so many keys in the first shards -/
def cnt (n : Int) (xs : List Int) : Nat → Nat
  | 0 => 0
  | s + 1 => cnt n xs s + (mineS s n xs).length
theorem cnt_nil (n : Int) (s : Nat) : cnt n [] s = 0 := by
  induction s with
  | zero => rfl
  | succ s ih => simp [cnt, ih, mineS]
theorem cnt_cons (n x : Int) (xs : List Int) (s : Nat) : cnt n (x :: xs) s = cnt n xs s + if ofS x n < s then 1 else 0 := by
  have h0 := (ofS_range x n).1
  induction s with
  | zero => rw [if_neg (by omega)]; rfl
  | succ s ih =>
    simp only [cnt, ih, mineS, List.filter_cons]
    by_cases h : ofS x n == (s : Int)
    · have : ofS x n = s := by simpa using h
      rw [if_pos h, if_neg (by omega), if_pos (by omega), List.length_cons]; omega
    · have : ofS x n ≠ s := by simpa using h
      rw [if_neg h]
      by_cases h2 : ofS x n < (s : Int)
      · rw [if_pos h2, if_pos (by omega)]; omega
      · rw [if_neg h2, if_neg (by omega)]; omega
theorem cnt_all (n : Nat) (xs : List Int) (hn : 1 ≤ n) : cnt n xs n = xs.length := by
  induction xs with
  | nil => exact cnt_nil _ _
  | cons x xs ih =>
    have := (ofS_range x n).2
    rw [cnt_cons, ih, if_pos (by omega), List.length_cons]
theorem cnt_le (n : Int) (xs : List Int) (s : Nat) : cnt n xs s ≤ xs.length := by
  induction xs with
  | nil => rw [cnt_nil]; exact Nat.zero_le _
  | cons x xs ih => rw [cnt_cons, List.length_cons]; split <;> omega

/-- the lists, the first ones overwritten -/
def apL (M : Nat → List Int) (s i t : Nat) : List Int :=
  if t < s then List.replicate (M t).length (100 + t) else if t = s then List.replicate i (100 + (s : Int)) ++ (M s).drop i else M t
theorem apL_zero (M : Nat → List Int) : apL M 0 0 = M := by
  funext t
  unfold apL
  rw [if_neg (by omega)]
  split
  · rename_i h; subst h; simp
  · rfl
theorem apL_len (M : Nat → List Int) (s i t : Nat) (h : i ≤ (M s).length) : (apL M s i t).length = (M t).length := by
  unfold apL
  split
  · simp
  · split
    · rename_i h2; subst h2; simp; omega
    · rfl
theorem apL_get (M : Nat → List Int) (s i : Nat) (h : i < (M s).length) (h' : i < (apL M s i s).length) : (apL M s i s)[i] = (M s)[i] := by
  simp only [apL, if_neg (Nat.lt_irrefl s), if_true]
  rw [List.getElem_append_right (by simp)]
  simp
theorem apL_set (M : Nat → List Int) (s i : Nat) (h : i < (M s).length) : (fun t => if t = s then (apL M s i s).set i (100 + (s : Int)) else apL M s i t) = apL M s (i + 1) := by
  funext t
  by_cases e : t = s
  · subst e
    simp only [apL, if_neg (Nat.lt_irrefl t), if_true]
    rw [List.set_append_right _ _ (by simp), List.length_replicate, Nat.sub_self, List.drop_eq_getElem_cons h, List.set_cons_zero, List.replicate_succ', List.append_assoc]; rfl
  · simp only [if_neg e, apL]
theorem apL_next (M : Nat → List Int) (s : Nat) : apL M s (M s).length = apL M (s + 1) 0 := by
  funext t
  unfold apL
  by_cases e : t = s
  · subst e
    rw [if_neg (by omega), if_pos rfl, if_pos (by omega), List.drop_length, List.append_nil]
  · by_cases h : t < s
    · rw [if_pos h, if_pos (by omega)]
    · rw [if_neg h, if_neg e, if_neg (by omega)]
      split
      · rename_i h2; subst h2; simp
      · rfl
theorem apL_end (M : Nat → List Int) (m t : Nat) (h : t < m) : apL M m 0 t = List.replicate (M t).length (100 + (t : Int)) := by
  unfold apL; rw [if_pos h]
theorem mineS_of (s n : Int) (xs : List Int) (i : Nat) (h : i < (mineS s n xs).length) : ofS ((mineS s n xs)[i]) n = s := by
  have := List.getElem_mem h
  have := (List.mem_filter.1 this).2
  simpa using this
end Go.Proofs.Ytgegpejjnpjdlaa
