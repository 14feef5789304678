/- book: the plain law of Do. -/
import Derived.Test.YtodacnpbhlkoiaaBookFind
namespace Go.Proofs.Ytodacnpbhlkoiaa
open Go.RowKit
set_option linter.unusedVariables false
set_option linter.unusedSimpArgs false

def oldP (xs : List PairD) (k : Int) : Int := if hasP xs k then (xs.getD (posP xs k) (0, 0)).2 else 0
def add64 (a b : Int) : Int := IntKind.u64.wrap (a + b)
def putP (xs : List PairD) (k v : Int) : List PairD := if hasP xs k then xs.set (posP xs k) (k, v) else xs.take (posP xs k) ++ (k, v) :: xs.drop (posP xs k)
def delP (xs : List PairD) (k : Int) : List PairD := if hasP xs k then xs.take (posP xs k) ++ xs.drop (posP xs k + 1) else xs
def full (cap : Int) (xs : List PairD) (k : Int) : Bool := !hasP xs k && decide ((xs.length : Int) = cap)
def resE (e : Int) : ResD := (e, false, 0, false, 0, 0)
def resF (f : Bool) (v : Int) : ResD := (0, f, v, false, 0, 0)
def doP (cap : Int) (xs : List PairD) (op k v : Int) : ResD × List PairD :=
  if op = 0 then (resF (hasP xs k) (oldP xs k), xs)
  else if op = 1 then (resF (hasP xs k) 0, xs)
  else if op = 3 then (resF (hasP xs k) (oldP xs k), delP xs k)
  else if op = 2 then if full cap xs k then (resE 40, xs) else (resF (hasP xs k) (oldP xs k), putP xs k v)
  else if op = 4 then if full cap xs k then (resE 40, xs) else (resF (hasP xs k) (add64 (oldP xs k) v), putP xs k (add64 (oldP xs k) v))
  else (resE 2, xs)
structure Good (cap : Int) (xs : List PairD) : Prop where
  lo : 1 ≤ cap
  hi : cap ≤ 16
  len : (xs.length : Int) ≤ cap
  rising : Rising xs

theorem posP_lt {xs : List PairD} {k : Int} (hr : Rising xs) (h : hasP xs k = true) : posP xs k < xs.length ∧ ∀ h, (xs[posP xs k]'h).1 = k := by
  unfold hasP at h
  rw [List.any_eq_true] at h
  obtain ⟨p, hp, he⟩ := h
  obtain ⟨a, ha, rfl⟩ := List.getElem_of_mem hp
  have hk : xs[a].1 = k := by simpa using he
  have : posP xs k = a := posP_of (by omega) (fun c hc hca => by have := hr c a hc ha hca; omega) (fun _ => by omega)
  exact ⟨by omega, fun h => by subst this; exact hk⟩
theorem posP_low {xs : List PairD} {k : Int} (a : Nat) (ha : a < xs.length) (h : a < posP xs k) : xs[a].1 < k := by
  have := List.not_of_lt_findIdx (p := fun (p : PairD) => decide (k ≤ p.1)) (xs := xs) (i := a) h
  simp at this; omega
theorem posP_high {xs : List PairD} {k : Int} (hr : Rising xs) (h : hasP xs k = false) (a : Nat) (ha : a < xs.length) (hle : posP xs k ≤ a) : k < xs[a].1 := by
  have hlt : posP xs k < xs.length := by omega
  have h1 : k ≤ (xs[posP xs k]'hlt).1 := by
    have := List.findIdx_getElem (p := fun (p : PairD) => decide (k ≤ p.1)) (xs := xs) (w := hlt)
    exact of_decide_eq_true this
  have h2 : (xs[a].1 == k) = false := by
    unfold hasP at h
    rw [List.any_eq_false] at h
    have := h xs[a] (List.getElem_mem _)
    simpa using this
  have h3 : xs[a].1 ≠ k := by simpa using h2
  by_cases e : posP xs k = a
  · have h4 : k ≤ xs[a].1 := by simpa [e] using h1
    omega
  · have := hr (posP xs k) a hlt ha (by omega)
    omega

theorem rising_cons {xs : List PairD} (p : PairD) (h : Rising xs) (hp : ∀ q ∈ xs, p.1 < q.1) : Rising (p :: xs) := by
  intro i j hi hj hij
  cases j with
  | zero => omega
  | succ j =>
    cases i with
    | zero => exact hp _ (List.getElem_mem _)
    | succ i => exact h i j (by simpa using hi) (by simpa using hj) (by omega)
theorem rising_pairwise {xs : List PairD} : Rising xs ↔ xs.Pairwise (fun p q => p.1 < q.1) := by
  rw [List.pairwise_iff_getElem]
  exact ⟨fun h i j hi hj hij => h i j hi hj hij, fun h i j hi hj hij => h i j hi hj hij⟩
theorem del_rising {xs : List PairD} (hr : Rising xs) (i : Nat) : Rising (xs.take i ++ xs.drop (i + 1)) := by
  rw [rising_pairwise] at *
  have h : (xs.take i ++ xs.drop (i + 1)).Sublist xs := by
    rw [← List.eraseIdx_eq_take_drop_succ]; exact List.eraseIdx_sublist ..
  exact hr.sublist h
theorem ins_rising {xs : List PairD} {k v : Int} (hr : Rising xs) (h : hasP xs k = false) : Rising (xs.take (posP xs k) ++ (k, v) :: xs.drop (posP xs k)) := by
  rw [rising_pairwise] at *
  rw [List.pairwise_append]
  refine ⟨hr.sublist (List.take_sublist ..), ?_, ?_⟩
  · rw [List.pairwise_cons]
    refine ⟨fun q hq => ?_, hr.sublist (List.drop_sublist ..)⟩
    obtain ⟨a, ha, rfl⟩ := List.getElem_of_mem hq
    rw [List.getElem_drop]
    exact posP_high (rising_pairwise.2 hr) h _ (by simp at ha; omega) (by omega)
  · intro p hp q hq
    obtain ⟨a, ha, rfl⟩ := List.getElem_of_mem hp
    rw [List.getElem_take]
    have ha' : a < posP xs k := by simp at ha; omega
    have h1 := posP_low (k := k) a (by simp at ha; omega) ha'
    rcases List.mem_cons.1 hq with rfl | hq
    · exact h1
    · obtain ⟨c, hc, rfl⟩ := List.getElem_of_mem hq
      rw [List.getElem_drop]
      have := posP_high (rising_pairwise.2 hr) h (posP xs k + c) (by simp at hc; omega) (by omega)
      omega
theorem set_rising {xs : List PairD} {k v : Int} (hr : Rising xs) (h : hasP xs k = true) : Rising (xs.set (posP xs k) (k, v)) := by
  obtain ⟨hlt, hk⟩ := posP_lt hr h
  have hk' := hk hlt
  have hkey : ∀ a (ha : a < (xs.set (posP xs k) (k, v)).length), ((xs.set (posP xs k) (k, v))[a]).1 = (xs[a]'(by simpa using ha)).1 := fun a ha => by
    rw [List.getElem_set]
    split
    · rename_i e; subst e; exact hk'.symm
    · rfl
  intro i j hi hj hij
  rw [hkey i hi, hkey j hj]
  exact hr i j _ _ hij
theorem put_good {cap : Int} {xs : List PairD} {k v : Int} (G : Good cap xs) (hf : full cap xs k = false) : Good cap (putP xs k v) := by
  unfold putP
  unfold full at hf
  cases h : hasP xs k
  · rw [h] at hf
    have hl : ¬ ((xs.length : Int) = cap) := by simpa using hf
    have := posP_le xs k
    refine ⟨G.lo, G.hi, ?_, ?_⟩
    · have := G.len; simp; omega
    · simpa using ins_rising G.rising h
  · exact ⟨G.lo, G.hi, by have := G.len; simpa using this, by simpa using set_rising G.rising h⟩
theorem del_good {cap : Int} {xs : List PairD} {k : Int} (G : Good cap xs) : Good cap (delP xs k) := by
  unfold delP
  split
  · exact ⟨G.lo, G.hi, by have := G.len; simp; omega, del_rising G.rising _⟩
  · exact G
theorem do_good {cap : Int} {xs : List PairD} {op k v : Int} (G : Good cap xs) : Good cap (doP cap xs op k v).2 := by
  unfold doP
  split
  · exact G
  split
  · exact G
  split
  · exact del_good G
  split
  · split
    · exact G
    · rename_i h; exact put_good G (by simpa using h)
  split
  · split
    · exact G
    · rename_i h; exact put_good G (by simpa using h)
  · exact G
end Go.Proofs.Ytodacnpbhlkoiaa
