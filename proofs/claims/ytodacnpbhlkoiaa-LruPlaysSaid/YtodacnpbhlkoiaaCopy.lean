/- copy, append and clear on slices of structs: runs, and laws for the walk. -/
import Derived.Test.YtodacnpbhlkoiaaTool
import Derived.Laws.CopyRow
import Derived.Lib.AppendZerosOnto
import Derived.Lib.Overlaps
import Derived.Deep.RegionLaw
namespace Go.Proofs.Ytodacnpbhlkoiaa
open Go.RowKit
set_option linter.unusedVariables false

/-- cs laid over L from place o on -/
def lay (L : List Value) (o : Nat) (cs : List Value) : List Value := L.take o ++ (cs ++ L.drop (o + cs.length))
theorem lay_len (L : List Value) (o : Nat) (cs : List Value) (h : o + cs.length ≤ L.length) : (lay L o cs).length = L.length := by simp [lay]; omega
theorem lay_at (P A R : List Value) (cs : List Value) (h : cs.length ≤ R.length) : lay (P ++ (A ++ R)) (P.length + A.length) cs = P ++ (A ++ (cs ++ R.drop cs.length)) := by
  unfold lay
  rw [List.take_append, List.take_of_length_le (l := P) (by omega), show P.length + A.length - P.length = A.length by omega, List.take_left' rfl]
  rw [List.drop_append, @List.drop_eq_nil_of_le _ P _ (by omega), List.nil_append, List.drop_append, @List.drop_eq_nil_of_le _ A _ (by omega), List.nil_append, List.append_assoc]
  congr 4
  omega

theorem only_setRow (w : World) (g : Nat) (cs : Array Value) : Only (fun k => k = g) w (w.setRow g cs) := ⟨rfl, rfl, rfl, by simp [World.setRow], fun k hk hn => setRow_other w g k cs hn⟩

/-- copy(d, s) into a row of the call's own -/
theorem run_copyE {P : Program} (w : World) (dT sT elem : TypeId) (sz g o m : Nat) (a : Addr) (cur : Array Value) (t : TypeId) (cs : List Value)
    (hu : P.underlying dT = some (.slice elem)) (hs : (P.info? elem).map (·.size) = some sz)
    (hg : w.heap[g]? = some (.cells cur t (0, 0))) (hn : cs.length = m * sz)
    (hsrc : ∀ j v, cs[j]? = some v → w.cell? (a.add j) = some v) (hfit : o + cs.length ≤ cur.size) (h1 : ∀ v ∈ cs, v.oneCell' = true) :
    ∃ w' cur', (∀ ty dLen dCap sLen sCap, Nat.min sLen dLen = m → (Builtin.copy_ #[dT, sT] ty #[.slice (some ⟨g, o, none⟩) dLen dCap, .slice (some a) sLen sCap]).run P w = .ok (goInt (m : Nat)) w') ∧
      w'.heap[g]? = some (.cells cur' t (0, 0)) ∧ cur'.toList = lay cur.toList o cs ∧ Only (fun k => k = g) w w' := by
  have hl := run_loadCells_list (P := P) w a cs hsrc
  have hst := run_storeCells_at P g o t cs 0 cur w hg (by simpa using hfit) h1
  refine ⟨w.setRow g (cur.toList.take o ++ cs ++ cur.toList.drop (o + cs.length)).toArray, _, fun ty dLen dCap sLen sCap hmin => ?_, setRow_heap w g cur _ t _ hg, by simp [lay], only_setRow _ _ _⟩
  cases hq : P.info? elem with
  | none => simp [hq] at hs
  | some i =>
    have hi : i.size = sz := by simpa [hq] using hs
    simp [Builtin.copy_, run_underlying hu, Builtin.lenOf, Builtin.firstCells, sizeOf, typeInfo, hq, hi, hmin, ← hn, hl, hst]

/-- a builtin of two arguments whose run is known: at a plain region's list -/
theorem wl_copyE {P : Program} {w : World} {ops : Array Oper} {rest : List Oper} {o : Oper} {a : Act} {Q : Exit → Act → World → Prop} (hgd : o.guard = none) (d s : Operand) (dT sT : TypeId)
    (ho : o.op = .call { callee := .builtin .copy, args := #[d, s], argTypes := #[dT, sT] }) (v u : Value) (hd : a.eval d = v) (hs : a.eval s = u) {x : Value} {w' : World}
    (hr : (Builtin.copy_ #[dT, sT] o.type #[v, u]).run P w = .ok x w') (h : wpList P ops Q rest (a.put o.dst x) w') : wpList P ops Q (o :: rest) a w := by
  refine wpList_plain hgd fun K hK => ?_
  unfold Oper.wp
  simp [execOp, ho, resolve, invoke, builtin, hd, hs, hr, Result.andThen]
  exact hK _ _ h
theorem step_copyE {P : Program} {ops : Array Oper} {o : Oper} {a : Act} {w : World} {K : Act → World → Prop} {Q : Exit → Act → World → Prop} {E : Prop} (hgd : o.guard = none) (d s : Operand) (dT sT : TypeId)
    (ho : o.op = .call { callee := .builtin .copy, args := #[d, s], argTypes := #[dT, sT] }) (v u : Value) (hd : a.eval d = v) (hs : a.eval s = u) {x : Value} {w' : World}
    (hr : (Builtin.copy_ #[dT, sT] o.type #[v, u]).run P w = .ok x w') (h : K (a.put o.dst x) w') :
    if Region.wanted o (yielded ops a.tmps) = true then Oper.wp P o a w K Q else E := by
  rw [if_pos (by simp [Region.wanted, hgd])]
  unfold Oper.wp
  simp [execOp, ho, resolve, invoke, builtin, hd, hs, hr, Result.andThen]
  exact h
theorem wl_appendE {P : Program} {w : World} {ops : Array Oper} {rest : List Oper} {o : Oper} {a : Act} {Q : Exit → Act → World → Prop} (hgd : o.guard = none) (d s : Operand) (dT sT : TypeId)
    (ho : o.op = .call { callee := .builtin .append, args := #[d, s], argTypes := #[dT, sT] }) (v u : Value) (hd : a.eval d = v) (hs : a.eval s = u) {x : Value} {w' : World}
    (hr : (Builtin.append_ #[dT, sT] o.type #[v, u]).run P w = .ok x w') (h : wpList P ops Q rest (a.put o.dst x) w') : wpList P ops Q (o :: rest) a w := by
  refine wpList_plain hgd fun K hK => ?_
  unfold Oper.wp
  simp [execOp, ho, resolve, invoke, builtin, hd, hs, hr, Result.andThen]
  exact hK _ _ h
theorem step_appendE {P : Program} {ops : Array Oper} {o : Oper} {a : Act} {w : World} {K : Act → World → Prop} {Q : Exit → Act → World → Prop} {E : Prop} (hgd : o.guard = none) (d s : Operand) (dT sT : TypeId)
    (ho : o.op = .call { callee := .builtin .append, args := #[d, s], argTypes := #[dT, sT] }) (v u : Value) (hd : a.eval d = v) (hs : a.eval s = u) {x : Value} {w' : World}
    (hr : (Builtin.append_ #[dT, sT] o.type #[v, u]).run P w = .ok x w') (h : K (a.put o.dst x) w') :
    if Region.wanted o (yielded ops a.tmps) = true then Oper.wp P o a w K Q else E := by
  rw [if_pos (by simp [Region.wanted, hgd])]
  unfold Oper.wp
  simp [execOp, ho, resolve, invoke, builtin, hd, hs, hr, Result.andThen]
  exact h
theorem wl_clearE {P : Program} {w : World} {ops : Array Oper} {rest : List Oper} {o : Oper} {a : Act} {Q : Exit → Act → World → Prop} (hgd : o.guard = none) (d : Operand) (dT : TypeId)
    (ho : o.op = .call { callee := .builtin .clear, args := #[d], argTypes := #[dT] }) (v : Value) (hd : a.eval d = v) {x : Value} {w' : World}
    (hr : (Builtin.clear_ #[dT] o.type #[v]).run P w = .ok x w') (h : wpList P ops Q rest (a.put o.dst x) w') : wpList P ops Q (o :: rest) a w := by
  refine wpList_plain hgd fun K hK => ?_
  unfold Oper.wp
  simp [execOp, ho, resolve, invoke, builtin, hd, hr, Result.andThen]
  exact hK _ _ h

theorem run_clearE {P : Program} (w : World) (t e : TypeId) (i : TypeInfo) (z : Value) (g o n : Nat) (cur : Array Value) (ty : TypeId) (hu : P.underlying t = some (.slice e)) (hi : P.info? e = some i) (hz : i.zero = some z) (hn : 0 < n)
    (hg : w.heap[g]? = some (.cells cur ty (0, 0))) (hfit : o + (Builtin.zeroCells z.cells n).size ≤ cur.size) (h1 : ∀ v ∈ (Builtin.zeroCells z.cells n).toList, v.oneCell' = true) :
    ∃ w' cur', (∀ rt c, (Builtin.clear_ #[t] rt #[.slice (some ⟨g, o, none⟩) n c]).run P w = .ok (.tuple #[]) w') ∧
      w'.heap[g]? = some (.cells cur' ty (0, 0)) ∧ cur'.toList = lay cur.toList o (Builtin.zeroCells z.cells n).toList ∧ Only (fun k => k = g) w w' := by
  obtain ⟨m, rfl⟩ : ∃ m, n = m + 1 := ⟨n - 1, by omega⟩
  have hst := run_storeCells_at P g o ty (Builtin.zeroCells z.cells (m + 1)).toList 0 cur w hg (by simpa using hfit) h1
  refine ⟨w.setRow g (cur.toList.take o ++ (Builtin.zeroCells z.cells (m + 1)).toList ++ cur.toList.drop (o + (Builtin.zeroCells z.cells (m + 1)).toList.length)).toArray, _, fun rt c => ?_, setRow_heap w g cur _ ty _ hg, by simp [lay], only_setRow _ _ _⟩
  simp only [Nat.add_zero] at hst
  simp [Builtin.clear_, run_underlying hu, zeroValue, typeInfo, hi, hz, hst]
/-- append(s[:i], s[j:]...) within a row: the places are there -/
theorem run_appendIn {P : Program} (w : World) (t e : TypeId) (i : TypeInfo) (g off n m cap : Nat) (a : Option Addr) (cur : Array Value) (ty : TypeId) (cs : List Value) (hu : P.underlying t = some (.slice e)) (hi : P.info? e = some i)
    (hg : w.heap[g]? = some (.cells cur ty (0, 0))) (hl : cs.length = m * i.size) (hsrc : 0 < m → ∃ b, a = some b ∧ ∀ j u, cs[j]? = some u → w.cell? (b.add j) = some u) (h1 : ∀ u ∈ cs, u.oneCell' = true)
    (hroom : n + m ≤ cap) (hfit : off + n * i.size + cs.length ≤ cur.size) :
    ∃ w' cur', (∀ rt c, (Builtin.append_ #[t, t] rt #[.slice (some ⟨g, off, none⟩) n cap, .slice a m c]).run P w = .ok (.slice (some ⟨g, off, none⟩) (n + m) cap) w') ∧
      w'.heap[g]? = some (.cells cur' ty (0, 0)) ∧ cur'.toList = lay cur.toList (off + n * i.size) cs ∧ Only (fun k => k = g) w w' := by
  by_cases h0 : 0 < m
  · obtain ⟨b, rfl, hsr⟩ := hsrc h0
    have hl' := run_loadCells_list (P := P) w b cs hsr
    have hst := run_storeCells_at P g (off + n * i.size) ty cs 0 cur w hg (by simpa using hfit) h1
    refine ⟨w.setRow g (cur.toList.take (off + n * i.size) ++ cs ++ cur.toList.drop (off + n * i.size + cs.length)).toArray, _, fun rt c => ?_, setRow_heap w g cur _ ty _ hg, by simp [lay], only_setRow _ _ _⟩
    simp only [Nat.add_zero] at hst
    simp [Builtin.append_, run_underlying hu, sizeOf, typeInfo, hi, Builtin.lenOf, hroom, Builtin.firstCells, ← hl, hl', Addr.add_lit, hst]
  · obtain rfl : m = 0 := by omega
    have hc0 : cs = [] := List.eq_nil_of_length_eq_zero (by simpa using hl)
    subst hc0
    refine ⟨w, cur, fun rt c => ?_, hg, by simp [lay], Only.refl _ _⟩
    exact run_append_empty t rt e i hu hi _ n cap (by omega) a c

/-- slices.Insert in place: what lies there behind the two copies -/
theorem ins_cells (P A B R X : List Value) (hX : X.length ≤ R.length) (L : List Value) (hL : L = P ++ (A ++ (B ++ R))) :
    ((lay (lay L (P.length + A.length + X.length) B) (P.length + A.length) X).drop P.length).take (A.length + X.length + B.length) = A ++ (X ++ B) := by
  subst hL
  have e1 : P ++ (A ++ (B ++ R)) = P ++ ((A ++ (B ++ R).take X.length) ++ (B ++ R).drop X.length) := by rw [List.append_assoc, List.take_append_drop]
  have hl : (A ++ (B ++ R).take X.length).length = A.length + X.length := by simp; omega
  rw [e1, show P.length + A.length + X.length = P.length + (A ++ (B ++ R).take X.length).length by rw [hl]; omega, lay_at _ _ _ _ (by simp; omega)]
  rw [List.append_assoc, lay_at _ _ _ _ (by simp; omega)]
  rw [List.drop_left' rfl, List.drop_append_of_le_length (by simp; omega)]
  have : ((B ++ R).take X.length).drop X.length = [] := List.drop_eq_nil_of_le (by simp; omega)
  rw [this, List.nil_append, ← List.append_assoc, ← List.append_assoc, List.take_append_of_le_length (by simp; omega)]
  rw [List.take_of_length_le (by simp; omega), List.append_assoc]
theorem fill_cells (A Z X B : List Value) (h : X.length + B.length ≤ Z.length) :
    (lay (lay (A ++ Z) A.length X) (A.length + X.length) B).take (A.length + X.length + B.length) = A ++ (X ++ B) := by
  have e1 := lay_at A [] Z X (by omega)
  simp only [List.length_nil, Nat.add_zero, List.nil_append] at e1
  rw [e1, lay_at A X _ B (by simp; omega), ← List.append_assoc, ← List.append_assoc, ← List.append_assoc, List.take_append_of_le_length (by simp; omega), List.take_of_length_le (by simp; omega), List.append_assoc]
/-- slices.Delete in place: what lies there behind the append and the clear -/
theorem del_cells (P A X B R Z : List Value) (hZ : Z.length = X.length) (L : List Value) (hL : L = P ++ (A ++ (X ++ (B ++ R)))) :
    ((lay (lay L (P.length + A.length) B) (P.length + A.length + B.length) Z).drop P.length).take (A.length + B.length) = A ++ B := by
  subst hL
  rw [lay_at _ _ _ _ (by simp; omega)]
  rw [show P.length + A.length + B.length = P.length + (A ++ B).length by simp; omega, ← List.append_assoc A B, lay_at _ _ _ _ (by simp; omega)]
  rw [List.drop_left' rfl, List.take_append_of_le_length (by simp), List.take_of_length_le (by simp)]
end Go.Proofs.Ytodacnpbhlkoiaa
