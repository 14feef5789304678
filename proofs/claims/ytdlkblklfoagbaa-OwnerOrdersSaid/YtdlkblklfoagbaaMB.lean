/- the chapters below, merged: MB -/
import Derived.Test.YtdlkblklfoagbaaMA
import Derived.Laws.StructEq
import Derived.Laws.CopyRow
import Derived.Lib.AppendZerosOnto
import Derived.Lib.Overlaps
import Derived.Deep.RegionLaw
import Derived.Laws.Externs
namespace Go.Proofs.Ytdlkblklfoagbaa
open Go.RowKit
set_option linter.unusedVariables false
set_option linter.unusedSimpArgs false

abbrev PairD := Int × Int
abbrev ePair : Enc PairD where
  size := 2
  pos := by decide
  cells x := [.int .u64 x.1, .int .u64 x.2]
  len _ := rfl
  one q := by simp [Value.oneCell']
def PairD.v (x : PairD) : Value := .agg #[.int .u64 x.1, .int .u64 x.2]
theorem ePair_slice : SliceInfo Try.prog 42 50 ePair.size 16 := SliceInfo.mk' Try.underlying42 (z := .agg #[.int .u64 0, .int .u64 0]) (by kernel_rfl) rfl
theorem ePair_neq (x y : PairD) (w : World) : (binOp .neq 50 (.agg #[.int .u64 x.1, .int .u64 x.2]) (.agg #[.int .u64 y.1, .int .u64 y.2])).run Try.prog w = .ok (.bool (!decide (x = y))) w := by
  obtain ⟨x0, x1⟩ := x
  obtain ⟨y0, y1⟩ := y
  simp [go_sem, Try.underlying50]
  by_cases h0 : x0 = y0 <;> by_cases h1 : x1 = y1 <;> simp [h0, h1]
theorem ePair_eql (x y : PairD) (w : World) : (binOp .eql 50 (.agg #[.int .u64 x.1, .int .u64 x.2]) (.agg #[.int .u64 y.1, .int .u64 y.2])).run Try.prog w = .ok (.bool (decide (x = y))) w := by
  obtain ⟨x0, x1⟩ := x
  obtain ⟨y0, y1⟩ := y
  simp [go_sem, Try.underlying50]
  by_cases h0 : x0 = y0 <;> by_cases h1 : x1 = y1 <;> simp [h0, h1]
abbrev ResD := Int × Bool × Int × Bool × Int × Int
abbrev eRes : Enc ResD where
  size := 6
  pos := by decide
  cells x := [.int .i64 x.1, .bool x.2.1, .int .u64 x.2.2.1, .bool x.2.2.2.1, .int .u64 x.2.2.2.2.1, .int .u64 x.2.2.2.2.2]
  len _ := rfl
  one q := by simp [Value.oneCell']
def ResD.v (x : ResD) : Value := .agg #[.int .i64 x.1, .bool x.2.1, .int .u64 x.2.2.1, .bool x.2.2.2.1, .int .u64 x.2.2.2.2.1, .int .u64 x.2.2.2.2.2]
theorem eRes_neq (x y : ResD) (w : World) : (binOp .neq 41 (.agg #[.int .i64 x.1, .bool x.2.1, .int .u64 x.2.2.1, .bool x.2.2.2.1, .int .u64 x.2.2.2.2.1, .int .u64 x.2.2.2.2.2]) (.agg #[.int .i64 y.1, .bool y.2.1, .int .u64 y.2.2.1, .bool y.2.2.2.1, .int .u64 y.2.2.2.2.1, .int .u64 y.2.2.2.2.2])).run Try.prog w = .ok (.bool (!decide (x = y))) w := by
  obtain ⟨x0, x1, x2, x3, x4, x5⟩ := x
  obtain ⟨y0, y1, y2, y3, y4, y5⟩ := y
  simp [go_sem, Try.underlying41]
  by_cases h0 : x0 = y0 <;> by_cases h1 : x1 = y1 <;> by_cases h2 : x2 = y2 <;> by_cases h3 : x3 = y3 <;> by_cases h4 : x4 = y4 <;> by_cases h5 : x5 = y5 <;> simp [h0, h1, h2, h3, h4, h5]
theorem eRes_eql (x y : ResD) (w : World) : (binOp .eql 41 (.agg #[.int .i64 x.1, .bool x.2.1, .int .u64 x.2.2.1, .bool x.2.2.2.1, .int .u64 x.2.2.2.2.1, .int .u64 x.2.2.2.2.2]) (.agg #[.int .i64 y.1, .bool y.2.1, .int .u64 y.2.2.1, .bool y.2.2.2.1, .int .u64 y.2.2.2.2.1, .int .u64 y.2.2.2.2.2])).run Try.prog w = .ok (.bool (decide (x = y))) w := by
  obtain ⟨x0, x1, x2, x3, x4, x5⟩ := x
  obtain ⟨y0, y1, y2, y3, y4, y5⟩ := y
  simp [go_sem, Try.underlying41]
  by_cases h0 : x0 = y0 <;> by_cases h1 : x1 = y1 <;> by_cases h2 : x2 = y2 <;> by_cases h3 : x3 = y3 <;> by_cases h4 : x4 = y4 <;> by_cases h5 : x5 = y5 <;> simp [h0, h1, h2, h3, h4, h5]

/-- cs laid over L from place o on -/
def lay (L : List Value) (o : Nat) (cs : List Value) : List Value := L.take o ++ (cs ++ L.drop (o + cs.length))
theorem lay_len (L : List Value) (o : Nat) (cs : List Value) (h : o + cs.length ≤ L.length) : (lay L o cs).length = L.length := by simp [lay]; omega
theorem lay_at (P A R : List Value) (cs : List Value) (h : cs.length ≤ R.length) : lay (P ++ (A ++ R)) (P.length + A.length) cs = P ++ (A ++ (cs ++ R.drop cs.length)) := by
  unfold lay
  rw [List.take_append, List.take_of_length_le (l := P) (by omega), show P.length + A.length - P.length = A.length by omega, List.take_left' rfl]
  rw [List.drop_append, @List.drop_eq_nil_of_le _ P _ (by omega), List.nil_append, List.drop_append, @List.drop_eq_nil_of_le _ A _ (by omega), List.nil_append, List.append_assoc]
  congr 4
  omega

theorem only_setRow (w : World) (g : Nat) (cs : Array Value) : Only (fun k => k = g) w (w.setRow g cs) := ⟨rfl, rfl, rfl, by simp [World.setRow], fun k hk hn => setRow_other w g k cs hn⟩

/-- copy(d, s) into a row of the call's own -/
theorem run_copyE {P : Program} (w : World) (dT sT elem : TypeId) (sz g o m : Nat) (a : Addr) (cur : Array Value) (t : TypeId) (cs : List Value)
    (hu : P.underlying dT = some (.slice elem)) (hs : (P.info? elem).map (·.size) = some sz)
    (hg : w.heap[g]? = some (.cells cur t (0, 0))) (hn : cs.length = m * sz)
    (hsrc : ∀ j v, cs[j]? = some v → w.cell? (a.add j) = some v) (hfit : o + cs.length ≤ cur.size) (h1 : ∀ v ∈ cs, v.oneCell' = true) :
    ∃ w' cur', (∀ ty dLen dCap sLen sCap, Nat.min sLen dLen = m → (Builtin.copy_ #[dT, sT] ty #[.slice (some ⟨g, o, none⟩) dLen dCap, .slice (some a) sLen sCap]).run P w = .ok (goInt (m : Nat)) w') ∧
      w'.heap[g]? = some (.cells cur' t (0, 0)) ∧ cur'.toList = lay cur.toList o cs ∧ Only (fun k => k = g) w w' := by
  have hl := run_loadCells_list (P := P) w a cs hsrc
  have hst := run_storeCells_at P g o t cs 0 cur w hg (by simpa using hfit) h1
  refine ⟨w.setRow g (cur.toList.take o ++ cs ++ cur.toList.drop (o + cs.length)).toArray, _, fun ty dLen dCap sLen sCap hmin => ?_, setRow_heap w g cur _ t _ hg, by simp [lay], only_setRow _ _ _⟩
  cases hq : P.info? elem with
  | none => simp [hq] at hs
  | some i =>
    have hi : i.size = sz := by simpa [hq] using hs
    simp [Builtin.copy_, run_underlying hu, Builtin.lenOf, Builtin.firstCells, sizeOf, typeInfo, hq, hi, hmin, ← hn, hl, hst]

/-- a builtin of two arguments whose run is known: at a plain region's list -/
theorem wl_copyE {P : Program} {w : World} {ops : Array Oper} {rest : List Oper} {o : Oper} {a : Act} {Q : Exit → Act → World → Prop} (hgd : o.guard = none) (d s : Operand) (dT sT : TypeId)
    (ho : o.op = .call { callee := .builtin .copy, args := #[d, s], argTypes := #[dT, sT] }) (v u : Value) (hd : a.eval d = v) (hs : a.eval s = u) {x : Value} {w' : World}
    (hr : (Builtin.copy_ #[dT, sT] o.type #[v, u]).run P w = .ok x w') (h : wpList P ops Q rest (a.put o.dst x) w') : wpList P ops Q (o :: rest) a w := by
  refine wpList_plain hgd fun K hK => ?_
  unfold Oper.wp
  simp [execOp, ho, resolve, invoke, builtin, hd, hs, hr, Result.andThen]
  exact hK _ _ h
theorem step_copyE {P : Program} {ops : Array Oper} {o : Oper} {a : Act} {w : World} {K : Act → World → Prop} {Q : Exit → Act → World → Prop} {E : Prop} (hgd : o.guard = none) (d s : Operand) (dT sT : TypeId)
    (ho : o.op = .call { callee := .builtin .copy, args := #[d, s], argTypes := #[dT, sT] }) (v u : Value) (hd : a.eval d = v) (hs : a.eval s = u) {x : Value} {w' : World}
    (hr : (Builtin.copy_ #[dT, sT] o.type #[v, u]).run P w = .ok x w') (h : K (a.put o.dst x) w') :
    if Region.wanted o (yielded ops a.tmps) = true then Oper.wp P o a w K Q else E := by
  rw [if_pos (by simp [Region.wanted, hgd])]
  unfold Oper.wp
  simp [execOp, ho, resolve, invoke, builtin, hd, hs, hr, Result.andThen]
  exact h
theorem wl_appendE {P : Program} {w : World} {ops : Array Oper} {rest : List Oper} {o : Oper} {a : Act} {Q : Exit → Act → World → Prop} (hgd : o.guard = none) (d s : Operand) (dT sT : TypeId)
    (ho : o.op = .call { callee := .builtin .append, args := #[d, s], argTypes := #[dT, sT] }) (v u : Value) (hd : a.eval d = v) (hs : a.eval s = u) {x : Value} {w' : World}
    (hr : (Builtin.append_ #[dT, sT] o.type #[v, u]).run P w = .ok x w') (h : wpList P ops Q rest (a.put o.dst x) w') : wpList P ops Q (o :: rest) a w := by
  refine wpList_plain hgd fun K hK => ?_
  unfold Oper.wp
  simp [execOp, ho, resolve, invoke, builtin, hd, hs, hr, Result.andThen]
  exact hK _ _ h
theorem step_appendE {P : Program} {ops : Array Oper} {o : Oper} {a : Act} {w : World} {K : Act → World → Prop} {Q : Exit → Act → World → Prop} {E : Prop} (hgd : o.guard = none) (d s : Operand) (dT sT : TypeId)
    (ho : o.op = .call { callee := .builtin .append, args := #[d, s], argTypes := #[dT, sT] }) (v u : Value) (hd : a.eval d = v) (hs : a.eval s = u) {x : Value} {w' : World}
    (hr : (Builtin.append_ #[dT, sT] o.type #[v, u]).run P w = .ok x w') (h : K (a.put o.dst x) w') :
    if Region.wanted o (yielded ops a.tmps) = true then Oper.wp P o a w K Q else E := by
  rw [if_pos (by simp [Region.wanted, hgd])]
  unfold Oper.wp
  simp [execOp, ho, resolve, invoke, builtin, hd, hs, hr, Result.andThen]
  exact h
theorem wl_clearE {P : Program} {w : World} {ops : Array Oper} {rest : List Oper} {o : Oper} {a : Act} {Q : Exit → Act → World → Prop} (hgd : o.guard = none) (d : Operand) (dT : TypeId)
    (ho : o.op = .call { callee := .builtin .clear, args := #[d], argTypes := #[dT] }) (v : Value) (hd : a.eval d = v) {x : Value} {w' : World}
    (hr : (Builtin.clear_ #[dT] o.type #[v]).run P w = .ok x w') (h : wpList P ops Q rest (a.put o.dst x) w') : wpList P ops Q (o :: rest) a w := by
  refine wpList_plain hgd fun K hK => ?_
  unfold Oper.wp
  simp [execOp, ho, resolve, invoke, builtin, hd, hr, Result.andThen]
  exact hK _ _ h

theorem run_clearE {P : Program} (w : World) (t e : TypeId) (i : TypeInfo) (z : Value) (g o n : Nat) (cur : Array Value) (ty : TypeId) (hu : P.underlying t = some (.slice e)) (hi : P.info? e = some i) (hz : i.zero = some z) (hn : 0 < n)
    (hg : w.heap[g]? = some (.cells cur ty (0, 0))) (hfit : o + (Builtin.zeroCells z.cells n).size ≤ cur.size) (h1 : ∀ v ∈ (Builtin.zeroCells z.cells n).toList, v.oneCell' = true) :
    ∃ w' cur', (∀ rt c, (Builtin.clear_ #[t] rt #[.slice (some ⟨g, o, none⟩) n c]).run P w = .ok (.tuple #[]) w') ∧
      w'.heap[g]? = some (.cells cur' ty (0, 0)) ∧ cur'.toList = lay cur.toList o (Builtin.zeroCells z.cells n).toList ∧ Only (fun k => k = g) w w' := by
  obtain ⟨m, rfl⟩ : ∃ m, n = m + 1 := ⟨n - 1, by omega⟩
  have hst := run_storeCells_at P g o ty (Builtin.zeroCells z.cells (m + 1)).toList 0 cur w hg (by simpa using hfit) h1
  refine ⟨w.setRow g (cur.toList.take o ++ (Builtin.zeroCells z.cells (m + 1)).toList ++ cur.toList.drop (o + (Builtin.zeroCells z.cells (m + 1)).toList.length)).toArray, _, fun rt c => ?_, setRow_heap w g cur _ ty _ hg, by simp [lay], only_setRow _ _ _⟩
  simp only [Nat.add_zero] at hst
  simp [Builtin.clear_, run_underlying hu, zeroValue, typeInfo, hi, hz, hst]
/-- append(s[:i], s[j:]...) within a row: the places are there -/
theorem run_appendIn {P : Program} (w : World) (t e : TypeId) (i : TypeInfo) (g off n m cap : Nat) (a : Option Addr) (cur : Array Value) (ty : TypeId) (cs : List Value) (hu : P.underlying t = some (.slice e)) (hi : P.info? e = some i)
    (hg : w.heap[g]? = some (.cells cur ty (0, 0))) (hl : cs.length = m * i.size) (hsrc : 0 < m → ∃ b, a = some b ∧ ∀ j u, cs[j]? = some u → w.cell? (b.add j) = some u) (h1 : ∀ u ∈ cs, u.oneCell' = true)
    (hroom : n + m ≤ cap) (hfit : off + n * i.size + cs.length ≤ cur.size) :
    ∃ w' cur', (∀ rt c, (Builtin.append_ #[t, t] rt #[.slice (some ⟨g, off, none⟩) n cap, .slice a m c]).run P w = .ok (.slice (some ⟨g, off, none⟩) (n + m) cap) w') ∧
      w'.heap[g]? = some (.cells cur' ty (0, 0)) ∧ cur'.toList = lay cur.toList (off + n * i.size) cs ∧ Only (fun k => k = g) w w' := by
  by_cases h0 : 0 < m
  · obtain ⟨b, rfl, hsr⟩ := hsrc h0
    have hl' := run_loadCells_list (P := P) w b cs hsr
    have hst := run_storeCells_at P g (off + n * i.size) ty cs 0 cur w hg (by simpa using hfit) h1
    refine ⟨w.setRow g (cur.toList.take (off + n * i.size) ++ cs ++ cur.toList.drop (off + n * i.size + cs.length)).toArray, _, fun rt c => ?_, setRow_heap w g cur _ ty _ hg, by simp [lay], only_setRow _ _ _⟩
    simp only [Nat.add_zero] at hst
    simp [Builtin.append_, run_underlying hu, sizeOf, typeInfo, hi, Builtin.lenOf, hroom, Builtin.firstCells, ← hl, hl', Addr.add_lit, hst]
  · obtain rfl : m = 0 := by omega
    have hc0 : cs = [] := List.eq_nil_of_length_eq_zero (by simpa using hl)
    subst hc0
    refine ⟨w, cur, fun rt c => ?_, hg, by simp [lay], Only.refl _ _⟩
    exact run_append_empty t rt e i hu hi _ n cap (by omega) a c

/-- slices.Insert in place: what lies there behind the two copies -/
theorem ins_cells (P A B R X : List Value) (hX : X.length ≤ R.length) (L : List Value) (hL : L = P ++ (A ++ (B ++ R))) :
    ((lay (lay L (P.length + A.length + X.length) B) (P.length + A.length) X).drop P.length).take (A.length + X.length + B.length) = A ++ (X ++ B) := by
  subst hL
  have e1 : P ++ (A ++ (B ++ R)) = P ++ ((A ++ (B ++ R).take X.length) ++ (B ++ R).drop X.length) := by rw [List.append_assoc, List.take_append_drop]
  have hl : (A ++ (B ++ R).take X.length).length = A.length + X.length := by simp; omega
  rw [e1, show P.length + A.length + X.length = P.length + (A ++ (B ++ R).take X.length).length by rw [hl]; omega, lay_at _ _ _ _ (by simp; omega)]
  rw [List.append_assoc, lay_at _ _ _ _ (by simp; omega)]
  rw [List.drop_left' rfl, List.drop_append_of_le_length (by simp; omega)]
  have : ((B ++ R).take X.length).drop X.length = [] := List.drop_eq_nil_of_le (by simp; omega)
  rw [this, List.nil_append, ← List.append_assoc, ← List.append_assoc, List.take_append_of_le_length (by simp; omega)]
  rw [List.take_of_length_le (by simp; omega), List.append_assoc]
theorem fill_cells (A Z X B : List Value) (h : X.length + B.length ≤ Z.length) :
    (lay (lay (A ++ Z) A.length X) (A.length + X.length) B).take (A.length + X.length + B.length) = A ++ (X ++ B) := by
  have e1 := lay_at A [] Z X (by omega)
  simp only [List.length_nil, Nat.add_zero, List.nil_append] at e1
  rw [e1, lay_at A X _ B (by simp; omega), ← List.append_assoc, ← List.append_assoc, ← List.append_assoc, List.take_append_of_le_length (by simp; omega), List.take_of_length_le (by simp; omega), List.append_assoc]
/-- slices.Delete in place: what lies there behind the append and the clear -/
theorem del_cells (P A X B R Z : List Value) (hZ : Z.length = X.length) (L : List Value) (hL : L = P ++ (A ++ (X ++ (B ++ R)))) :
    ((lay (lay L (P.length + A.length) B) (P.length + A.length + B.length) Z).drop P.length).take (A.length + B.length) = A ++ B := by
  subst hL
  rw [lay_at _ _ _ _ (by simp; omega)]
  rw [show P.length + A.length + B.length = P.length + (A ++ B).length by simp; omega, ← List.append_assoc A B, lay_at _ _ _ _ (by simp; omega)]
  rw [List.drop_left' rfl, List.take_append_of_le_length (by simp), List.take_of_length_le (by simp)]

theorem pair_size : (Try.prog.info? 50).map (·.size) = some 2 := by kernel_rfl
/-- a row in its parts -/
theorem row_split (cur : Array Value) (off i : Nat) (xs : List PairD) (hi : i ≤ xs.length) (hs : off + xs.length * 2 ≤ cur.size) (ht : (cur.toList.drop off).take (xs.length * 2) = ePair.all xs) :
    ∃ P R, cur.toList = P ++ (ePair.all (xs.take i) ++ (ePair.all (xs.drop i) ++ R)) ∧ P.length = off ∧ off + xs.length * 2 + R.length = cur.size := by
  refine ⟨cur.toList.take off, cur.toList.drop (off + xs.length * 2), ?_, by simp; omega, by simp; omega⟩
  have h1 : ePair.all (xs.take i) ++ ePair.all (xs.drop i) = ePair.all xs := by rw [← Enc.all_append, List.take_append_drop]
  rw [← List.append_assoc (ePair.all (xs.take i)), h1, ← ht, ← List.drop_drop, List.take_append_drop, List.take_append_drop]
theorem cell_split {w : World} {g : Nat} {cur : Array Value} {ty : TypeId} {fr : Nat × Nat} (hh : w.heap[g]? = some (.cells cur ty fr)) {P A B R : List Value} (hc : cur.toList = P ++ (A ++ (B ++ R))) (o : Nat) (ho : o = P.length + A.length) (j : Nat) (v : Value) (hj : B[j]? = some v) :
    w.cell? ⟨g, o + j, none⟩ = some v := by
  subst ho
  rw [cell_of_row w g _ cur ty fr hh, ← Array.getElem?_toList, hc]
  have hlt := (List.getElem?_eq_some_iff.1 hj).1
  rw [List.getElem?_append_right (by omega), List.getElem?_append_right (by omega), List.getElem?_append_left (by omega), show P.length + A.length + j - P.length - A.length = j by omega]
  exact hj
/-- what Insert leaves of a row -/
def InsPost (g off n ty : Nat) (size : Nat) (ys : List Value) (w w' : World) : Prop :=
  (∃ cur', w'.heap[g]? = some (.cells cur' ty (0, 0)) ∧ cur'.size = size ∧ (cur'.toList.drop off).take (n * 2) = ys) ∧ Only (fun k => k = g) w w'

set_option maxHeartbeats 400000 in
set_option maxRecDepth 100000 in
theorem insert_room (g off cap i vb : Nat) (cur : Array Value) (xs : List PairD) (x : PairD) (w : World) (hi : i < xs.length) (hroom : xs.length + 1 ≤ cap) (hcap : cap ≤ 9223372036854775807)
    (hh : w.heap[g]? = some (.cells cur 50 (0, 0))) (hs : off + cap * 2 ≤ cur.size) (ht : (cur.toList.drop off).take (xs.length * 2) = ePair.all xs)
    (hvb : w.heap[vb]? = some (.cells #[.int .u64 x.1, .int .u64 x.2] 50 (0, 0))) (hne : vb ≠ g) :
    Calls Try.prog 61 #[.slice (some ⟨g, off, none⟩) xs.length cap, .int .i64 i, .slice (some ⟨vb, 0, none⟩) 1 1] w fun e w' =>
      e = .returned (.slice (some ⟨g, off, none⟩) (xs.length + 1) cap) ∧ InsPost g off (xs.length + 1) 50 cur.size (ePair.all (xs.take i ++ x :: xs.drop i)) w w' := by
  have hov : ∀ (W : World) lb cb, W.heap[g]? = some (.cells cur 50 (0, 0)) → W.heap[vb]? = some (.cells #[.int .u64 x.1, .int .u64 x.2] 50 (0, 0)) →
      (callFunc 65 #[.slice (some ⟨vb, 0, none⟩) 1 1, .slice (some ⟨g, off + (i + 1) * 2, none⟩) lb cb]).run Try.prog W = .ok (.value (.bool false)) W := fun W lb cb h1 h2 => by
    rw [run_callFunc_extern Try.func65 (by kernel_rfl) (by kernel_rfl) (by kernel_rfl) (e := Extern.SlicesOverlaps.overlaps #[42, 42] #[4]) (by kernel_rfl),
      Lib.run_overlaps_apart W 42 4 50 Try.underlying42 2 (fun _ => by kernel_rfl) ⟨vb, 0, none⟩ ⟨g, off + (i + 1) * 2, none⟩ 1 1 lb cb hne 50 50 2 cur.size
        (by simp [World.shape?, h2]) (by simp [World.shape?, h1]) (by omega) (by simp [World.frozen?, h2]) (by simp [World.frozen?, h2])]
    rfl
  obtain ⟨n, hn⟩ : ∃ n, n = xs.length := ⟨_, rfl⟩
  obtain ⟨P, R, hcur, hP, hR⟩ := row_split cur off i xs (by omega) (by omega) ht
  have hAl : (ePair.all (xs.take i)).length = i * 2 := by rw [ePair.all_len, List.length_take]; show min i xs.length * 2 = _; rw [Nat.min_eq_left (by omega)]
  have hBl : (ePair.all (xs.drop i)).length = (n - i) * 2 := by rw [ePair.all_len, List.length_drop, ← hn]
  have hall : ePair.all (xs.take i ++ x :: xs.drop i) = ePair.all (xs.take i) ++ (ePair.cells x ++ ePair.all (xs.drop i)) := by rw [Enc.all_append, Enc.all_cons]
  have hBone := ePair.all_one (xs.drop i)
  have hXone := ePair.one x
  have hXl : (ePair.cells x).length = 2 := rfl
  have hsz2 : cur.toList.length = cur.size := by simp
  rw [hall]
  clear hall ht
  rw [← hn] at hi hroom hR ⊢
  obtain ⟨A, hA⟩ : ∃ A, A = ePair.all (xs.take i) := ⟨_, rfl⟩
  obtain ⟨B, hB⟩ : ∃ B, B = ePair.all (xs.drop i) := ⟨_, rfl⟩
  rw [← hA, ← hB] at hcur ⊢
  rw [← hA] at hAl
  rw [← hB] at hBl hBone
  clear hA hB hn
  obtain ⟨w1, cur1, hr1, hh1, hc1, ho1⟩ := run_copyE (P := Try.prog) w.drew 42 42 50 2 g (off + (i + 1) * 2) (n - i) ⟨g, off + i * 2, none⟩ cur 50 B Try.underlying42 pair_size hh hBl
    (fun j v hj => by rw [Addr.add_lit]; exact cell_split (w := w.drew) hh hcur (off + i * 2) (by omega) j v hj) (by omega) hBone
  have hl1 : cur1.toList.length = cur1.size := by simp
  have hs1 : cur1.size = cur.size := by rw [← hl1, hc1, lay_len _ _ _ (by rw [hsz2]; omega), hsz2]
  obtain ⟨w2, cur2, hr2, hh2, hc2, ho2⟩ := run_copyE (P := Try.prog) w1 42 42 50 2 g (off + i * 2) 1 ⟨vb, 0, none⟩ cur1 50 (ePair.cells x) Try.underlying42 pair_size hh1 rfl
    (fun j v hj => by
      rw [Addr.add_lit, cell_of_row w1 vb _ _ _ _ (ho1.heap (w := w.drew) hvb (fun h => hne h)), Nat.zero_add]
      simpa using hj) (by rw [hs1, hXl]; omega) hXone
  have hl2 : cur2.toList.length = cur2.size := by simp
  have hs2 : cur2.size = cur.size := by rw [← hl2, hc2, lay_len _ _ _ (by rw [hl1, hs1, hXl]; omega), hl1, hs1]
  have hT : (cur2.toList.drop off).take ((n + 1) * 2) = A ++ (ePair.cells x ++ B) := by
    have h := ins_cells P A B R (ePair.cells x) (by rw [hXl]; omega) cur.toList hcur
    rw [hXl, hP, hAl, hBl, show off + i * 2 + 2 = off + (i + 1) * 2 by omega, ← hc1, ← hc2, show i * 2 + 2 + (n - i) * 2 = (n + 1) * 2 by omega] at h
    exact h
  have HP := Lib.hid (show (∃ cur', w2.heap[g]? = some (.cells cur' 50 (0, 0)) ∧ cur'.size = cur.size ∧ (cur'.toList.drop off).take ((n + 1) * 2) = A ++ (ePair.cells x ++ B)) ∧ Only (fun k => k = g) w w2 from
    ⟨⟨cur2, hh2, hs2, hT⟩, ((Only.refl _ w).drew_.tr ho1).tr ho2⟩)
  have HR1 := Lib.hid hr1
  have HR2 := Lib.hid hr2
  have hb1 : (0 : Int) ≤ (i : Int) + 1 := by omega
  have hin : i ≤ n := by omega
  have hb2 : ¬ cap = i + 1 := by omega
  have hb4 : ¬ cap = i := by omega
  have hb3 : (i : Int) ≤ (n : Int) + 1 := by omega
  have hb5 : i ≤ n + 1 := by omega
  clear hr1 hh1 hc1 ho1 hl1 hs1 hr2 hh2 hc2 ho2 hl2 hs2 hT hcur hP hR hAl hBl hBone hXone hXl hsz2
  have HOV := Lib.hid (fun lb cb => hov w lb cb hh hvb)
  have hz2 : ¬ ((i : Int) = (n : Int)) := by omega
  have hz3 : ((i : Int) == (n : Int)) = false := by simp; omega
  have hw1 : IntKind.i64.wrap ((i : Int) + 1) = (i : Int) + 1 := by rw [IntKind.wrap_i64]; omega
  have hw2 : IntKind.i64.wrap ((n : Int) + 1) = (n : Int) + 1 := by rw [IntKind.wrap_i64]; omega
  have htn : ((i : Int) + 1).toNat = i + 1 := by omega
  have htn2 : ((n : Int) + 1).toNat = n + 1 := by omega
  have HH := Lib.hid hh
  have HVB := Lib.hid hvb
  clear hov hh hvb
  go_enter Try.func61, Try.ntmps61
  go_wp2_with (simp only [HOV.out])
  go_region_law (refine step_copyE rfl (.tmp 73) (.tmp 76) 42 42 rfl _ _ (by simp [Act.eval, Act.put]) (by simp [Act.eval, Act.put]) (HR1.out _ (n - i) (cap - (i + 1)) (n + 1 - i) (cap - i) (by simp only [Nat.min_def]; split <;> omega)) ?_)
  go_wp2_with (refine wl_copyE rfl _ _ 42 42 rfl _ _ rfl rfl (HR2.out _ (n + 1 - i) (cap - i) 1 1 (by simp only [Nat.min_def]; split <;> omega)) ?_)
  go_ret
  exact ⟨rfl, HP.out⟩

def GrowPost (n ty : Nat) (ys : List Value) (w : World) (e : Ending) (w' : World) : Prop :=
  ∃ cap, e = .returned (.slice (some ⟨w.heap.size, 0, none⟩) n cap) ∧ n ≤ cap ∧ cap ≤ maxLen ∧ (∃ cur', w'.heap[w.heap.size]? = some (.cells cur' ty (0, 0)) ∧ cap * 2 ≤ cur'.size ∧ cur'.toList.take (n * 2) = ys) ∧ Only (fun _ => False) w w'

set_option maxHeartbeats 400000 in
set_option maxRecDepth 100000 in
theorem insert_grow (g off i vb : Nat) (cur : Array Value) (xs : List PairD) (x : PairD) (w : World) (hi : i < xs.length) (hn1 : xs.length ≤ 1000)
    (hh : w.heap[g]? = some (.cells cur 50 (0, 0))) (hs : off + xs.length * 2 ≤ cur.size) (ht : (cur.toList.drop off).take (xs.length * 2) = ePair.all xs)
    (hvb : w.heap[vb]? = some (.cells #[.int .u64 x.1, .int .u64 x.2] 50 (0, 0))) :
    Calls Try.prog 61 #[.slice (some ⟨g, off, none⟩) xs.length xs.length, .int .i64 i, .slice (some ⟨vb, 0, none⟩) 1 1] w
      (GrowPost (xs.length + 1) 50 (ePair.all (xs.take i ++ x :: xs.drop i)) w) := by
  obtain ⟨n, hn⟩ : ∃ n, n = xs.length := ⟨_, rfl⟩
  obtain ⟨P, R, hcur, hP, hR⟩ := row_split cur off i xs (by omega) (by omega) ht
  have hAl : (ePair.all (xs.take i)).length = i * 2 := by rw [ePair.all_len, List.length_take]; show min i xs.length * 2 = _; rw [Nat.min_eq_left (by omega)]
  have hBl : (ePair.all (xs.drop i)).length = (n - i) * 2 := by rw [ePair.all_len, List.length_drop, ← hn]
  have hall : ePair.all (xs.take i ++ x :: xs.drop i) = ePair.all (xs.take i) ++ (ePair.cells x ++ ePair.all (xs.drop i)) := by rw [Enc.all_append, Enc.all_cons]
  have hBone := ePair.all_one (xs.drop i)
  have hXone := ePair.one x
  have hXl : (ePair.cells x).length = 2 := rfl
  rw [hall]
  clear hall ht
  rw [← hn] at hi hn1 hR hs ⊢
  obtain ⟨A, hA⟩ : ∃ A, A = ePair.all (xs.take i) := ⟨_, rfl⟩
  obtain ⟨B, hB⟩ : ∃ B, B = ePair.all (xs.drop i) := ⟨_, rfl⟩
  rw [← hA, ← hB] at hcur ⊢
  rw [← hA] at hAl
  rw [← hB] at hBl hBone
  clear hA hB hn
  obtain ⟨i0, hi0, hz0, hz1, hz2⟩ := info_parts (show (Try.prog.info? 50).map (fun i => (i.zero, i.size, i.bytes)) = some (some (.agg #[.int .u64 0, .int .u64 0]), 2, 16) by kernel_rfl)
  have hold : (Builtin.firstCells i0.size i (.slice (some ⟨g, off, none⟩) i n)).run Try.prog w.drew = .ok A.toArray w.drew := by
    rw [hz1]
    have hl := run_loadCells_list (P := Try.prog) w.drew ⟨g, off, none⟩ A (fun j v hj => by
      rw [Addr.add_lit]
      have := cell_split (w := w.drew) (fr := (0, 0)) (g := g) (cur := cur) (ty := 50) hh (P := P) (A := []) (B := A) (R := B ++ R) (by simpa using hcur) off (by simp [hP]) j v hj
      exact this)
    rw [hAl] at hl
    simpa [Builtin.firstCells] using hl
  have hrun0 := Lib.run_append_grow_zeros (P := Try.prog) w 42 3 42 50 i0 _ .i64 .i64 Try.underlying42 Try.underlying3 hi0 hz0 (some ⟨g, off, none⟩) i n A hold (n + 1 - i) (by omega) (by omega) (by omega) (by omega) (by rw [hz2]; omega)
    (by rw [hz2]; exact grow_fits (by omega) (by omega))
  have hnk : i + (n + 1 - i) = n + 1 := by omega
  rw [hnk] at hrun0
  have hge := grownCap_ge w (n + 1) n 50
  have hgm := grownCap_le_maxLen w (n + 1) n 50 (by unfold maxLen; omega)
  obtain ⟨gc, hgc⟩ : ∃ gc, gc = grownCap w (n + 1) n 50 := ⟨_, rfl⟩
  rw [← hgc] at hrun0 hge hgm
  obtain ⟨C0, hC0⟩ : ∃ C0, C0 = A.toArray ++ Builtin.zeroCells (Value.agg #[.int .u64 0, .int .u64 0]).cells (n + 1 - i) ++ Builtin.zeroCells (Value.agg #[.int .u64 0, .int .u64 0]).cells (gc - (n + 1)) := ⟨_, rfl⟩
  rw [← hC0] at hrun0
  have hC0l : ∃ Z, C0.toList = A ++ Z ∧ Z.length = (gc - i) * 2 := by
    refine ⟨_, by rw [hC0, Array.toList_append, Array.toList_append, List.append_assoc], ?_⟩
    rw [List.length_append, Array.length_toList, Array.length_toList, size_zeroCells, size_zeroCells]
    show (n + 1 - i) * 2 + (gc - (n + 1)) * 2 = _
    omega
  obtain ⟨Z, hZ, hZl⟩ := hC0l
  have hC0s : C0.size = gc * 2 := by rw [← Array.length_toList, hZ, List.length_append, hAl, hZl]; omega
  have hh0 : (w.drew.alloc (.cells C0 50)).heap[w.heap.size]? = some (.cells C0 50 (0, 0)) := heap_alloc_new w.drew _
  have hvb0 : (w.drew.alloc (.cells C0 50)).heap[vb]? = some (.cells #[.int .u64 x.1, .int .u64 x.2] 50 (0, 0)) := heap_alloc (w := w.drew) hvb
  have hg0 : (w.drew.alloc (.cells C0 50)).heap[g]? = some (.cells cur 50 (0, 0)) := heap_alloc (w := w.drew) hh
  have hgl : g < w.heap.size := heap_lt hh
  have hvl : vb < w.heap.size := heap_lt hvb
  have HOA := Lib.hid (show Only (fun _ => False) w (w.drew.alloc (.cells C0 50)) from (Only.refl _ w).drew_.tr (Only.alloc _ _ _))
  obtain ⟨W1, hW1⟩ : ∃ W1, W1 = w.drew.alloc (.cells C0 50) := ⟨_, rfl⟩
  rw [← hW1] at hrun0 hh0 hvb0 hg0 HOA
  obtain ⟨w1, cur1, hr1, hh1, hc1, ho1⟩ := run_copyE (P := Try.prog) W1 42 42 50 2 w.heap.size (i * 2) 1 ⟨vb, 0, none⟩ C0 50 (ePair.cells x) Try.underlying42 pair_size hh0 rfl
    (fun j v hj => by
      rw [Addr.add_lit, cell_of_row W1 vb _ _ _ _ hvb0, Nat.zero_add]
      simpa using hj) (by rw [hC0s, hXl]; omega) hXone
  have hl1 : cur1.toList.length = cur1.size := by simp
  have hl0 : C0.toList.length = C0.size := by simp
  have hs1 : cur1.size = gc * 2 := by rw [← hl1, hc1, lay_len _ _ _ (by rw [hl0, hC0s, hXl]; omega), hl0, hC0s]
  obtain ⟨w2, cur2, hr2, hh2, hc2, ho2⟩ := run_copyE (P := Try.prog) w1.drew 42 42 50 2 w.heap.size ((i + 1) * 2) (n - i) ⟨g, off + i * 2, none⟩ cur1 50 B Try.underlying42 pair_size hh1 hBl
    (fun j v hj => by
      rw [Addr.add_lit]
      exact cell_split (w := w1.drew) (ho1.heap hg0 (fun h => by omega)) hcur (off + i * 2) (by omega) j v hj) (by rw [hs1]; omega) hBone
  have hl2 : cur2.toList.length = cur2.size := by simp
  have hs2 : cur2.size = gc * 2 := by rw [← hl2, hc2, lay_len _ _ _ (by rw [hl1, hs1]; omega), hl1, hs1]
  have hT : cur2.toList.take ((n + 1) * 2) = A ++ (ePair.cells x ++ B) := by
    have h := fill_cells A Z (ePair.cells x) B (by rw [hXl]; omega)
    rw [hXl, hAl, hBl, show i * 2 + 2 = (i + 1) * 2 by omega, ← hZ, ← hc1, ← hc2, show (i + 1) * 2 + (n - i) * 2 = (n + 1) * 2 by omega] at h
    exact h
  have HP := Lib.hid (show (n + 1 ≤ gc ∧ gc ≤ maxLen) ∧ (∃ cur', w2.heap[w.heap.size]? = some (.cells cur' 50 (0, 0)) ∧ gc * 2 ≤ cur'.size ∧ cur'.toList.take ((n + 1) * 2) = A ++ (ePair.cells x ++ B)) ∧ Only (fun _ => False) w w2 from
    ⟨⟨hge, hgm⟩, ⟨cur2, hh2, by omega, hT⟩, (HOA.out.trans ho1 (fun j hj h => by omega)).trans (Only.drew_ (Only.refl _ _) |>.tr ho2) (fun j hj h => by omega)⟩)
  have HR0 := Lib.hid hrun0
  have HR1 := Lib.hid hr1
  have HR2 := Lib.hid hr2
  have hz2 : ¬ ((i : Int) = (n : Int)) := by omega
  have hz3 : ((i : Int) == (n : Int)) = false := by simp; omega
  have hw1 : IntKind.i64.wrap ((i : Int) + 1) = (i : Int) + 1 := by rw [IntKind.wrap_i64]; omega
  have hw2 : IntKind.i64.wrap ((n : Int) + 1) = (n : Int) + 1 := by rw [IntKind.wrap_i64]; omega
  have htn : ((i : Int) + 1).toNat = i + 1 := by omega
  have hcast : (n : Int) + 1 - (i : Int) = ((n + 1 - i : Nat) : Int) := by omega
  have hb1 : (0 : Int) ≤ (i : Int) + 1 := by omega
  have hin : i ≤ n := by omega
  have hb2 : ¬ gc = i + 1 := by omega
  have hb4 : ¬ n = i := by omega
  have hb6 : ¬ gc = i := by omega
  have hb5 : i ≤ n + 1 := by omega
  have hb3 : (i : Int) ≤ (n : Int) + 1 := by omega
  have hb8 : (i : Int) ≤ ((n + 1 : Nat) : Int) := by omega
  clear hr1 hh1 hc1 ho1 hl1 hs1 hr2 hh2 hc2 ho2 hl2 hs2 hT hcur hP hR hAl hBl hBone hXone hXl hrun0 hh0 hvb0 hg0 hW1 hC0 hZ hZl hC0s hgc hz0 hz1 hi0 hold hl0 hh hvb hnk hgm hs
  go_enter Try.func61, Try.ntmps61
  have HR1' := Lib.hid (HR1.out 3 (n + 1 - i) (gc - i) 1 1 (by simp only [Nat.min_def]; split <;> omega))
  have HR2' := Lib.hid (HR2.out 3 (n - i) (gc - (i + 1)) (n - i) (n - i) (by simp only [Nat.min_def]; split <;> omega))
  clear HR1 HR2
  go_wp2_with (first | (at_builtin; refine wl_appendE rfl (.tmp 34) (.tmp 39) 42 3 rfl _ _ rfl rfl HR0.out ?_) | (refine wl_copyE rfl (.tmp 43) (.tmp 44) 42 42 rfl _ _ rfl rfl HR1'.out ?_))
  go_region_law (refine step_copyE rfl (.tmp 50) (.tmp 53) 42 42 rfl _ _ (by simp [Act.eval, Act.put]) (by simp [Act.eval, Act.put]) HR2'.out ?_)
  go_wp2_with fail
  go_ret
  exact ⟨gc, rfl, HP.out.1.1, HP.out.1.2, HP.out.2.1, HP.out.2.2⟩

def SliceIs (S : Nat → Prop) (ys : List PairD) (w : World) (e : Ending) (w' : World) : Prop :=
  ∃ v', e = .returned v' ∧ OwS ePair 50 (fun k => S k ∨ w.heap.size ≤ k) w' v' ys ∧ Only S w w'

set_option maxHeartbeats 400000 in
set_option maxRecDepth 100000 in
theorem insert_end (S : Nat → Prop) (v : Value) (xs : List PairD) (x : PairD) (w : World) (vb : Nat) (hown : OwS ePair 50 S w v xs) (hn1 : xs.length ≤ 1000)
    (hvb : w.heap[vb]? = some (.cells #[.int .u64 x.1, .int .u64 x.2] 50 (0, 0))) :
    Calls Try.prog 61 #[v, .int .i64 (xs.length : Int), .slice (some ⟨vb, 0, none⟩) 1 1] w (SliceIs S (xs ++ [x]) w) := by
  have HW := Lib.hid hown
  obtain ⟨⟨_, ao, cap, rfl, hlc, hcm, _, _⟩, _⟩ := hown
  have hrd : Rd ePair w (.slice (some ⟨vb, 0, none⟩) 1 1) [x] := ⟨by simp [maxLen], _, 1, rfl, by simp, fun h => by simp at h, fun _ => ⟨vb, 0, rfl, fun j u hj => by
    rw [cell_of_row w vb _ _ _ _ hvb, Nat.zero_add]
    simpa [Enc.all] using hj⟩⟩
  have HRD := Lib.hid hrd
  unfold maxLen at hcm
  clear hvb hrd
  have hnn : (0 : Int) ≤ (xs.length : Int) := by omega
  have heq : ((xs.length : Int) == (xs.length : Int)) = true := by simp
  by_cases hcn : cap = xs.length
  all_goals
   go_enter Try.func61, Try.ntmps61
   go_wp2_with (at_builtin; refine wl_appendS (E := ePair) rfl _ (.tmp 24) _ rfl 50 16 ePair_slice S _ xs rfl HW.out _ [x] rfl HRD.out (by simp; omega) (by unfold maxLen; simp; omega) ?_)
   intro v2 w2 h2 ho2
   go_wp2_with fail
   go_ret
   exact ⟨_, rfl, h2, ho2⟩

theorem insert_any (S : Nat → Prop) (v : Value) (xs : List PairD) (x : PairD) (i : Nat) (w : World) (vb : Nat) (hown : OwS ePair 50 S w v xs) (hi : i ≤ xs.length) (hn1 : xs.length ≤ 1000)
    (hvb : w.heap[vb]? = some (.cells #[.int .u64 x.1, .int .u64 x.2] 50 (0, 0))) (hS : ¬ S vb) :
    Calls Try.prog 61 #[v, .int .i64 (i : Int), .slice (some ⟨vb, 0, none⟩) 1 1] w (SliceIs S (xs.take i ++ x :: xs.drop i) w) := by
  by_cases h : i = xs.length
  · subst h
    have := insert_end S v xs x w vb hown hn1 hvb
    simpa using this
  · obtain ⟨g, off, cap, rfl⟩ := hown.1.some_ (by omega)
    obtain ⟨⟨hm, ao', cap', he, hlc, hcm, _, hx⟩, hSg⟩ := hown
    obtain ⟨rfl, _, rfl⟩ : some ⟨g, off, none⟩ = ao' ∧ xs.length = xs.length ∧ cap = cap' := by simpa using he
    obtain ⟨g', off', cur, hgo, _, hh, hs, ht⟩ := hx _ rfl
    obtain ⟨rfl, rfl⟩ : g = g' ∧ off = off' := by simpa using hgo
    have hgS : S g := hSg g rfl
    have hlen : (xs.take i ++ x :: xs.drop i).length = xs.length + 1 := by simp; omega
    have hne : vb ≠ g := fun h => hS (h ▸ hgS)
    by_cases hroom : xs.length + 1 ≤ cap
    · refine (insert_room g off cap i vb cur xs x w (by omega) hroom (by unfold maxLen at hcm; omega) hh hs ht hvb hne).mono ?_
      rintro e w' ⟨rfl, ⟨cur', h1, h2, h3⟩, ho⟩
      refine ⟨_, rfl, ⟨⟨by rw [hlen]; unfold maxLen; omega, some ⟨g, off, none⟩, cap, by rw [hlen], by rw [hlen]; exact hroom, hcm, fun h => by simp at h, fun a ha => ⟨g, off, cur', by simpa using ha.symm, Nat.zero_le _, h1, by rw [h2]; exact hs, by rw [hlen]; exact h3⟩⟩, fun k hk => .inl (by
        obtain rfl : g = k := by simpa [Value.ownBlock] using hk
        exact hgS)⟩, ho.mono fun k _ e => by subst e; exact hgS⟩
    · obtain rfl : cap = xs.length := by omega
      refine (insert_grow g off i vb cur xs x w (by omega) hn1 hh hs ht hvb).mono ?_
      rintro e w' ⟨c2, rfl, hc1, hc2, ⟨cur', h1, h2, h3⟩, ho⟩
      refine ⟨_, rfl, ⟨⟨by rw [hlen]; unfold maxLen; omega, some ⟨w.heap.size, 0, none⟩, c2, by rw [hlen], by rw [hlen]; exact hc1, hc2, fun h => by simp at h, fun a ha => ⟨w.heap.size, 0, cur', by simpa using ha.symm, Nat.zero_le _, h1, by rw [Nat.zero_add]; exact h2, by rw [hlen, List.drop_zero]; exact h3⟩⟩, fun k hk => .inr (by
        obtain rfl : w.heap.size = k := by simpa [Value.ownBlock] using hk
        exact Nat.le_refl _)⟩, ho.mono fun k _ h => h.elim⟩

set_option maxHeartbeats 400000 in
set_option maxRecDepth 100000 in
theorem delete_walk (g off cap i l : Nat) (cur : Array Value) (xs : List PairD) (w : World) (hi : i < xs.length) (hl : l + 1 = xs.length) (hc : ¬ cap = i + 1) (hcap : xs.length ≤ cap) (hcap2 : cap ≤ 9223372036854775807)
    (hh : w.heap[g]? = some (.cells cur 50 (0, 0))) (hs : off + cap * 2 ≤ cur.size) (ht : (cur.toList.drop off).take (xs.length * 2) = ePair.all xs) :
    Calls Try.prog 60 #[.slice (some ⟨g, off, none⟩) xs.length cap, .int .i64 i, .int .i64 ((i : Int) + 1)] w fun e w' =>
      e = .returned (.slice (some ⟨g, off, none⟩) l cap) ∧ InsPost g off l 50 cur.size (ePair.all (xs.take i ++ xs.drop (i + 1))) w w' := by
  obtain ⟨n, hn⟩ : ∃ n, n = xs.length := ⟨_, rfl⟩
  obtain ⟨P, R, hcur, hP, hR⟩ := row_split cur off i xs (by omega) (by omega) ht
  have hAl : (ePair.all (xs.take i)).length = i * 2 := by rw [ePair.all_len, List.length_take]; show min i xs.length * 2 = _; rw [Nat.min_eq_left (by omega)]
  have hBl : (ePair.all (xs.drop (i + 1))).length = (n - (i + 1)) * 2 := by rw [ePair.all_len, List.length_drop, ← hn]
  have hall : ePair.all (xs.take i ++ xs.drop (i + 1)) = ePair.all (xs.take i) ++ ePair.all (xs.drop (i + 1)) := Enc.all_append ..
  have hdr : ePair.all (xs.drop i) = ePair.cells xs[i] ++ ePair.all (xs.drop (i + 1)) := by rw [List.drop_eq_getElem_cons hi, Enc.all_cons]
  have hBone := ePair.all_one (xs.drop (i + 1))
  have hXl : (ePair.cells xs[i]).length = 2 := rfl
  rw [hall]
  rw [hdr] at hcur
  clear hall ht hdr
  obtain ⟨X, hX⟩ : ∃ X, X = ePair.cells xs[i] := ⟨_, rfl⟩
  rw [← hX] at hcur hXl
  clear hX
  rw [← hn] at hi hl hcap hR ⊢
  obtain ⟨A, hA⟩ : ∃ A, A = ePair.all (xs.take i) := ⟨_, rfl⟩
  obtain ⟨B, hB⟩ : ∃ B, B = ePair.all (xs.drop (i + 1)) := ⟨_, rfl⟩
  rw [← hA, ← hB] at hcur ⊢
  rw [← hA] at hAl
  rw [← hB] at hBl hBone
  clear hA hB hn
  obtain ⟨i0, hi0, hz0, hz1, hz2⟩ := info_parts (show (Try.prog.info? 50).map (fun i => (i.zero, i.size, i.bytes)) = some (some (.agg #[.int .u64 0, .int .u64 0]), 2, 16) by kernel_rfl)
  have hcs : cur.toList.length = cur.size := by simp
  obtain ⟨src, hsrc⟩ : ∃ src, src = if cap = i + 1 then some (⟨g, off, none⟩ : Addr) else some ⟨g, off + (i + 1) * 2, none⟩ := ⟨_, rfl⟩
  obtain ⟨w1, cur1, hr1, hh1, hc1, ho1⟩ := run_appendIn (P := Try.prog) w.drew 42 50 i0 g off i (n - (i + 1)) cap src cur 50 B Try.underlying42 hi0 hh (by rw [hz1]; exact hBl)
    (fun h0 => ⟨⟨g, off + (i + 1) * 2, none⟩, by rw [hsrc, if_neg (by omega)], fun j v hj => by
      rw [Addr.add_lit]
      exact cell_split (w := w.drew) hh (P := P) (A := A ++ X) (B := B) (R := R) (by rw [hcur]; simp) (off + (i + 1) * 2) (by rw [List.length_append, hAl, hXl]; omega) j v hj⟩)
    hBone (by omega) (by rw [hz1, hBl]; omega)
  rw [hz1] at hc1
  rw [show i + (n - (i + 1)) = l by omega] at hr1
  have hl1 : cur1.toList.length = cur1.size := by simp
  have hs1 : cur1.size = cur.size := by rw [← hl1, hc1, lay_len _ _ _ (by rw [hcs, hBl]; omega), hcs]
  have hzl : (Builtin.zeroCells (Value.agg #[.int .u64 0, .int .u64 0]).cells 1).size = 2 := size_zeroCells ..
  have hzz : (Builtin.zeroCells (Value.agg #[.int .u64 0, .int .u64 0]).cells 1).toList = [.int .u64 0, .int .u64 0] := by kernel_rfl
  obtain ⟨w2, cur2, hr2, hh2, hc2, ho2⟩ := run_clearE (P := Try.prog) w1 42 50 i0 _ g (off + l * 2) 1 cur1 50 Try.underlying42 hi0 hz0 (by omega) hh1 (by rw [hzl, hs1]; omega)
    (fun v hv => by
      rw [hzz] at hv
      simp at hv; subst hv; rfl)
  have hl2 : cur2.toList.length = cur2.size := by simp
  have hzl' : (Builtin.zeroCells (Value.agg #[.int .u64 0, .int .u64 0]).cells 1).toList.length = 2 := by rw [Array.length_toList, hzl]
  have hs2 : cur2.size = cur.size := by rw [← hl2, hc2, lay_len _ _ _ (by rw [hl1, hs1, hzl']; omega), hl1, hs1]
  have hT : (cur2.toList.drop off).take (l * 2) = A ++ B := by
    have h := del_cells P A X B R (Builtin.zeroCells (Value.agg #[.int .u64 0, .int .u64 0]).cells 1).toList (by rw [hzl', hXl]) cur.toList (by rw [hcur]; simp)
    rw [hP, hAl, hBl, ← hc1, show off + i * 2 + (n - (i + 1)) * 2 = off + l * 2 by omega, ← hc2, show i * 2 + (n - (i + 1)) * 2 = l * 2 by omega] at h
    exact h
  have HP := Lib.hid (show (∃ cur', w2.heap[g]? = some (.cells cur' 50 (0, 0)) ∧ cur'.size = cur.size ∧ (cur'.toList.drop off).take (l * 2) = A ++ B) ∧ Only (fun k => k = g) w w2 from
    ⟨⟨cur2, hh2, hs2, hT⟩, ((Only.refl _ w).drew_.tr ho1).tr ho2⟩)
  have e1 : n - l = 1 := by omega
  have HR2 := Lib.hid (show (Builtin.clear_ #[42] 0 #[.slice (some ⟨g, off + l * 2, none⟩) (n - l) (cap - l)]).run Try.prog w1 = .ok (.tuple #[]) w2 from by rw [e1]; exact hr2 _ _)
  have HR1 := Lib.hid hr1
  have HSRC := Lib.hid hsrc
  have hne : ((i : Int) == (i : Int) + 1) = false := by simp; omega
  have hne2 : ¬ ((i : Int) = (i : Int) + 1) := by omega
  have hb1 : (0 : Int) ≤ (i : Int) + 1 := by omega
  have hb2 : (i : Int) + 1 ≤ (n : Int) := by omega
  have hb3 : i + 1 ≤ n := by omega
  have hb4 : i ≤ n := by omega
  have hb5 : i ≤ cap := by omega
  have hb6 : l ≤ n := by omega
  have hb7 : (l : Int) ≤ (n : Int) := by omega
  have hb8 : n ≤ cap := by omega
  have hb9 : ¬ cap = l := by omega
  have hb10 : ¬ n = i := by omega
  have hb11 : ¬ cap = i := by omega
  have htn : ((i : Int) + 1).toNat = i + 1 := by omega
  clear hr1 hh1 hc1 ho1 hl1 hs1 hr2 hh2 hc2 ho2 hl2 hs2 hT hcur hP hR hAl hBl hBone hXl hzl hzl' hzz hz0 hz1 hz2 hi0 hh hs hcs hsrc e1
  have HS2 := Lib.hid (HSRC.out.trans (if_neg hc))
  have HR1' := Lib.hid (HR1.out 42 (cap - (i + 1)))
  rw [HS2.out] at HR1'
  clear HS2 HSRC HR1
  go_enter Try.func60, Try.ntmps60
  go_wp2_with fail
  go_region_law (refine step_appendE rfl (.tmp 22) (.tmp 25) 42 42 rfl _ _ (by simp [Act.eval, Act.put]) (by simp [Act.eval, Act.put]) HR1'.out ?_)
  go_wp2_with (refine wl_clearE rfl (.tmp 31) 42 rfl _ rfl HR2.out ?_)
  go_ret
  exact ⟨rfl, HP.out⟩

set_option maxHeartbeats 400000 in
set_option maxRecDepth 100000 in
theorem delete_last (g off i : Nat) (cur : Array Value) (xs : List PairD) (w : World) (hi : xs.length = i + 1) (hcap2 : i + 1 ≤ 9223372036854775807)
    (hh : w.heap[g]? = some (.cells cur 50 (0, 0))) (hs : off + (i + 1) * 2 ≤ cur.size) (ht : (cur.toList.drop off).take (xs.length * 2) = ePair.all xs) :
    Calls Try.prog 60 #[.slice (some ⟨g, off, none⟩) (i + 1) (i + 1), .int .i64 i, .int .i64 ((i : Int) + 1)] w fun e w' =>
      e = .returned (.slice (some ⟨g, off, none⟩) i (i + 1)) ∧ InsPost g off i 50 cur.size (ePair.all (xs.take i)) w w' := by
  obtain ⟨P, R, hcur, hP, hR⟩ := row_split cur off i xs (by omega) (by omega) ht
  have hAl : (ePair.all (xs.take i)).length = i * 2 := by rw [ePair.all_len, List.length_take]; show min i xs.length * 2 = _; rw [Nat.min_eq_left (by omega)]
  obtain ⟨A, hA⟩ : ∃ A, A = ePair.all (xs.take i) := ⟨_, rfl⟩
  rw [← hA] at hcur hAl ⊢
  obtain ⟨i0, hi0, hz0, hz1, hz2⟩ := info_parts (show (Try.prog.info? 50).map (fun i => (i.zero, i.size, i.bytes)) = some (some (.agg #[.int .u64 0, .int .u64 0]), 2, 16) by kernel_rfl)
  have hcs : cur.toList.length = cur.size := by simp
  have hzl : (Builtin.zeroCells (Value.agg #[.int .u64 0, .int .u64 0]).cells 1).size = 2 := size_zeroCells ..
  have hzz : (Builtin.zeroCells (Value.agg #[.int .u64 0, .int .u64 0]).cells 1).toList = [.int .u64 0, .int .u64 0] := by kernel_rfl
  obtain ⟨w2, cur2, hr2, hh2, hc2, ho2⟩ := run_clearE (P := Try.prog) w.drew 42 50 i0 _ g (off + i * 2) 1 cur 50 Try.underlying42 hi0 hz0 (by omega) hh (by rw [hzl]; omega)
    (fun v hv => by
      rw [hzz] at hv
      simp at hv; subst hv; rfl)
  have hl2 : cur2.toList.length = cur2.size := by simp
  have hs2 : cur2.size = cur.size := by rw [← hl2, hc2, lay_len _ _ _ (by rw [hzz, hcs]; show _ + 2 ≤ _; omega), hcs]
  have hT : (cur2.toList.drop off).take (i * 2) = A := by
    rw [hc2, hcur, hzz]
    have h := lay_at P A (ePair.all (xs.drop i) ++ R) [.int .u64 0, .int .u64 0] (by rw [List.length_append, ePair.all_len, List.length_drop, hi]; show 2 ≤ (i + 1 - i) * 2 + _; omega)
    rw [hP, hAl] at h
    rw [h, ← hP, List.drop_left' rfl, ← hAl, List.take_left' rfl]
  have HP := Lib.hid (show (∃ cur', w2.heap[g]? = some (.cells cur' 50 (0, 0)) ∧ cur'.size = cur.size ∧ (cur'.toList.drop off).take (i * 2) = A) ∧ Only (fun k => k = g) w w2 from
    ⟨⟨cur2, hh2, hs2, hT⟩, (Only.refl _ w).drew_.tr ho2⟩)
  have HR1 := Lib.hid (run_append_empty (P := Try.prog) (w := w.drew) 42 42 50 i0 Try.underlying42 hi0 (some ⟨g, off, none⟩) i (i + 1) (by omega) (some ⟨g, off, none⟩) 0)
  have HR2 := Lib.hid (show (Builtin.clear_ #[42] 0 #[.slice (some ⟨g, off + i * 2, none⟩) 1 1]).run Try.prog w.drew = .ok (.tuple #[]) w2 from hr2 _ _)
  have hne : ((i : Int) == (i : Int) + 1) = false := by simp; omega
  have hb1 : (0 : Int) ≤ (i : Int) + 1 := by omega
  have hb4 : i ≤ i + 1 := by omega
  have hb7 : (i : Int) ≤ (i : Int) + 1 := by omega
  have htn : ((i : Int) + 1).toNat = i + 1 := by omega
  clear hr2 hh2 hc2 ho2 hl2 hs2 hT hcur hP hR hAl hA hzl hzz hz0 hz1 hz2 hi0 hh hs hcs hi ht
  go_enter Try.func60, Try.ntmps60
  go_wp2_with fail
  go_region_law (refine step_appendE rfl (.tmp 22) (.tmp 25) 42 42 rfl _ _ (by simp [Act.eval, Act.put]) (by simp [Act.eval, Act.put]) HR1.out ?_)
  go_wp2_with (refine wl_clearE rfl (.tmp 31) 42 rfl _ rfl HR2.out ?_)
  go_ret
  exact ⟨rfl, HP.out⟩

theorem delete_any (S : Nat → Prop) (v : Value) (xs : List PairD) (i : Nat) (w : World) (hown : OwS ePair 50 S w v xs) (hi : i < xs.length) :
    Calls Try.prog 60 #[v, .int .i64 (i : Int), .int .i64 ((i : Int) + 1)] w (SliceIs S (xs.take i ++ xs.drop (i + 1)) w) := by
  obtain ⟨g, off, cap, rfl⟩ := hown.1.some_ (by omega)
  obtain ⟨⟨hm, ao', cap', he, hlc, hcm, _, hx⟩, hSg⟩ := hown
  obtain ⟨rfl, _, rfl⟩ : some ⟨g, off, none⟩ = ao' ∧ xs.length = xs.length ∧ cap = cap' := by simpa using he
  obtain ⟨g', off', cur, hgo, _, hh, hs, ht⟩ := hx _ rfl
  obtain ⟨rfl, rfl⟩ : g = g' ∧ off = off' := by simpa using hgo
  have hgS : S g := hSg g rfl
  have hlen : (xs.take i ++ xs.drop (i + 1)).length = xs.length - 1 := by simp; omega
  have fin : ∀ e w', e = .returned (.slice (some ⟨g, off, none⟩) (xs.length - 1) cap) → InsPost g off (xs.length - 1) 50 cur.size (ePair.all (xs.take i ++ xs.drop (i + 1))) w w' → SliceIs S (xs.take i ++ xs.drop (i + 1)) w e w' := by
    rintro e w' rfl ⟨⟨cur', h1, h2, h3⟩, ho⟩
    exact ⟨_, rfl, ⟨⟨by rw [hlen]; unfold maxLen at *; omega, some ⟨g, off, none⟩, cap, by rw [hlen], by rw [hlen]; omega, hcm, fun h => by simp at h, fun a ha => ⟨g, off, cur', by simpa using ha.symm, Nat.zero_le _, h1, by rw [h2]; exact hs, by rw [hlen]; exact h3⟩⟩, fun k hk => .inl (by
        obtain rfl : g = k := by simpa [Value.ownBlock] using hk
        exact hgS)⟩, ho.mono fun k _ e => by subst e; exact hgS⟩
  unfold maxLen at hcm
  by_cases hc : cap = i + 1
  · have hl : xs.length = i + 1 := by omega
    subst hc
    have hd : xs.drop (i + 1) = [] := List.drop_eq_nil_of_le (by omega)
    have h := delete_last g off i cur xs w hl (by omega) hh hs ht
    rw [hl] at fin ⊢
    refine h.mono ?_
    rintro e w' ⟨he, hp⟩
    rw [hd, List.append_nil] at fin ⊢
    exact fin e w' he hp
  · refine (delete_walk g off cap i (xs.length - 1) cur xs w hi (by omega) hc hlc (by omega) hh hs ht).mono ?_
    rintro e w' ⟨he, hp⟩
    exact fin e w' he hp

theorem eU64_sl : SliceInfo Try.prog 93 33 eU64.size 8 := SliceInfo.mk' Try.underlying93 (z := .int .u64 0) (by kernel_rfl) rfl
theorem u64_size : (Try.prog.info? 33).map (·.size) = some 1 := by kernel_rfl
/-- a row in its parts -/
theorem urow_split (cur : Array Value) (off i : Nat) (xs : List Int) (hi : i ≤ xs.length) (hs : off + xs.length ≤ cur.size) (ht : (cur.toList.drop off).take (xs.length) = eU64.all xs) :
    ∃ P R, cur.toList = P ++ (eU64.all (xs.take i) ++ (eU64.all (xs.drop i) ++ R)) ∧ P.length = off ∧ off + xs.length + R.length = cur.size := by
  refine ⟨cur.toList.take off, cur.toList.drop (off + xs.length), ?_, by simp; omega, by simp; omega⟩
  have h1 : eU64.all (xs.take i) ++ eU64.all (xs.drop i) = eU64.all xs := by rw [← Enc.all_append, List.take_append_drop]
  rw [← List.append_assoc (eU64.all (xs.take i)), h1, ← ht, ← List.drop_drop, List.take_append_drop, List.take_append_drop]
/-- what Insert leaves of a row -/
def UInsPost (g off n ty : Nat) (size : Nat) (ys : List Value) (w w' : World) : Prop :=
  (∃ cur', w'.heap[g]? = some (.cells cur' ty (0, 0)) ∧ cur'.size = size ∧ (cur'.toList.drop off).take (n) = ys) ∧ Only (fun k => k = g) w w'

set_option maxHeartbeats 400000 in
set_option maxRecDepth 100000 in
theorem uins_room (g off cap i vb : Nat) (cur : Array Value) (xs : List Int) (x : Int) (w : World) (hi : i < xs.length) (hroom : xs.length + 1 ≤ cap) (hcap : cap ≤ 9223372036854775807)
    (hh : w.heap[g]? = some (.cells cur 33 (0, 0))) (hs : off + cap ≤ cur.size) (ht : (cur.toList.drop off).take (xs.length) = eU64.all xs)
    (hvb : w.heap[vb]? = some (.cells #[.int .u64 x] 33 (0, 0))) (hne : vb ≠ g) :
    Calls Try.prog 73 #[.slice (some ⟨g, off, none⟩) xs.length cap, .int .i64 i, .slice (some ⟨vb, 0, none⟩) 1 1] w fun e w' =>
      e = .returned (.slice (some ⟨g, off, none⟩) (xs.length + 1) cap) ∧ UInsPost g off (xs.length + 1) 33 cur.size (eU64.all (xs.take i ++ x :: xs.drop i)) w w' := by
  have hov : ∀ (W : World) lb cb, W.heap[g]? = some (.cells cur 33 (0, 0)) → W.heap[vb]? = some (.cells #[.int .u64 x] 33 (0, 0)) →
      (callFunc 76 #[.slice (some ⟨vb, 0, none⟩) 1 1, .slice (some ⟨g, off + (i + 1), none⟩) lb cb]).run Try.prog W = .ok (.value (.bool false)) W := fun W lb cb h1 h2 => by
    rw [run_callFunc_extern Try.func76 (by kernel_rfl) (by kernel_rfl) (by kernel_rfl) (e := Extern.SlicesOverlaps.overlaps #[93, 93] #[4]) (by kernel_rfl),
      Lib.run_overlaps_apart W 93 4 33 Try.underlying93 1 (fun _ => by kernel_rfl) ⟨vb, 0, none⟩ ⟨g, off + (i + 1), none⟩ 1 1 lb cb hne 33 33 1 cur.size
        (by simp [World.shape?, h2]) (by simp [World.shape?, h1]) (by omega) (by simp [World.frozen?, h2]) (by simp [World.frozen?, h2])]
    rfl
  obtain ⟨n, hn⟩ : ∃ n, n = xs.length := ⟨_, rfl⟩
  obtain ⟨P, R, hcur, hP, hR⟩ := urow_split cur off i xs (by omega) (by omega) ht
  have hAl : (eU64.all (xs.take i)).length = i := by have h : (eU64.all (xs.take i)).length = (xs.take i).length * 1 := eU64.all_len _; rw [h, List.length_take]; omega
  have hBl : (eU64.all (xs.drop i)).length = (n - i) := by have h : (eU64.all (xs.drop i)).length = (xs.drop i).length * 1 := eU64.all_len _; rw [h, List.length_drop]; omega
  have hall : eU64.all (xs.take i ++ x :: xs.drop i) = eU64.all (xs.take i) ++ (eU64.cells x ++ eU64.all (xs.drop i)) := by rw [Enc.all_append, Enc.all_cons]
  have hBone := eU64.all_one (xs.drop i)
  have hXone := eU64.one x
  have hXl : (eU64.cells x).length = 1 := rfl
  have hsz2 : cur.toList.length = cur.size := by simp
  rw [hall]
  clear hall ht
  rw [← hn] at hi hroom hR ⊢
  obtain ⟨A, hA⟩ : ∃ A, A = eU64.all (xs.take i) := ⟨_, rfl⟩
  obtain ⟨B, hB⟩ : ∃ B, B = eU64.all (xs.drop i) := ⟨_, rfl⟩
  rw [← hA, ← hB] at hcur ⊢
  rw [← hA] at hAl
  rw [← hB] at hBl hBone
  clear hA hB hn
  obtain ⟨w1, cur1, hr1, hh1, hc1, ho1⟩ := run_copyE (P := Try.prog) w.drew 93 93 33 1 g (off + (i + 1)) (n - i) ⟨g, off + i, none⟩ cur 33 B Try.underlying93 u64_size hh (hBl.trans (Nat.mul_one _).symm)
    (fun j v hj => by rw [Addr.add_lit]; exact cell_split (w := w.drew) hh hcur (off + i) (by omega) j v hj) (by omega) hBone
  have hl1 : cur1.toList.length = cur1.size := by simp
  have hs1 : cur1.size = cur.size := by rw [← hl1, hc1, lay_len _ _ _ (by rw [hsz2]; omega), hsz2]
  obtain ⟨w2, cur2, hr2, hh2, hc2, ho2⟩ := run_copyE (P := Try.prog) w1 93 93 33 1 g (off + i) 1 ⟨vb, 0, none⟩ cur1 33 (eU64.cells x) Try.underlying93 u64_size hh1 rfl
    (fun j v hj => by
      rw [Addr.add_lit, cell_of_row w1 vb _ _ _ _ (ho1.heap (w := w.drew) hvb (fun h => hne h)), Nat.zero_add]
      exact (Array.getElem?_toList).symm.trans hj) (by rw [hs1, hXl]; omega) hXone
  have hl2 : cur2.toList.length = cur2.size := by simp
  have hs2 : cur2.size = cur.size := by rw [← hl2, hc2, lay_len _ _ _ (by rw [hl1, hs1, hXl]; omega), hl1, hs1]
  have hT : (cur2.toList.drop off).take ((n + 1)) = A ++ (eU64.cells x ++ B) := by
    have h := ins_cells P A B R (eU64.cells x) (by rw [hXl]; omega) cur.toList hcur
    rw [hXl, hP, hAl, hBl, show off + i + 1 = off + (i + 1) by omega, ← hc1, ← hc2, show i + 1 + (n - i) = (n + 1) by omega] at h
    exact h
  have HP := Lib.hid (show (∃ cur', w2.heap[g]? = some (.cells cur' 33 (0, 0)) ∧ cur'.size = cur.size ∧ (cur'.toList.drop off).take ((n + 1)) = A ++ (eU64.cells x ++ B)) ∧ Only (fun k => k = g) w w2 from
    ⟨⟨cur2, hh2, hs2, hT⟩, ((Only.refl _ w).drew_.tr ho1).tr ho2⟩)
  have HR1 := Lib.hid hr1
  have HR2 := Lib.hid hr2
  have hb1 : (0 : Int) ≤ (i : Int) + 1 := by omega
  have hin : i ≤ n := by omega
  have hb2 : ¬ cap = i + 1 := by omega
  have hb4 : ¬ cap = i := by omega
  have hb3 : (i : Int) ≤ (n : Int) + 1 := by omega
  have hb5 : i ≤ n + 1 := by omega
  clear hr1 hh1 hc1 ho1 hl1 hs1 hr2 hh2 hc2 ho2 hl2 hs2 hT hcur hP hR hAl hBl hBone hXone hXl hsz2
  have HOV := Lib.hid (fun lb cb => hov w lb cb hh hvb)
  have hz2 : ¬ ((i : Int) = (n : Int)) := by omega
  have hz3 : ((i : Int) == (n : Int)) = false := by simp; omega
  have hw1 : IntKind.i64.wrap ((i : Int) + 1) = (i : Int) + 1 := by rw [IntKind.wrap_i64]; omega
  have hw2 : IntKind.i64.wrap ((n : Int) + 1) = (n : Int) + 1 := by rw [IntKind.wrap_i64]; omega
  have htn : ((i : Int) + 1).toNat = i + 1 := by omega
  have htn2 : ((n : Int) + 1).toNat = n + 1 := by omega
  have HH := Lib.hid hh
  have HVB := Lib.hid hvb
  clear hov hh hvb
  go_enter Try.func73, Try.ntmps73
  go_wp2_with (simp only [HOV.out])
  go_region_law (refine step_copyE rfl (.tmp 73) (.tmp 76) 93 93 rfl _ _ (by simp [Act.eval, Act.put]) (by simp [Act.eval, Act.put]) (HR1.out _ (n - i) (cap - (i + 1)) (n + 1 - i) (cap - i) (by simp only [Nat.min_def]; split <;> omega)) ?_)
  go_wp2_with (refine wl_copyE rfl _ _ 93 93 rfl _ _ rfl rfl (HR2.out _ (n + 1 - i) (cap - i) 1 1 (by simp only [Nat.min_def]; split <;> omega)) ?_)
  go_ret
  exact ⟨rfl, HP.out⟩

def UGrowPost (n ty : Nat) (ys : List Value) (w : World) (e : Ending) (w' : World) : Prop :=
  ∃ cap, e = .returned (.slice (some ⟨w.heap.size, 0, none⟩) n cap) ∧ n ≤ cap ∧ cap ≤ maxLen ∧ (∃ cur', w'.heap[w.heap.size]? = some (.cells cur' ty (0, 0)) ∧ cap ≤ cur'.size ∧ cur'.toList.take (n) = ys) ∧ Only (fun _ => False) w w'

set_option maxHeartbeats 400000 in
set_option maxRecDepth 100000 in
theorem uins_grow (g off i vb : Nat) (cur : Array Value) (xs : List Int) (x : Int) (w : World) (hi : i < xs.length) (hn1 : xs.length ≤ 1000)
    (hh : w.heap[g]? = some (.cells cur 33 (0, 0))) (hs : off + xs.length ≤ cur.size) (ht : (cur.toList.drop off).take (xs.length) = eU64.all xs)
    (hvb : w.heap[vb]? = some (.cells #[.int .u64 x] 33 (0, 0))) :
    Calls Try.prog 73 #[.slice (some ⟨g, off, none⟩) xs.length xs.length, .int .i64 i, .slice (some ⟨vb, 0, none⟩) 1 1] w
      (UGrowPost (xs.length + 1) 33 (eU64.all (xs.take i ++ x :: xs.drop i)) w) := by
  obtain ⟨n, hn⟩ : ∃ n, n = xs.length := ⟨_, rfl⟩
  obtain ⟨P, R, hcur, hP, hR⟩ := urow_split cur off i xs (by omega) (by omega) ht
  have hAl : (eU64.all (xs.take i)).length = i := by have h : (eU64.all (xs.take i)).length = (xs.take i).length * 1 := eU64.all_len _; rw [h, List.length_take]; omega
  have hBl : (eU64.all (xs.drop i)).length = (n - i) := by have h : (eU64.all (xs.drop i)).length = (xs.drop i).length * 1 := eU64.all_len _; rw [h, List.length_drop]; omega
  have hall : eU64.all (xs.take i ++ x :: xs.drop i) = eU64.all (xs.take i) ++ (eU64.cells x ++ eU64.all (xs.drop i)) := by rw [Enc.all_append, Enc.all_cons]
  have hBone := eU64.all_one (xs.drop i)
  have hXone := eU64.one x
  have hXl : (eU64.cells x).length = 1 := rfl
  rw [hall]
  clear hall ht
  rw [← hn] at hi hn1 hR hs ⊢
  obtain ⟨A, hA⟩ : ∃ A, A = eU64.all (xs.take i) := ⟨_, rfl⟩
  obtain ⟨B, hB⟩ : ∃ B, B = eU64.all (xs.drop i) := ⟨_, rfl⟩
  rw [← hA, ← hB] at hcur ⊢
  rw [← hA] at hAl
  rw [← hB] at hBl hBone
  clear hA hB hn
  obtain ⟨i0, hi0, hz0, hz1, hz2⟩ := info_parts (show (Try.prog.info? 33).map (fun i => (i.zero, i.size, i.bytes)) = some (some (.int .u64 0), 1, 8) by kernel_rfl)
  have hold : (Builtin.firstCells i0.size i (.slice (some ⟨g, off, none⟩) i n)).run Try.prog w.drew = .ok A.toArray w.drew := by
    rw [hz1]
    have hl := run_loadCells_list (P := Try.prog) w.drew ⟨g, off, none⟩ A (fun j v hj => by
      rw [Addr.add_lit]
      have := cell_split (w := w.drew) (fr := (0, 0)) (g := g) (cur := cur) (ty := 33) hh (P := P) (A := []) (B := A) (R := B ++ R) (by simpa using hcur) off (by simp [hP]) j v hj
      exact this)
    rw [hAl] at hl
    simpa [Builtin.firstCells] using hl
  have hrun0 := Lib.run_append_grow_zeros (P := Try.prog) w 93 3 93 33 i0 _ .i64 .i64 Try.underlying93 Try.underlying3 hi0 hz0 (some ⟨g, off, none⟩) i n A hold (n + 1 - i) (by omega) (by omega) (by omega) (by omega) (by rw [hz2]; omega)
    (by rw [hz2]; exact grow_fits (by omega) (by omega))
  have hnk : i + (n + 1 - i) = n + 1 := by omega
  rw [hnk] at hrun0
  have hge := grownCap_ge w (n + 1) n 33
  have hgm := grownCap_le_maxLen w (n + 1) n 33 (by unfold maxLen; omega)
  obtain ⟨gc, hgc⟩ : ∃ gc, gc = grownCap w (n + 1) n 33 := ⟨_, rfl⟩
  rw [← hgc] at hrun0 hge hgm
  obtain ⟨C0, hC0⟩ : ∃ C0, C0 = A.toArray ++ Builtin.zeroCells (Value.int .u64 0).cells (n + 1 - i) ++ Builtin.zeroCells (Value.int .u64 0).cells (gc - (n + 1)) := ⟨_, rfl⟩
  rw [← hC0] at hrun0
  have hC0l : ∃ Z, C0.toList = A ++ Z ∧ Z.length = (gc - i) := by
    refine ⟨_, by rw [hC0, Array.toList_append, Array.toList_append, List.append_assoc], ?_⟩
    rw [List.length_append, Array.length_toList, Array.length_toList, size_zeroCells, size_zeroCells]
    show (n + 1 - i) * 1 + (gc - (n + 1)) * 1 = _
    omega
  obtain ⟨Z, hZ, hZl⟩ := hC0l
  have hC0s : C0.size = gc := by rw [← Array.length_toList, hZ, List.length_append, hAl, hZl]; omega
  have hh0 : (w.drew.alloc (.cells C0 33)).heap[w.heap.size]? = some (.cells C0 33 (0, 0)) := heap_alloc_new w.drew _
  have hvb0 : (w.drew.alloc (.cells C0 33)).heap[vb]? = some (.cells #[.int .u64 x] 33 (0, 0)) := heap_alloc (w := w.drew) hvb
  have hg0 : (w.drew.alloc (.cells C0 33)).heap[g]? = some (.cells cur 33 (0, 0)) := heap_alloc (w := w.drew) hh
  have hgl : g < w.heap.size := heap_lt hh
  have hvl : vb < w.heap.size := heap_lt hvb
  have HOA := Lib.hid (show Only (fun _ => False) w (w.drew.alloc (.cells C0 33)) from (Only.refl _ w).drew_.tr (Only.alloc _ _ _))
  obtain ⟨W1, hW1⟩ : ∃ W1, W1 = w.drew.alloc (.cells C0 33) := ⟨_, rfl⟩
  rw [← hW1] at hrun0 hh0 hvb0 hg0 HOA
  obtain ⟨w1, cur1, hr1, hh1, hc1, ho1⟩ := run_copyE (P := Try.prog) W1 93 93 33 1 w.heap.size i 1 ⟨vb, 0, none⟩ C0 33 (eU64.cells x) Try.underlying93 u64_size hh0 rfl
    (fun j v hj => by
      rw [Addr.add_lit, cell_of_row W1 vb _ _ _ _ hvb0, Nat.zero_add]
      exact (Array.getElem?_toList).symm.trans hj) (by rw [hC0s, hXl]; omega) hXone
  have hl1 : cur1.toList.length = cur1.size := by simp
  have hl0 : C0.toList.length = C0.size := by simp
  have hs1 : cur1.size = gc := by rw [← hl1, hc1, lay_len _ _ _ (by rw [hl0, hC0s, hXl]; omega), hl0, hC0s]
  obtain ⟨w2, cur2, hr2, hh2, hc2, ho2⟩ := run_copyE (P := Try.prog) w1.drew 93 93 33 1 w.heap.size (i + 1) (n - i) ⟨g, off + i, none⟩ cur1 33 B Try.underlying93 u64_size hh1 (hBl.trans (Nat.mul_one _).symm)
    (fun j v hj => by
      rw [Addr.add_lit]
      exact cell_split (w := w1.drew) (ho1.heap hg0 (fun h => by omega)) hcur (off + i) (by omega) j v hj) (by rw [hs1]; omega) hBone
  have hl2 : cur2.toList.length = cur2.size := by simp
  have hs2 : cur2.size = gc := by rw [← hl2, hc2, lay_len _ _ _ (by rw [hl1, hs1]; omega), hl1, hs1]
  have hT : cur2.toList.take ((n + 1)) = A ++ (eU64.cells x ++ B) := by
    have h := fill_cells A Z (eU64.cells x) B (by rw [hXl]; omega)
    rw [hXl, hAl, hBl, show i + 1 = (i + 1) by omega, ← hZ, ← hc1, ← hc2, show (i + 1) + (n - i) = (n + 1) by omega] at h
    exact h
  have HP := Lib.hid (show (n + 1 ≤ gc ∧ gc ≤ maxLen) ∧ (∃ cur', w2.heap[w.heap.size]? = some (.cells cur' 33 (0, 0)) ∧ gc ≤ cur'.size ∧ cur'.toList.take ((n + 1)) = A ++ (eU64.cells x ++ B)) ∧ Only (fun _ => False) w w2 from
    ⟨⟨hge, hgm⟩, ⟨cur2, hh2, by omega, hT⟩, (HOA.out.trans ho1 (fun j hj h => by omega)).trans (Only.drew_ (Only.refl _ _) |>.tr ho2) (fun j hj h => by omega)⟩)
  have HR0 := Lib.hid hrun0
  have HR1 := Lib.hid hr1
  have HR2 := Lib.hid hr2
  have hz2 : ¬ ((i : Int) = (n : Int)) := by omega
  have hz3 : ((i : Int) == (n : Int)) = false := by simp; omega
  have hw1 : IntKind.i64.wrap ((i : Int) + 1) = (i : Int) + 1 := by rw [IntKind.wrap_i64]; omega
  have hw2 : IntKind.i64.wrap ((n : Int) + 1) = (n : Int) + 1 := by rw [IntKind.wrap_i64]; omega
  have htn : ((i : Int) + 1).toNat = i + 1 := by omega
  have hcast : (n : Int) + 1 - (i : Int) = ((n + 1 - i : Nat) : Int) := by omega
  have hb1 : (0 : Int) ≤ (i : Int) + 1 := by omega
  have hin : i ≤ n := by omega
  have hb2 : ¬ gc = i + 1 := by omega
  have hb4 : ¬ n = i := by omega
  have hb6 : ¬ gc = i := by omega
  have hb5 : i ≤ n + 1 := by omega
  have hb3 : (i : Int) ≤ (n : Int) + 1 := by omega
  have hb8 : (i : Int) ≤ ((n + 1 : Nat) : Int) := by omega
  clear hr1 hh1 hc1 ho1 hl1 hs1 hr2 hh2 hc2 ho2 hl2 hs2 hT hcur hP hR hAl hBl hBone hXone hXl hrun0 hh0 hvb0 hg0 hW1 hC0 hZ hZl hC0s hgc hz0 hz1 hi0 hold hl0 hh hvb hnk hgm hs
  go_enter Try.func73, Try.ntmps73
  have HR1' := Lib.hid (HR1.out 3 (n + 1 - i) (gc - i) 1 1 (by simp only [Nat.min_def]; split <;> omega))
  have HR2' := Lib.hid (HR2.out 3 (n - i) (gc - (i + 1)) (n - i) (n - i) (by simp only [Nat.min_def]; split <;> omega))
  clear HR1 HR2
  go_wp2_with (first | (at_builtin; refine wl_appendE rfl (.tmp 34) (.tmp 39) 93 3 rfl _ _ rfl rfl HR0.out ?_) | (refine wl_copyE rfl (.tmp 43) (.tmp 44) 93 93 rfl _ _ rfl rfl HR1'.out ?_))
  go_region_law (refine step_copyE rfl (.tmp 50) (.tmp 53) 93 93 rfl _ _ (by simp [Act.eval, Act.put]) (by simp [Act.eval, Act.put]) HR2'.out ?_)
  go_wp2_with fail
  go_ret
  exact ⟨gc, rfl, HP.out.1.1, HP.out.1.2, HP.out.2.1, HP.out.2.2⟩

def USliceIs (S : Nat → Prop) (ys : List Int) (w : World) (e : Ending) (w' : World) : Prop :=
  ∃ v', e = .returned v' ∧ OwS eU64 33 (fun k => S k ∨ w.heap.size ≤ k) w' v' ys ∧ Only S w w'

set_option maxHeartbeats 400000 in
set_option maxRecDepth 100000 in
theorem uins_end (S : Nat → Prop) (v : Value) (xs : List Int) (x : Int) (w : World) (vb : Nat) (hown : OwS eU64 33 S w v xs) (hn1 : xs.length ≤ 1000)
    (hvb : w.heap[vb]? = some (.cells #[.int .u64 x] 33 (0, 0))) :
    Calls Try.prog 73 #[v, .int .i64 (xs.length : Int), .slice (some ⟨vb, 0, none⟩) 1 1] w (USliceIs S (xs ++ [x]) w) := by
  have HW := Lib.hid hown
  obtain ⟨⟨_, ao, cap, rfl, hlc, hcm, _, _⟩, _⟩ := hown
  have hrd : Rd eU64 w (.slice (some ⟨vb, 0, none⟩) 1 1) [x] := ⟨by simp [maxLen], _, 1, rfl, by simp, fun h => by simp at h, fun _ => ⟨vb, 0, rfl, fun j u hj => by
    rw [cell_of_row w vb _ _ _ _ hvb, Nat.zero_add]
    exact (Array.getElem?_toList).symm.trans (show (eU64.cells x)[j]? = some u by simpa [Enc.all] using hj)⟩⟩
  have HRD := Lib.hid hrd
  unfold maxLen at hcm
  clear hvb hrd
  have hnn : (0 : Int) ≤ (xs.length : Int) := by omega
  have heq : ((xs.length : Int) == (xs.length : Int)) = true := by simp
  by_cases hcn : cap = xs.length
  all_goals
   go_enter Try.func73, Try.ntmps73
   go_wp2_with (at_builtin; refine wl_appendS (E := eU64) rfl _ (.tmp 24) _ rfl 33 8 eU64_sl S _ xs rfl HW.out _ [x] rfl HRD.out (by simp; omega) (by unfold maxLen; simp; omega) ?_)
   intro v2 w2 h2 ho2
   go_wp2_with fail
   go_ret
   exact ⟨_, rfl, h2, ho2⟩

theorem uins_any (S : Nat → Prop) (v : Value) (xs : List Int) (x : Int) (i : Nat) (w : World) (vb : Nat) (hown : OwS eU64 33 S w v xs) (hi : i ≤ xs.length) (hn1 : xs.length ≤ 1000)
    (hvb : w.heap[vb]? = some (.cells #[.int .u64 x] 33 (0, 0))) (hS : ¬ S vb) :
    Calls Try.prog 73 #[v, .int .i64 (i : Int), .slice (some ⟨vb, 0, none⟩) 1 1] w (USliceIs S (xs.take i ++ x :: xs.drop i) w) := by
  by_cases h : i = xs.length
  · subst h
    have := uins_end S v xs x w vb hown hn1 hvb
    simpa using this
  · obtain ⟨g, off, cap, rfl⟩ := hown.1.some_ (by omega)
    obtain ⟨⟨hm, ao', cap', he, hlc, hcm, _, hx⟩, hSg⟩ := hown
    obtain ⟨rfl, _, rfl⟩ : some ⟨g, off, none⟩ = ao' ∧ xs.length = xs.length ∧ cap = cap' := by simpa using he
    obtain ⟨g', off', cur, hgo, _, hh, hs, ht⟩ := hx _ rfl
    obtain ⟨rfl, rfl⟩ : g = g' ∧ off = off' := by simpa using hgo
    have hgS : S g := hSg g rfl
    have hlen : (xs.take i ++ x :: xs.drop i).length = xs.length + 1 := by simp; omega
    have hne : vb ≠ g := fun h => hS (h ▸ hgS)
    have hsc : off + cap ≤ cur.size := by have h : off + cap * 1 ≤ cur.size := hs; omega
    have htt : (cur.toList.drop off).take xs.length = eU64.all xs := by have h : (cur.toList.drop off).take (xs.length * 1) = eU64.all xs := ht; rwa [Nat.mul_one] at h
    by_cases hroom : xs.length + 1 ≤ cap
    · refine (uins_room g off cap i vb cur xs x w (by omega) hroom (by unfold maxLen at hcm; omega) hh hsc htt hvb hne).mono ?_
      rintro e w' ⟨rfl, ⟨cur', h1, h2, h3⟩, ho⟩
      refine ⟨_, rfl, ⟨⟨by rw [hlen]; unfold maxLen; omega, some ⟨g, off, none⟩, cap, by rw [hlen], by rw [hlen]; exact hroom, hcm, fun h => by simp at h, fun a ha => ⟨g, off, cur', by simpa using ha.symm, Nat.zero_le _, h1, by rw [h2]; exact hs, by rw [hlen]; show List.take ((xs.length + 1) * 1) _ = _; rw [Nat.mul_one]; exact h3⟩⟩, fun k hk => .inl (by
        obtain rfl : g = k := by simpa [Value.ownBlock] using hk
        exact hgS)⟩, ho.mono fun k _ e => by subst e; exact hgS⟩
    · obtain rfl : cap = xs.length := by omega
      refine (uins_grow g off i vb cur xs x w (by omega) hn1 hh hsc htt hvb).mono ?_
      rintro e w' ⟨c2, rfl, hc1, hc2, ⟨cur', h1, h2, h3⟩, ho⟩
      refine ⟨_, rfl, ⟨⟨by rw [hlen]; unfold maxLen; omega, some ⟨w.heap.size, 0, none⟩, c2, by rw [hlen], by rw [hlen]; exact hc1, hc2, fun h => by simp at h, fun a ha => ⟨w.heap.size, 0, cur', by simpa using ha.symm, Nat.zero_le _, h1, by rw [Nat.zero_add]; show c2 * 1 ≤ _; omega, by rw [hlen, List.drop_zero]; show List.take ((xs.length + 1) * 1) _ = _; rw [Nat.mul_one]; exact h3⟩⟩, fun k hk => .inr (by
        obtain rfl : w.heap.size = k := by simpa [Value.ownBlock] using hk
        exact Nat.le_refl _)⟩, ho.mono fun k _ h => h.elim⟩
end Go.Proofs.Ytdlkblklfoagbaa
