/- book: more for the laws. -/
import Derived.Test.YtodacnpbhlkoiaaBookKey
namespace Go.Proofs.Ytodacnpbhlkoiaa
open Go.RowKit
set_option linter.unusedVariables false
set_option linter.unusedSimpArgs false

/-- what puts, one behind the other, leave, and how many went in -/
def fillP (cap : Int) (xs ps : List PairD) : List PairD × Nat := ps.foldl (fun s p => ((doP cap s.1 2 p.1 p.2).2, if (doP cap s.1 2 p.1 p.2).1.1 = 0 then s.2 + 1 else s.2)) (xs, 0)
theorem fillP_snoc (cap : Int) (xs ps : List PairD) (p : PairD) : fillP cap xs (ps ++ [p]) = ((doP cap (fillP cap xs ps).1 2 p.1 p.2).2, if (doP cap (fillP cap xs ps).1 2 p.1 p.2).1.1 = 0 then (fillP cap xs ps).2 + 1 else (fillP cap xs ps).2) := by
  unfold fillP; rw [List.foldl_append]; rfl
theorem fillP_good {cap : Int} {xs : List PairD} (G : Good cap xs) (ps : List PairD) : ∀ k, k ≤ ps.length → Good cap (fillP cap xs (ps.take k)).1 ∧ (fillP cap xs (ps.take k)).2 ≤ k := by
  intro k
  induction k with
  | zero => intro _; exact ⟨G, Nat.le_refl _⟩
  | succ k ih =>
    intro h
    obtain ⟨i1, i2⟩ := ih (by omega)
    rw [List.take_succ_eq_append_getElem (by omega), fillP_snoc]
    refine ⟨do_good i1, ?_⟩
    dsimp only
    split <;> omega
theorem doV {Q X : (Nat → Prop) → World → Prop} {w0 w : World} {b : Nat} {cap : Int} {xs ys : List PairD} {r : ResD} {op key val : Int} (hQ : Framed Q) (hX : Framed X) (h : LSt (BookS b cap xs) Q X w0 w) (G : Good cap xs) (hd : doP cap xs op key val = (r, ys)) :
    Calls Try.prog 16 #[.pointer (some ⟨b, 0, none⟩), .int .i64 op, .int .u64 key, .int .u64 val] w fun e w' => e = .returned (.agg #[.int .i64 r.1, .bool r.2.1, .int .u64 r.2.2.1, .bool r.2.2.2.1, .int .u64 r.2.2.2.2.1, .int .u64 r.2.2.2.2.2]) ∧ LSt (BookS b cap ys) Q X w0 w' := by
  have := doL hQ hX h G op key val
  rw [hd] at this; exact this

theorem res_field0 (x0 x2 x4 x5 : Int) (x1 x3 : Bool) (w : World) : (Instr.field 35 (.agg #[.int .i64 x0, .bool x1, .int .u64 x2, .bool x3, .int .u64 x4, .int .u64 x5]) 0).run Try.prog w = .ok (.int .i64 x0) w := by
  kernel_rfl
/-- a new book, the second of the two -/
theorem newL2 {P Q X : (Nat → Prop) → World → Prop} {w0 w : World} (hP : Framed P) (hQ : Framed Q) (hX : Framed X) (h : LSt P Q X w0 w) (cap : Int) (h1 : 1 ≤ cap) (h2 : cap ≤ 16) :
    Calls Try.prog 15 #[.int .i64 cap] w fun e w' => ∃ b, e = .returned (.tuple #[.pointer (some ⟨b, 0, none⟩), .int .i64 0]) ∧ LSt P (BookS b cap []) X w0 w' :=
  (newL hP hX (h.swap hP hQ hX) cap h1 h2).mono fun e w' ⟨b, he, hl⟩ => ⟨b, he, hl.swap BookS.framed hP hX⟩
theorem LSt.third_ {P Q X' : (Nat → Prop) → World → Prop} {w0 w w' : World} {tag : Nat → Nat} (hP : Framed P) (hQ : Framed Q) (hX' : Framed X') (A : Arena w0.heap.size w0 w tag) (h1 : P (fun k => tag k = 1) w) (h2 : Q (fun k => tag k = 2) w)
    (hx : X' (fun k => tag k = 3 ∨ w.heap.size ≤ k) w') (ho : Only (fun k => tag k = 3) w w') : LSt P Q X' w0 w' := by
  obtain ⟨tag', A', f, n, _⟩ := A.step ho 3 (fun _ h => by omega)
  exact ⟨tag', A', f _ hP _ h1 (fun _ _ h => by omega), f _ hQ _ h2 (fun _ _ h => by omega), n _ hX' hx⟩

theorem keepP {w0 w w' : World} {sb o0 o1 : Nat} {v u : Value} (h' : Below w0.heap.size w0 w') (h : Below w0.heap.size w0 w) (l : sb < w0.heap.size) (c : w.cell? ⟨sb, o0, none⟩ = some v) (c2 : w.cell? ⟨sb, o1, none⟩ = some u) :
    w'.cell? ⟨sb, o0, none⟩ = some v ∧ w'.cell? ⟨sb, o1, none⟩ = some u := ⟨(h'.cell l).trans ((h.cell l).symm.trans c), (h'.cell l).trans ((h.cell l).symm.trans c2)⟩
end Go.Proofs.Ytodacnpbhlkoiaa
