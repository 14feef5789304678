/- two things side by side and the rest. -/
import Derived.Test.YtkocfgaajghggaaDoorToolW
namespace Go.Proofs.YtkocfgaajghggaaDoor
open Go.RowKit
set_option linter.unusedVariables false

/-- two things side by side, and the rest -/
def LSt (P Q X : (Nat → Prop) → World → Prop) (w0 w : World) : Prop := ∃ tag : Nat → Nat, Arena w0.heap.size w0 w tag ∧ P (fun k => tag k = 1) w ∧ Q (fun k => tag k = 2) w ∧ X (fun k => tag k = 3) w
def NoX (S : Nat → Prop) (w : World) : Prop := True
theorem NoX.framed : Framed NoX := Framed.pure True
theorem LSt.start {w0 w : World} (h : Below w0.heap.size w0 w) : LSt NoX NoX NoX w0 w := ⟨_, Arena.of_below h (Nat.le_refl _), trivial, trivial, trivial⟩
theorem LSt.below {P Q X : (Nat → Prop) → World → Prop} {w0 w : World} (h : LSt P Q X w0 w) : Below w0.heap.size w0 w := by obtain ⟨_, A, _⟩ := h; exact A.below
theorem LSt.size {P Q X : (Nat → Prop) → World → Prop} {w0 w : World} (h : LSt P Q X w0 w) : w0.heap.size ≤ w.heap.size := by obtain ⟨_, A, _⟩ := h; exact A.size
theorem LSt.swap {P Q X : (Nat → Prop) → World → Prop} {w0 w : World} (hP : Framed P) (hQ : Framed Q) (hX : Framed X) (h : LSt P Q X w0 w) : LSt Q P X w0 w := by
  obtain ⟨tag, A, h1, h2, h3⟩ := h
  refine ⟨fun k => if tag k = 1 then 2 else if tag k = 2 then 1 else tag k, ⟨A.below, A.size, fun k hk => by simp [A.zero k hk]⟩, hQ.mono _ _ _ h2 fun k _ e => by simp [e], hP.mono _ _ _ h1 fun k _ e => by simp [e], hX.mono _ _ _ h3 fun k _ e => by simp [e]⟩
theorem LSt.step {P P' Q X : (Nat → Prop) → World → Prop} {w0 w w' : World} (hP' : Framed P') (hQ : Framed Q) (hX : Framed X) (h : LSt P Q X w0 w)
    (H : ∀ S : Nat → Prop, P S w → P' (fun k => S k ∨ w.heap.size ≤ k) w' ∧ Only S w w') : LSt P' Q X w0 w' := by
  obtain ⟨tag, A, h1, h2, h3⟩ := h
  obtain ⟨hp, ho⟩ := H _ h1
  obtain ⟨tag', A', f, n, _⟩ := A.step ho 1 (fun _ h => by omega)
  exact ⟨tag', A', n _ hP' hp, f _ hQ _ h2 (fun _ _ h => by omega), f _ hX _ h3 (fun _ _ h => by omega)⟩
theorem LSt.call {P P' Q X : (Nat → Prop) → World → Prop} {w0 w : World} (hP' : Framed P') (hQ : Framed Q) (hX : Framed X) (h : LSt P Q X w0 w) {f : FuncId} {args : Array Value} {E : Ending → Prop} {pr : Program}
    (H : ∀ S : Nat → Prop, P S w → Calls pr f args w fun e w' => E e ∧ P' (fun k => S k ∨ w.heap.size ≤ k) w' ∧ Only S w w') :
    Calls pr f args w fun e w' => E e ∧ LSt P' Q X w0 w' := by
  obtain ⟨tag, A, h1, h2, h3⟩ := h
  refine (H _ h1).mono fun e w' ⟨he, hp, ho⟩ => ⟨he, ?_⟩
  obtain ⟨tag', A', f, n, _⟩ := A.step ho 1 (fun _ h => by omega)
  exact ⟨tag', A', n _ hP' hp, f _ hQ _ h2 (fun _ _ h => by omega), f _ hX _ h3 (fun _ _ h => by omega)⟩
theorem LSt.fresh {P Q X : (Nat → Prop) → World → Prop} {w0 w w' : World} (hP : Framed P) (hQ : Framed Q) (hX : Framed X) (h : LSt P Q X w0 w) (ho : Only (fun _ => False) w w') : LSt P Q X w0 w' := by
  obtain ⟨tag, A, h1, h2, h3⟩ := h
  obtain ⟨tag', A', f, n, _⟩ := A.step ho 3 (fun _ h => h.elim)
  exact ⟨tag', A', f _ hP _ h1 (fun _ _ h => h), f _ hQ _ h2 (fun _ _ h => h), f _ hX _ h3 (fun _ _ h => h)⟩
/-- something new, beside the rest -/
theorem LSt.newX {P Q X Y : (Nat → Prop) → World → Prop} {w0 w w' : World} (hP : Framed P) (hQ : Framed Q) (hX : Framed X) (hY : Framed Y) (h : LSt P Q X w0 w) (hy : Y (fun k => w.heap.size ≤ k) w') (ho : Only (fun _ => False) w w') : LSt P Q (fun S w => X S w ∧ Y S w) w0 w' := by
  obtain ⟨tag, A, h1, h2, h3⟩ := h
  obtain ⟨tag', A', f, n, _⟩ := A.step ho 3 (fun _ h => h.elim)
  exact ⟨tag', A', f _ hP _ h1 (fun _ _ h => h), f _ hQ _ h2 (fun _ _ h => h), f _ hX _ h3 (fun _ _ h => h), n _ hY (hY.mono _ _ _ hy fun _ _ h => .inr h)⟩
theorem LSt.newP {P Q X Y : (Nat → Prop) → World → Prop} {w0 w w' : World} (hQ : Framed Q) (hX : Framed X) (hY : Framed Y) (h : LSt P Q X w0 w) (hy : Y (fun k => w.heap.size ≤ k) w') (ho : Only (fun _ => False) w w') : LSt Y Q X w0 w' := by
  obtain ⟨tag, A, h1, h2, h3⟩ := h
  obtain ⟨tag', A', f, n, _⟩ := A.step ho 1 (fun _ h => h.elim)
  exact ⟨tag', A', n _ hY (hY.mono _ _ _ hy fun _ _ h => .inr h), f _ hQ _ h2 (fun _ _ h => h), f _ hX _ h3 (fun _ _ h => h)⟩
theorem LSt.first {P Q X : (Nat → Prop) → World → Prop} {w0 w : World} (h : LSt P Q X w0 w) : ∃ S, P S w := by obtain ⟨tag, A, h1, _⟩ := h; exact ⟨_, h1⟩
theorem LSt.second {P Q X : (Nat → Prop) → World → Prop} {w0 w : World} (h : LSt P Q X w0 w) : ∃ S, Q S w := by obtain ⟨tag, A, _, h1, _⟩ := h; exact ⟨_, h1⟩
theorem LSt.rest {P Q X : (Nat → Prop) → World → Prop} {w0 w : World} (h : LSt P Q X w0 w) : ∃ S, X S w := by obtain ⟨tag, A, _, _, h1⟩ := h; exact ⟨_, h1⟩
theorem LSt.wide {P Q X X' : (Nat → Prop) → World → Prop} {w0 w : World} (h : LSt P Q X w0 w) (hx : ∀ S, X S w → X' S w) : LSt P Q X' w0 w := by obtain ⟨tag, A, h1, h2, h3⟩ := h; exact ⟨tag, A, h1, h2, hx _ h3⟩

theorem LSt.third_ {P Q X' : (Nat → Prop) → World → Prop} {w0 w w' : World} {tag : Nat → Nat} (hP : Framed P) (hQ : Framed Q) (hX' : Framed X') (A : Arena w0.heap.size w0 w tag) (h1 : P (fun k => tag k = 1) w) (h2 : Q (fun k => tag k = 2) w)
    (hx : X' (fun k => tag k = 3 ∨ w.heap.size ≤ k) w') (ho : Only (fun k => tag k = 3) w w') : LSt P Q X' w0 w' := by
  obtain ⟨tag', A', f, n, _⟩ := A.step ho 3 (fun _ h => by omega)
  exact ⟨tag', A', f _ hP _ h1 (fun _ _ h => by omega), f _ hQ _ h2 (fun _ _ h => by omega), n _ hX' hx⟩
theorem LSt.drew {P Q X : (Nat → Prop) → World → Prop} {w0 w : World} (hP : Framed P) (hQ : Framed Q) (hX : Framed X) (h : LSt P Q X w0 w) : LSt P Q X w0 w.drew := h.fresh hP hQ hX ((Only.refl _ _).drew_)
theorem LSt.second_ {P Q' X : (Nat → Prop) → World → Prop} {w0 w w' : World} {tag : Nat → Nat} (hP : Framed P) (hQ' : Framed Q') (hX : Framed X) (A : Arena w0.heap.size w0 w tag) (h1 : P (fun k => tag k = 1) w) (h3 : X (fun k => tag k = 3) w)
    (hq : Q' (fun k => tag k = 2 ∨ w.heap.size ≤ k) w') (ho : Only (fun k => tag k = 2) w w') : LSt P Q' X w0 w' := by
  obtain ⟨tag', A', f, n, _⟩ := A.step ho 2 (fun _ h => by omega)
  exact ⟨tag', A', f _ hP _ h1 (fun _ _ h => by omega), n _ hQ' hq, f _ hX _ h3 (fun _ _ h => by omega)⟩
end Go.Proofs.YtkocfgaajghggaaDoor
