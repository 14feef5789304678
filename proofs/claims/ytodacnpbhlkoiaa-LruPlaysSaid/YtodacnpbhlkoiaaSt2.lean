/- States with two things and what is only read. -/
import Derived.Test.YtodacnpbhlkoiaaSt
namespace Go.Proofs.Ytodacnpbhlkoiaa
open Go.RowKit
set_option linter.unusedVariables false

section
variable {P Q R P' Q' R' : (Nat → Prop) → World → Prop} {S : Nat → Prop} {w w1 w2 : World}
theorem Upd.onA (hQ : Framed Q) (hR : Framed R) (h : Upd (Sep (Sep P Q) R) S w w1) {f : FuncId} {args : Array Value} {pr : Program} {E : Ending → Prop} (hP' : Framed P')
    (H : ∀ A, P A w1 → Calls pr f args w1 fun e w' => E e ∧ Upd P' A w1 w') : Calls pr f args w1 fun e w' => E e ∧ Upd (Sep (Sep P' Q) R) S w w' :=
  ((h.imp fun _ h => h.assoc).on1 (Sep.framed hQ hR) hP' H).mono fun e w' ⟨he, hu⟩ => ⟨he, hu.imp fun _ h => h.assoc'⟩
theorem Upd.onB (hP : Framed P) (hR : Framed R) (h : Upd (Sep (Sep P Q) R) S w w1) {f : FuncId} {args : Array Value} {pr : Program} {E : Ending → Prop} (hQ' : Framed Q')
    (H : ∀ A, Q A w1 → Calls pr f args w1 fun e w' => E e ∧ Upd Q' A w1 w') : Calls pr f args w1 fun e w' => E e ∧ Upd (Sep (Sep P Q') R) S w w' :=
  ((h.imp fun _ h => h.assoc).on2 hP hR hQ' H).mono fun e w' ⟨he, hu⟩ => ⟨he, hu.imp fun _ h => h.assoc'⟩
theorem Upd.getA (h : Upd (Sep (Sep P Q) R) S w w1) : ∃ T, P T w1 := by obtain ⟨_, _, _, _, _, ⟨A, _, _, _, _, hp, _⟩, _⟩ := h.1; exact ⟨A, hp⟩
theorem Upd.getB (h : Upd (Sep (Sep P Q) R) S w w1) : ∃ T, Q T w1 := by obtain ⟨_, _, _, _, _, ⟨_, B, _, _, _, _, hq⟩, _⟩ := h.1; exact ⟨B, hq⟩
/-- something new beside one thing -/
theorem Upd.pair (hR : Framed R) (h : Upd (Sep P (Sep Q R)) S w w1) : Upd (Sep (Sep P Q) R) S w w1 := h.imp fun _ h => h.assoc'
end
end Go.Proofs.Ytodacnpbhlkoiaa
