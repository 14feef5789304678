/- States of a law's walk: all that is new is apart from what was there. -/
import Derived.Test.YtodacnpbhlkoiaaSep
namespace Go.Proofs.Ytodacnpbhlkoiaa
open Go.RowKit
set_option linter.unusedVariables false

/-- what is said of the new blocks alone, what was there is as it was -/
abbrev St (P : (Nat → Prop) → World → Prop) (w0 w : World) : Prop := Upd P (fun _ => False) w0 w
def Emp (S : Nat → Prop) (w : World) : Prop := True
theorem Emp.framed : Framed Emp := Framed.pure True
theorem Sep.nilE {P : (Nat → Prop) → World → Prop} {S : Nat → Prop} {w : World} (h : P S w) : Sep P Emp S w := ⟨S, fun _ => False, fun _ _ h => h, fun _ h => h, fun _ h => h.elim, h, trivial⟩
theorem St.start {w0 w : World} (h : Below w0.heap.size w0 w) : St Emp w0 w := ⟨trivial, Only.of_below h fun k h1 h2 => by omega⟩
theorem St.below {P : (Nat → Prop) → World → Prop} {w0 w : World} (h : St P w0 w) : Below w0.heap.size w0 w := h.2.below (Nat.le_refl _) fun _ h => h.elim
theorem St.size {P : (Nat → Prop) → World → Prop} {w0 w : World} (h : St P w0 w) : w0.heap.size ≤ w.heap.size := h.2.size
theorem St.get {P : (Nat → Prop) → World → Prop} {w0 w : World} (h : St P w0 w) : ∃ T, P T w := ⟨_, h.1⟩
theorem Sep.nilL {α : Type} {E : Enc α} {ty : Nat} {Q : (Nat → Prop) → World → Prop} {S : Nat → Prop} {w : World} (h : Q S w) : Sep (fun S w => OwS E ty S w (.slice none 0 0) ([] : List α)) Q S w := ⟨fun _ => False, S, fun _ h _ => h, fun _ h => h.elim, fun _ h => h, OwS.nil _ _, h⟩
section
variable {P Q R P' Q' R' Y : (Nat → Prop) → World → Prop} {S : Nat → Prop} {w w1 w2 : World}
theorem Upd.get1 (h : Upd P S w w1) : ∃ T, P T w1 := ⟨_, h.1⟩
/-- beside what is only read -/
theorem Upd.keep (hP : Framed P) (hR : Framed R) (hY : Framed Y) (h : Upd (Sep P R) S w w1) (hy : Y (fun k => w1.heap.size ≤ k) w2) (ho : Only (fun _ => False) w1 w2) : Upd (Sep P (fun S w => R S w ∧ Y S w)) S w w2 :=
  (h.add (Sep.framed hP hR) hY hy ho).imp fun T hT => hT.assoc.imp (fun _ h => h) fun T h => ⟨h.left hR, h.right hY⟩
theorem Upd.loc' (hP : Framed P) (hR : Framed R) (h : Upd (Sep P R) S w w1) (o : Obj) : Upd (Sep P (fun S w => R S w ∧ Blk w1.heap.size o S w)) S w (w1.alloc o) :=
  h.keep hP hR Blk.framed ⟨heap_alloc_new w1 o, Nat.le_refl _⟩ (Only.alloc _ _ _)
theorem Upd.rest (h : Upd (Sep P R) S w w1) (hr : ∀ T, R T w1 → R' T w1) : Upd (Sep P R') S w w1 := h.imp fun _ h => h.imp (fun _ h => h) hr
theorem Upd.first (h : Upd (Sep P R) S w w1) (hr : ∀ T, P T w1 → P' T w1) : Upd (Sep P' R) S w w1 := h.imp fun _ h => h.imp hr fun _ h => h
theorem Upd.getL (h : Upd (Sep P R) S w w1) : ∃ T, P T w1 := by obtain ⟨A, B, _, _, _, hp, _⟩ := h.1; exact ⟨_, hp⟩
theorem Upd.getR (h : Upd (Sep P R) S w w1) : ∃ T, R T w1 := by obtain ⟨A, B, _, _, _, _, hp⟩ := h.1; exact ⟨_, hp⟩
theorem Upd.drewU (hP : Framed P) (h : Upd P S w w1) : Upd P S w w1.drew := h.fresh hP ((Only.refl _ _).drewN 1)
theorem Upd.swap (h : Upd (Sep P R) S w w1) : Upd (Sep R P) S w w1 := h.imp fun _ h => h.swap
/-- (P, (Q, R)) and (Q, (P, R)) -/
theorem Sep.turn (h : Sep P (Sep Q R) S w) : Sep Q (Sep P R) S w := (h.assoc'.imp (fun _ h => h.swap) fun _ h => h).assoc
theorem Upd.turn (h : Upd (Sep P (Sep Q R)) S w w1) : Upd (Sep Q (Sep P R)) S w w1 := h.imp fun _ h => h.turn
/-- a call on the first -/
theorem Upd.on1 (hR : Framed R) (h : Upd (Sep P R) S w w1) {f : FuncId} {args : Array Value} {pr : Program} {E : Ending → Prop} (hP' : Framed P')
    (H : ∀ A, P A w1 → Calls pr f args w1 fun e w' => E e ∧ Upd P' A w1 w') : Calls pr f args w1 fun e w' => E e ∧ Upd (Sep P' R) S w w' := by
  obtain ⟨A, hA, hb⟩ := h.1.focus hR
  exact (H A hA).mono fun e w' ⟨he, hu⟩ => ⟨he, h.step (Sep.framed hP' hR) (hb P' w' hP' hu)⟩
theorem Upd.on1x {α : Type} {Px : α → (Nat → Prop) → World → Prop} (hR : Framed R) (h : Upd (Sep P R) S w w1) {f : FuncId} {args : Array Value} {pr : Program} {E : α → Ending → Prop} (hP' : ∀ x, Framed (Px x))
    (H : ∀ A, P A w1 → Calls pr f args w1 fun e w' => ∃ x, E x e ∧ Upd (Px x) A w1 w') : Calls pr f args w1 fun e w' => ∃ x, E x e ∧ Upd (Sep (Px x) R) S w w' := by
  obtain ⟨A, hA, hb⟩ := h.1.focus hR
  exact (H A hA).mono fun e w' ⟨x, he, hu⟩ => ⟨x, he, h.step (Sep.framed (hP' x) hR) (hb (Px x) w' (hP' x) hu)⟩
/-- a call on the second -/
theorem Upd.on2 (hP : Framed P) (hR : Framed R) (h : Upd (Sep P (Sep Q R)) S w w1) {f : FuncId} {args : Array Value} {pr : Program} {E : Ending → Prop} (hQ' : Framed Q')
    (H : ∀ A, Q A w1 → Calls pr f args w1 fun e w' => E e ∧ Upd Q' A w1 w') : Calls pr f args w1 fun e w' => E e ∧ Upd (Sep P (Sep Q' R)) S w w' :=
  (h.turn.on1 (Sep.framed hP hR) hQ' H).mono fun e w' ⟨he, hu⟩ => ⟨he, hu.turn⟩
theorem Upd.on2x {α : Type} {Qx : α → (Nat → Prop) → World → Prop} (hP : Framed P) (hR : Framed R) (h : Upd (Sep P (Sep Q R)) S w w1) {f : FuncId} {args : Array Value} {pr : Program} {E : α → Ending → Prop} (hQ' : ∀ x, Framed (Qx x))
    (H : ∀ A, Q A w1 → Calls pr f args w1 fun e w' => ∃ x, E x e ∧ Upd (Qx x) A w1 w') : Calls pr f args w1 fun e w' => ∃ x, E x e ∧ Upd (Sep P (Sep (Qx x) R)) S w w' :=
  (h.turn.on1x (Sep.framed hP hR) hQ' H).mono fun e w' ⟨x, he, hu⟩ => ⟨x, he, hu.turn⟩
/-- a call that gives something new -/
theorem Upd.callNew {α : Type} {Yx : α → (Nat → Prop) → World → Prop} (hP : Framed P) (hY : ∀ x, Framed (Yx x)) (h : Upd P S w w1) {f : FuncId} {args : Array Value} {pr : Program} {E : α → Ending → Prop}
    (H : Calls pr f args w1 fun e w' => ∃ x, E x e ∧ Yx x (fun k => w1.heap.size ≤ k) w' ∧ Only (fun _ => False) w1 w') : Calls pr f args w1 fun e w' => ∃ x, E x e ∧ Upd (Sep P (Yx x)) S w w' :=
  H.mono fun e w' ⟨x, he, hy, ho⟩ => ⟨x, he, h.add hP (hY x) hy ho⟩
/-- the same, beside what is only read -/
theorem Upd.callKeep {α : Type} {Yx : α → (Nat → Prop) → World → Prop} (hP : Framed P) (hR : Framed R) (hY : ∀ x, Framed (Yx x)) (h : Upd (Sep P R) S w w1) {f : FuncId} {args : Array Value} {pr : Program} {E : α → Ending → Prop}
    (H : Calls pr f args w1 fun e w' => ∃ x, E x e ∧ Yx x (fun k => w1.heap.size ≤ k) w' ∧ Only (fun _ => False) w1 w') : Calls pr f args w1 fun e w' => ∃ x, E x e ∧ Upd (Sep P (fun S w => R S w ∧ Yx x S w)) S w w' :=
  H.mono fun e w' ⟨x, he, hy, ho⟩ => ⟨x, he, h.keep hP hR (hY x) hy ho⟩
/-- a call that only reads -/
theorem Upd.callRead (hP : Framed P) (h : Upd P S w w1) {f : FuncId} {args : Array Value} {pr : Program} {E : Ending → Prop}
    (H : Calls pr f args w1 fun e w' => E e ∧ Only (fun _ => False) w1 w') : Calls pr f args w1 fun e w' => E e ∧ Upd P S w w' :=
  H.mono fun e w' ⟨he, ho⟩ => ⟨he, h.fresh hP ho⟩
end
end Go.Proofs.Ytodacnpbhlkoiaa
