/- Worlds that differ in some blocks alone. -/
import Derived.Test.YtodacnpbhlkoiaaBase
namespace Go.Proofs.Ytodacnpbhlkoiaa
open Go.RowKit
set_option linter.unusedVariables false

/-- w' is w but for the blocks of which F speaks, and new ones -/
structure Only (F : Nat → Prop) (w w' : World) : Prop where
  os : w'.os = w.os
  tape : w'.tape = w.tape
  output : w'.output = w.output
  size : w.heap.size ≤ w'.heap.size
  block : ∀ k, k < w.heap.size → ¬ F k → w'.heap[k]? = w.heap[k]?

theorem Only.refl (F : Nat → Prop) (w : World) : Only F w w := ⟨rfl, rfl, rfl, Nat.le_refl _, fun _ _ _ => rfl⟩
theorem Only.mono {F G : Nat → Prop} {w w' : World} (h : Only F w w') (hFG : ∀ k, k < w.heap.size → F k → G k) : Only G w w' :=
  ⟨h.os, h.tape, h.output, h.size, fun k hk hn => h.block k hk fun hf => hn (hFG k hk hf)⟩
/-- one behind the other; what the second may change is the first's, or new -/
theorem Only.trans {F G : Nat → Prop} {a b c : World} (h : Only F a b) (k : Only G b c) (hG : ∀ j, j < a.heap.size → G j → F j) : Only F a c :=
  ⟨k.os.trans h.os, k.tape.trans h.tape, k.output.trans h.output, Nat.le_trans h.size k.size,
   fun j hj hn => (k.block j (Nat.lt_of_lt_of_le hj h.size) fun hg => hn (hG j hj hg)).trans (h.block j hj hn)⟩
theorem Only.below {F : Nat → Prop} {w w' : World} {B : Nat} (h : Only F w w') (hB : B ≤ w.heap.size) (hF : ∀ k, F k → B ≤ k) : Below B w w' :=
  ⟨h.os, h.tape, h.output, h.size, fun k hk => h.block k (by omega) fun hf => by have := hF k hf; omega⟩
theorem Only.of_below {F : Nat → Prop} {w w' : World} {B : Nat} (h : Below B w w') (hF : ∀ k, B ≤ k → k < w.heap.size → F k) : Only F w w' :=
  ⟨h.os, h.tape, h.output, h.size, fun k hk hn => h.block k (by
    by_cases hb : k < B
    · exact hb
    · exact absurd (hF k (by omega) hk) hn)⟩
theorem Only.of_grown {F : Nat → Prop} {w w' : World} {r : Option Nat} (h : w.grownBy w' r) (hF : ∀ k, r = some k → F k) : Only F w w' :=
  ⟨h.os, h.tape, h.output, h.size, fun k hk hn => h.block k hk fun e => hn (hF k e.symm)⟩
theorem Only.setCell (F : Nat → Prop) (w : World) (g i : Nat) (v : Value) (hF : F g) : Only F w (w.setCell ⟨g, i, none⟩ v) :=
  Only.of_grown (grownBy_setCells w g i [v]) fun k e => by cases e; exact hF
theorem Only.alloc (F : Nat → Prop) (w : World) (o : Obj) : Only F w (w.alloc o) := Only.of_grown (World.grownBy_alloc w o none) (by simp)
theorem Only.drewN {F : Nat → Prop} {w w' : World} (h : Only F w w') (n : Nat) : Only F w (w'.drewN n) := h.trans (G := F) ⟨rfl, rfl, rfl, Nat.le_refl _, fun _ _ _ => rfl⟩ (fun _ _ h => h)
theorem Ow.only {α : Type} {E : Enc α} {F : Nat → Prop} {w w' : World} {base e : Nat} {v : Value} {xs : List α} (h : Ow E base e w v xs) (ho : Only F w w') (hn : ∀ k, v.ownBlock = some k → ¬ F k) : Ow E base e w' v xs :=
  h.kept fun g hg => ho.block g (h.lt hg).2 (hn g hg)
theorem Only.heap {F : Nat → Prop} {w w' : World} (ho : Only F w w') {g : Nat} {o : Obj} (h : w.heap[g]? = some o) (hn : ¬ F g) : w'.heap[g]? = some o :=
  (ho.block g (by
    by_cases hg : g < w.heap.size
    · exact hg
    · rw [Array.getElem?_eq_none (by omega)] at h; simp at h) hn).trans h
theorem heap_lt {w : World} {g : Nat} {o : Obj} (h : w.heap[g]? = some o) : g < w.heap.size := by
  by_cases hg : g < w.heap.size
  · exact hg
  · rw [Array.getElem?_eq_none (by omega)] at h; simp at h
theorem heap_alloc {w : World} {g : Nat} {o p : Obj} (h : w.heap[g]? = some o) : (w.alloc p).heap[g]? = some o :=
  (heap_alloc_old w p (heap_lt h)).trans h
theorem heap_setCell_far {w : World} {g : Nat} {o : Obj} (h : w.heap[g]? = some o) (k i : Nat) (v : Value) (hne : g ≠ k) : (w.setCell ⟨k, i, none⟩ v).heap[g]? = some o :=
  (Below.heap_setCell w _ v g hne).trans h
end Go.Proofs.Ytodacnpbhlkoiaa
