/- Layer 19: a table among other things. -/
import Derived.Test.YthemkcgifefjmaaHooksAwake
import Derived.Test.YthemkcgifefjmaaHooksDec
import Derived.StillTailTactics
namespace Go.Proofs.Ythemkcgifefjmaa
open Go.RowKit
set_option linter.unusedVariables false

abbrev Th := (Nat → Prop) → World → Prop
abbrev No : Th := fun _ _ => True
theorem noF : Framed No := Framed.pure True
def TSt (X Y : Th) (g : Nat) (w : World) (last : Int) (hs : List Pub) (wr : World) : Prop :=
  ∃ tag : Nat → Nat, Arena w.heap.size w wr tag ∧ TabS g last hs (fun k => tag k = 1) wr ∧ X (fun k => tag k = 8) wr ∧ Y (fun k => tag k = 7) wr
section
variable {X Y X' : Th} {g : Nat} {w wr w' : World} {last : Int} {hs : List Pub}
theorem TSt.fresh (hX : Framed X) (hY : Framed Y) (H : TSt X Y g w last hs wr) (ho : Only (fun _ => False) wr w') : TSt X Y g w last hs w' := by
  obtain ⟨tag, A, h1, h2, h3⟩ := H
  obtain ⟨tag', A', f, _, _⟩ := A.step ho 9 (fun _ h => h.elim)
  exact ⟨tag', A', f _ TabS.framed _ h1 (fun _ _ h => h), f _ hX _ h2 (fun _ _ h => h), f _ hY _ h3 (fun _ _ h => h)⟩
theorem TSt.below (H : TSt X Y g w last hs wr) : Below w.heap.size w wr := by obtain ⟨tag, A, _⟩ := H; exact A.below
theorem TSt.getX (H : TSt X Y g w last hs wr) : ∃ S, X S wr := by obtain ⟨tag, A, h1, h2, h3⟩ := H; exact ⟨_, h2⟩
theorem TSt.getY (H : TSt X Y g w last hs wr) : ∃ S, Y S wr := by obtain ⟨tag, A, h1, h2, h3⟩ := H; exact ⟨_, h3⟩
theorem TSt.swap (H : TSt X Y g w last hs wr) : TSt Y X g w last hs wr → True := fun _ => trivial
/-- the things X are changed, or laid anew -/
theorem TSt.updX (hY : Framed Y) (H : TSt X Y g w last hs wr) (C : ∀ S, X S wr → X' (fun k => S k ∨ wr.heap.size ≤ k) w' ∧ Only S wr w') (hX' : Framed X') : TSt X' Y g w last hs w' := by
  obtain ⟨tag, A, h1, h2, h3⟩ := H
  obtain ⟨c1, c2⟩ := C _ h2
  obtain ⟨tag', A', f, n, _⟩ := A.step c2 8 (fun _ h => by omega)
  exact ⟨tag', A', f _ TabS.framed _ h1 (fun _ _ h => by omega), n _ hX' c1, f _ hY _ h3 (fun _ _ h => by omega)⟩
theorem TSt.newX (hY : Framed Y) (H : TSt X Y g w last hs wr) (hX' : Framed X') (h : X' (fun k => wr.heap.size ≤ k) w') (ho : Only (fun _ => False) wr w') : TSt X' Y g w last hs w' :=
  H.updX hY (fun S _ => ⟨hX'.mono _ _ _ h (fun _ _ h => .inr h), ho.mono (fun _ _ h => h.elim)⟩) hX'
theorem TSt.newY {Y' : Th} (hX : Framed X) (H : TSt X Y g w last hs wr) (hY' : Framed Y') (h : Y' (fun k => wr.heap.size ≤ k) w') (ho : Only (fun _ => False) wr w') : TSt X Y' g w last hs w' := by
  obtain ⟨tag, A, h1, h2, h3⟩ := H
  obtain ⟨tag', A', f, n, _⟩ := A.step ho 7 (fun _ h => h.elim)
  exact ⟨tag', A', f _ TabS.framed _ h1 (fun _ _ h => h), f _ hX _ h2 (fun _ _ h => h), n _ hY' (hY'.mono _ _ _ h (fun _ _ h => .inr h))⟩
theorem TSt.weakX {X' : Th} (H : TSt X Y g w last hs wr) (h : ∀ S w, X S w → X' S w) : TSt X' Y g w last hs wr := by
  obtain ⟨tag, A, h1, h2, h3⟩ := H
  exact ⟨tag, A, h1, h _ _ h2, h3⟩
/-- a call on the table -/
theorem TSt.call (hX : Framed X) (hY : Framed Y) {last' : Int} {hs' : List Pub} (H : TSt X Y g w last hs wr) {f : FuncId} {args : Array Value} {E : Ending → Prop} {pr : Program}
    (C : ∀ S S8 S7 : Nat → Prop, X S8 wr → Y S7 wr → (∀ j, S j → ¬ S8 j ∧ ¬ S7 j) → TabS g last hs S wr → Calls pr f args wr fun e w' => E e ∧ TabS g last' hs' S w' ∧ Only S wr w') : Calls pr f args wr fun e w' => E e ∧ TSt X Y g w last' hs' w' := by
  obtain ⟨tag, A, t1, t2, t3⟩ := H
  refine (C _ _ _ t2 t3 (fun j hj => by omega) t1).mono fun e w' ⟨he, ht, ho⟩ => ⟨he, ?_⟩
  obtain ⟨tag', A', f, n', _⟩ := A.step ho 1 (fun _ h => by omega)
  exact ⟨tag', A', n' _ TabS.framed (TabS.framed.mono _ _ _ ht (fun _ _ h => .inl h)), f _ hX _ t2 (fun _ _ h => by omega), f _ hY _ t3 (fun _ _ h => by omega)⟩
theorem attachT (hX : Framed X) (hY : Framed Y) (V : TSt X Y g w last hs wr) (h4 : hs.length ≤ 4) (h0 : 0 ≤ last) (h1 : last < 9223372036854775807) (hook prog : Int) :
    Calls Try.prog 10 #[.pointer (some ⟨g, 0, none⟩), .int .i64 hook, .int .i64 prog] wr fun e w' => e = .returned (.tuple #[.int .i64 (attachOf hs last hook prog).1, .int .i64 (attachOf hs last hook prog).2.1]) ∧ TSt X Y g w (attachOf hs last hook prog).2.2.1 (attachOf hs last hook prog).2.2.2 w' :=
  V.call hX hY (fun S _ _ _ _ _ h => attach_any g last hs hook prog S wr h h4 h0 h1)
theorem swapT (hX : Framed X) (hY : Framed Y) (V : TSt X Y g w last hs wr) (h4 : hs.length ≤ 4) (h0 : 0 ≤ last) (h1 : last < 9223372036854775807) (hook prog : Int) :
    Calls Try.prog 9 #[.pointer (some ⟨g, 0, none⟩), .int .i64 hook, .int .i64 prog] wr fun e w' => e = .returned (.tuple #[.int .i64 (swapOf hs last hook prog).1, .int .i64 (swapOf hs last hook prog).2.1]) ∧ TSt X Y g w (swapOf hs last hook prog).2.2.1 (swapOf hs last hook prog).2.2.2 w' :=
  V.call hX hY (fun S _ _ _ _ _ h => swap_any g last hs hook prog S wr h h4 h0 h1)
theorem currentT (hX : Framed X) (hY : Framed Y) (V : TSt X Y g w last hs wr) (h4 : hs.length ≤ 4) (h : Int) :
    Calls Try.prog 12 #[.pointer (some ⟨g, 0, none⟩), .int .i64 h] wr fun e w' => e = .returned (.tuple #[.int .i64 (currentOf hs h).1, .int .i64 (currentOf hs h).2.1, .bool (currentOf hs h).2.2]) ∧ TSt X Y g w last hs w' := by
  have V0 := V
  obtain ⟨tag, A, t1, t2, t3⟩ := V
  exact (current_any g last hs h _ wr t1 h4).mono fun e w' ⟨he, ho⟩ => ⟨he, V0.fresh hX hY ho⟩
theorem lastT (V : TSt X Y g w last hs wr) : Calls Try.prog 14 #[.pointer (some ⟨g, 0, none⟩)] wr fun e w' => e = .returned (.int .i64 last) ∧ wr = w' := by
  obtain ⟨tag, A, ⟨v, t1⟩, t2⟩ := V
  exact last_any g last wr (blk_cell t1.1 0)
/-- Detach of a list that lies among X -/
theorem detachT (hX : Framed X) (hY : Framed Y) (V : TSt X Y g w last hs wr) (h4 : hs.length ≤ 4) (vl : Value) (l : List Int) (hl : ∀ S, X S wr → OwS (eInt .i64) 3 S wr vl l) :
    Calls Try.prog 13 #[.pointer (some ⟨g, 0, none⟩), vl] wr fun e w' => e = .returned (.int .i64 (detachOf hs l).1) ∧ TSt X Y g w last (detachOf hs l).2 w' :=
  V.call hX hY (fun S S8 _ hx _ hd h => detach_any g last hs l vl S wr h h4 (hl _ hx).rd (by
    intro a n c e h0 hs
    exact (hd _ hs).1 ((hl _ hx).2 _ (by rw [e]; exact (by
      have := (hl _ hx).1
      rw [e] at this
      obtain ⟨_, ao, cap, e2, _, _, _, h⟩ := this
      obtain ⟨rfl, _, _⟩ : some a = ao ∧ _ := by simpa using e2
      obtain ⟨b, off, _, rfl, _⟩ := h a rfl
      rfl)))))
theorem whereT (hX : Framed X) (hY : Framed Y) (V : TSt X Y g w last hs wr) (h4 : hs.length ≤ 4) (vp : Value) (ps : List Int) (hp : Rd (eInt .i64) wr vp ps) :
    Calls Try.prog 11 #[.pointer (some ⟨g, 0, none⟩), vp] wr fun e w' => ∃ v', e = .returned v' ∧ OwS (eInt .i64) 3 (fun k => wr.heap.size ≤ k) w' v' (whereTo hs ps hs.length) ∧ Only (fun _ => False) wr w' := by
  obtain ⟨tag, A, t1, t2, t3⟩ := V
  exact where_any g last hs ps vp _ wr t1 h4 hp
end
theorem attachOf_len (hs : List Pub) (last h p : Int) : (attachOf hs last h p).2.2.2.length = hs.length ∧ last ≤ (attachOf hs last h p).2.2.1 ∧ (attachOf hs last h p).2.2.1 ≤ last + 1 := by
  unfold attachOf; split
  · simp; omega
  · split <;> simp <;> omega
theorem swapOf_len (hs : List Pub) (last h p : Int) : (swapOf hs last h p).2.2.2.length = hs.length ∧ last ≤ (swapOf hs last h p).2.2.1 ∧ (swapOf hs last h p).2.2.1 ≤ last + 1 := by
  unfold swapOf; split
  · simp; omega
  · split <;> simp <;> omega
end Go.Proofs.Ythemkcgifefjmaa
