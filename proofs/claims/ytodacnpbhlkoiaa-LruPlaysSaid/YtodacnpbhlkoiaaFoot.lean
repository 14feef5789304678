/- Footprints: which blocks a thing has, and what a change elsewhere leaves of it. -/
import Derived.Test.YtodacnpbhlkoiaaOnly
namespace Go.Proofs.Ytodacnpbhlkoiaa
open Go.RowKit
set_option linter.unusedVariables false

/-- a slice of the call's own, its block among S -/
def OwS {α : Type} (E : Enc α) (ty : Nat) (S : Nat → Prop) (w : World) (v : Value) (xs : List α) : Prop := Ow E 0 ty w v xs ∧ ∀ k, v.ownBlock = some k → S k

/-- what is said of the blocks S alone stays where they stay, and may be said of more blocks -/
structure Framed (X : (Nat → Prop) → World → Prop) : Prop where
  only : ∀ S F w w', X S w → Only F w w' → (∀ k, k < w.heap.size → S k → ¬ F k) → X S w'
  mono : ∀ S S' w, X S w → (∀ k, k < w.heap.size → S k → S' k) → X S' w

theorem OwS.framed {α : Type} {E : Enc α} {ty : Nat} {v : Value} {xs : List α} : Framed (fun S w => OwS E ty S w v xs) where
  only S F w w' h ho hn := ⟨h.1.only ho fun k hk => hn k (h.1.lt hk).2 (h.2 k hk), h.2⟩
  mono S S' w h hs := ⟨h.1, fun k hk => hs k (h.1.lt hk).2 (h.2 k hk)⟩
theorem OwS.nil {α : Type} {E : Enc α} {ty : Nat} (S : Nat → Prop) (w : World) : OwS E ty S w (.slice none 0 0) ([] : List α) := ⟨Ow.nil _ _ _, fun k h => by simp [Value.ownBlock] at h⟩
theorem OwS.of_ow {α : Type} {E : Enc α} {ty base : Nat} {w : World} {v : Value} {xs : List α} (h : Ow E base ty w v xs) : OwS E ty (fun k => base ≤ k) w v xs := ⟨h.mono (Nat.zero_le _), fun k hk => (h.lt hk).1⟩
theorem OwS.rd {α : Type} {E : Enc α} {ty : Nat} {S : Nat → Prop} {w : World} {v : Value} {xs : List α} (h : OwS E ty S w v xs) : Rd E w v xs := h.1.rd

/-- who has which block: new ones go to i -/
def ntag (tag : Nat → Nat) (n i : Nat) : Nat → Nat := fun k => if k < n then tag k else i
theorem ntag_lt {tag : Nat → Nat} {n i k : Nat} (h : k < n) : ntag tag n i k = tag k := if_pos h
theorem ntag_ge {tag : Nat → Nat} {n i k : Nat} (h : n ≤ k) : ntag tag n i k = i := if_neg (by omega)

/-- the blocks from base on have owners (from 1 on); what lies below base is as it was -/
structure Arena (base : Nat) (w0 w : World) (tag : Nat → Nat) : Prop where
  below : Below base w0 w
  size : base ≤ w.heap.size
  zero : ∀ k, k < base → tag k = 0

theorem Arena.start (w : World) : Arena w.heap.size w w (fun _ => 0) := ⟨Below.refl _ _, Nat.le_refl _, fun _ _ => rfl⟩
theorem Arena.of_below {w w1 : World} {base : Nat} (h : Below base w w1) (hb : base ≤ w.heap.size) : Arena base w w1 (fun _ => 0) := ⟨h, Nat.le_trans hb h.size, fun _ _ => rfl⟩
theorem Arena.drewN {base : Nat} {w0 w : World} {tag : Nat → Nat} (A : Arena base w0 w tag) (n : Nat) : Arena base w0 (w.drewN n) tag := ⟨below_drewN A.below n, A.size, A.zero⟩
/-- a step that changes F's blocks alone, its new blocks being i's -/
theorem Arena.step {base : Nat} {w0 w w' : World} {tag : Nat → Nat} (A : Arena base w0 w tag) {F : Nat → Prop} (ho : Only F w w') (i : Nat) (hF : ∀ k, F k → tag k ≠ 0) :
    ∃ tag', Arena base w0 w' tag' ∧
      (∀ X, Framed X → ∀ j, X (fun k => tag k = j) w → (∀ k, tag k = j → ¬ F k) → X (fun k => tag' k = j) w') ∧
      (∀ X, Framed X → X (fun k => tag k = i ∨ w.heap.size ≤ k) w' → X (fun k => tag' k = i) w') ∧
      (∀ X, Framed X → ∀ j, X (fun k => tag k = j ∧ k < w.heap.size) w' → X (fun k => tag' k = j) w') := by
  refine ⟨ntag tag w.heap.size i, ⟨A.below.trans (ho.below A.size fun k hk => ?_), Nat.le_trans A.size ho.size, fun k hk => ?_⟩, fun X hX j hx hj => ?_, fun X hX hx => ?_, fun X hX j hx => ?_⟩
  · by_cases h : base ≤ k
    · exact h
    · exact absurd (A.zero k (by omega)) (hF k hk)
  · rw [ntag_lt (by have := A.size; omega)]; exact A.zero k hk
  · refine hX.only _ F w w' (hX.mono _ _ w hx fun k hk h => by rw [ntag_lt hk]; exact h) ho fun k hk h => hj k (by rw [ntag_lt hk] at h; exact h)
  · refine hX.mono _ _ w' hx fun k hk h => ?_
    by_cases hlt : k < w.heap.size
    · rw [ntag_lt hlt]; rcases h with h | h
      · exact h
      · omega
    · exact ntag_ge (by omega)
  · refine hX.mono _ _ w' hx fun k hk h => ?_
    rw [ntag_lt h.2]; exact h.1

theorem Framed.and {X Y : (Nat → Prop) → World → Prop} (hX : Framed X) (hY : Framed Y) : Framed (fun S w => X S w ∧ Y S w) where
  only S F w w' h ho hn := ⟨hX.only _ _ _ _ h.1 ho hn, hY.only _ _ _ _ h.2 ho hn⟩
  mono S S' w h hs := ⟨hX.mono _ _ _ h.1 hs, hY.mono _ _ _ h.2 hs⟩
theorem Framed.ex {β : Type} {X : β → (Nat → Prop) → World → Prop} (hX : ∀ x, Framed (X x)) : Framed (fun S w => ∃ x, X x S w) where
  only S F w w' h ho hn := let ⟨x, hx⟩ := h; ⟨x, (hX x).only _ _ _ _ hx ho hn⟩
  mono S S' w h hs := let ⟨x, hx⟩ := h; ⟨x, (hX x).mono _ _ _ hx hs⟩
theorem Framed.pure (p : Prop) : Framed (fun _ _ => p) where
  only _ _ _ _ h _ _ := h
  mono _ _ _ h _ := h
theorem Framed.imp {X : (Nat → Prop) → World → Prop} {p : Prop} (hX : p → Framed X) : Framed (fun S w => p → X S w) where
  only S F w w' h ho hn := fun hp => (hX hp).only _ _ _ _ (h hp) ho hn
  mono S S' w h hs := fun hp => (hX hp).mono _ _ _ (h hp) hs
/-- a single block, known whole -/
def Blk (g : Nat) (o : Obj) (S : Nat → Prop) (w : World) : Prop := w.heap[g]? = some o ∧ S g
theorem Blk.framed {g : Nat} {o : Obj} : Framed (Blk g o) where
  only S F w w' h ho hn := ⟨ho.heap h.1 (hn g (heap_lt h.1) h.2), h.2⟩
  mono S S' w h hs := ⟨h.1, hs g (heap_lt h.1) h.2⟩

theorem Only.tr {F : Nat → Prop} {a b c : World} (h : Only F a b) (k : Only F b c) : Only F a c := h.trans k fun _ _ h => h
theorem Only.fresh {F : Nat → Prop} {w w' : World} (h : Only (fun k => F k ∨ w.heap.size ≤ k) w w') : Only F w w' := h.mono fun k hk h => h.elim id fun h => by omega
theorem Framed.alloc {X : (Nat → Prop) → World → Prop} (hX : Framed X) {S : Nat → Prop} {w : World} (h : X S w) (o : Obj) : X S (w.alloc o) := hX.only _ (fun _ => False) _ _ h (Only.alloc _ _ _) (fun _ _ _ h => h)
theorem Framed.drewN {X : (Nat → Prop) → World → Prop} (hX : Framed X) {S : Nat → Prop} {w : World} (h : X S w) (n : Nat) : X S (w.drewN n) := hX.only _ (fun _ => False) _ _ h ((Only.refl _ _).drewN n) (fun _ _ _ h => h)
theorem size_le_alloc2 (w : World) (o p : Obj) : w.heap.size ≤ ((w.alloc o).alloc p).heap.size := Nat.le_trans (size_le_alloc w o) (size_le_alloc _ p)
theorem Framed.widen {X : (Nat → Prop) → World → Prop} (hX : Framed X) {S : Nat → Prop} {w : World} {n m : Nat} (h : X (fun k => S k ∨ n ≤ k) w) (hm : m ≤ n) : X (fun k => S k ∨ m ≤ k) w := hX.mono _ _ _ h fun _ _ h => h.imp_right fun h => Nat.le_trans hm h
/-- a literal slice behind one new block, and behind two -/
theorem Rd.lit2 {α : Type} {E : Enc α} (w : World) (o : Obj) (cs : Array Value) (e : TypeId) (fr : Nat × Nat) (n c : Nat) (xs : List α) (hcs : cs.toList = E.all xs) (hn : n = xs.length) (hc : n ≤ c) (hm : n ≤ maxLen) :
    Rd E ((w.alloc o).alloc (.cells cs e fr)) (.slice (some ⟨w.heap.size + 1, 0, none⟩) n c) xs := by
  have h := Rd.lit (E := E) (w.alloc o) cs e fr n c xs hcs hn hc hm
  have hs : (w.alloc o).heap.size = w.heap.size + 1 := by simp
  rw [hs] at h; exact h
/-- an append in a plain region, by footprints -/
theorem wl_appendS {α : Type} {E : Enc α} {P : Program} {w : World} {ops : Array Oper} {rest : List Oper} {o : Oper} {a : Act} {Q : Exit → Act → World → Prop} (hgd : o.guard = none) (s x : Operand) (t : TypeId)
    (ho : o.op = .call { callee := .builtin .append, args := #[s, x], argTypes := #[t, t] })
    (e bytes : Nat) (hI : SliceInfo P t e E.size bytes) (S : Nat → Prop) (v : Value) (xs : List α) (hs : a.eval s = v) (hown : OwS E e S w v xs)
    (u : Value) (ys : List α) (hx : a.eval x = u) (hr : Rd E w u ys)
    (hbytes : (5 * (xs.length + ys.length) + 2816) * bytes ≤ 1125899906842624) (h63 : xs.length + ys.length ≤ maxLen)
    (h : ∀ v' w', OwS E e (fun k => S k ∨ w.heap.size ≤ k) w' v' (xs ++ ys) → Only S w w' → wpList P ops Q rest (a.put o.dst v') w') : wpList P ops Q (o :: rest) a w :=
  wl_append hgd s x t ho 0 e bytes hI v xs hs hown.1 u ys hx hr hbytes h63 (Nat.zero_le _) fun v' w' h1 h2 h3 _ =>
    h v' w' ⟨h1, fun k hk => by
      rcases h3 with h3 | h3
      · exact .inl (hown.2 k (by rw [← h3.1]; exact hk))
      · exact .inr (h3 k hk)⟩ (Only.of_grown h2 fun k hk => hown.2 k hk)
theorem Ow.tail {α : Type} {E : Enc α} {w : World} {base e : Nat} {ao : Option Addr} {n cap : Nat} {x : α} {xs : List α} (h : Ow E base e w (.slice ao n cap) (x :: xs)) :
    Ow E base e w (.slice (if cap = 1 then ao else ao.map (fun y => y.add E.size)) (n - 1) (cap - 1)) xs := by
  obtain ⟨hm, ao', cap', he, h1, h2, h3, h4⟩ := h
  obtain ⟨rfl, rfl, rfl⟩ : ao = ao' ∧ n = (x :: xs).length ∧ cap = cap' := by simpa using he
  simp only [List.length_cons] at hm h1
  refine ⟨by omega, (if cap = 1 then ao else ao.map (fun y => y.add E.size)), cap - 1, by simp, by omega, by omega, fun hn => ?_, fun a ha => ?_⟩
  · split at hn
    · omega
    · have := h3 (by simpa using hn); omega
  · split at ha
    · rename_i h1'
      subst ha
      obtain ⟨g, off, cur, hgo, hg, hh, hs, ht⟩ := h4 a rfl
      refine ⟨g, off, cur, hgo, hg, hh, by rw [h1'] at hs ⊢; omega, ?_⟩
      have : xs = [] := List.eq_nil_of_length_eq_zero (by omega)
      subst this
      simp [Enc.all]
    · cases ao with
      | none => simp at ha
      | some a0 =>
        obtain ⟨g, off, cur, rfl, hg, hh, hs, ht⟩ := h4 a0 rfl
        have hz : E.size ≠ 0 := by have := E.pos; omega
        have ha' : a = ⟨g, off + E.size, none⟩ := by simpa [Addr.add, hz] using ha.symm
        have hmul : cap * E.size = (cap - 1) * E.size + E.size := by
          conv => lhs; rw [show cap = (cap - 1) + 1 by omega]
          rw [Nat.add_mul, Nat.one_mul]
        refine ⟨g, off + E.size, cur, ha', hg, hh, by omega, ?_⟩
        have h5 := congrArg (List.drop E.size) ht
        rw [List.drop_take, List.drop_drop, Enc.all_cons, List.drop_left' (E.len x)] at h5
        rw [← h5]
        congr 1
        rw [List.length_cons, Nat.add_mul]; omega

theorem OwS.tail {α : Type} {E : Enc α} {w : World} {e : Nat} {S : Nat → Prop} {ao : Option Addr} {n cap : Nat} {x : α} {xs : List α} (h : OwS E e S w (.slice ao n cap) (x :: xs)) :
    OwS E e S w (.slice (if cap = 1 then ao else ao.map (fun y => y.add E.size)) (n - 1) (cap - 1)) xs := by
  refine ⟨h.1.tail, fun k hk => h.2 k ?_⟩
  cases ao with
  | none => split at hk <;> exact hk
  | some a =>
    split at hk
    · exact hk
    · obtain ⟨b, o, s⟩ := a
      by_cases hz : E.size = 0 <;> simpa [Value.ownBlock, Addr.add, hz] using hk
end Go.Proofs.Ytodacnpbhlkoiaa
