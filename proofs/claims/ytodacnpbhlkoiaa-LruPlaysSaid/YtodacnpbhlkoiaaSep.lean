/- Two things apart (Sep); what a call leaves of a thing (Upd); blocks of the call's own (Locs). -/
import Derived.Test.YtodacnpbhlkoiaaFoot
namespace Go.Proofs.Ytodacnpbhlkoiaa
open Go.RowKit
set_option linter.unusedVariables false

/-- two things, their blocks apart -/
def Sep (P Q : (Nat → Prop) → World → Prop) (S : Nat → Prop) (w : World) : Prop := ∃ A B : Nat → Prop, (∀ k, A k → B k → False) ∧ (∀ k, A k → S k) ∧ (∀ k, B k → S k) ∧ P A w ∧ Q B w
theorem Sep.framed {P Q : (Nat → Prop) → World → Prop} (hP : Framed P) (hQ : Framed Q) : Framed (Sep P Q) where
  only S F w w' H ho hn := by
    obtain ⟨A, B, hd, hA, hB, hp, hq⟩ := H
    exact ⟨A, B, hd, hA, hB, hP.only A F w w' hp ho fun k hk h => hn k hk (hA k h), hQ.only B F w w' hq ho fun k hk h => hn k hk (hB k h)⟩
  mono S S' w H hs := by
    obtain ⟨A, B, hd, hA, hB, hp, hq⟩ := H
    exact ⟨fun k => A k ∧ k < w.heap.size, fun k => B k ∧ k < w.heap.size, fun k h1 h2 => hd k h1.1 h2.1, fun k h => hs k h.2 (hA k h.1), fun k h => hs k h.2 (hB k h.1), hP.mono A _ w hp fun k hk h => ⟨h, hk⟩, hQ.mono B _ w hq fun k hk h => ⟨h, hk⟩⟩
/-- what a call that has S leaves -/
def Upd (P : (Nat → Prop) → World → Prop) (S : Nat → Prop) (w w' : World) : Prop := P (fun k => S k ∨ w.heap.size ≤ k) w' ∧ Only S w w'
theorem Upd.refl {P : (Nat → Prop) → World → Prop} (hP : Framed P) {S : Nat → Prop} {w : World} (h : P S w) : Upd P S w w := ⟨hP.mono _ _ _ h fun _ _ h => .inl h, Only.refl _ _⟩
theorem Upd.step {P Q : (Nat → Prop) → World → Prop} (hQ : Framed Q) {S : Nat → Prop} {w w1 w2 : World} (h : Upd P S w w1) (k : Upd Q (fun k => S k ∨ w.heap.size ≤ k) w1 w2) : Upd Q S w w2 :=
  ⟨hQ.mono _ _ _ k.1 fun j _ hj => by
    rcases hj with hj | hj
    · exact hj
    · exact .inr (Nat.le_trans h.2.size hj), h.2.trans k.2 fun j hj hs => by
    rcases hs with hs | hs
    · exact hs
    · omega⟩
theorem Upd.imp {P Q : (Nat → Prop) → World → Prop} {S : Nat → Prop} {w w' : World} (h : Upd P S w w') (hpq : ∀ T, P T w' → Q T w') : Upd Q S w w' := ⟨hpq _ h.1, h.2⟩
theorem Upd.fresh {P : (Nat → Prop) → World → Prop} (hP : Framed P) {S : Nat → Prop} {w w1 w2 : World} (h : Upd P S w w1) (ho : Only (fun _ => False) w1 w2) : Upd P S w w2 :=
  h.step hP ⟨hP.only _ _ _ _ (hP.mono _ _ _ h.1 fun _ _ h => .inl h) ho fun _ _ _ h => h, ho.mono fun _ _ h => h.elim⟩
theorem Sep.focus {P Q : (Nat → Prop) → World → Prop} (hQ : Framed Q) {S : Nat → Prop} {w : World} (H : Sep P Q S w) : ∃ A, P A w ∧ ∀ P' w', Framed P' → Upd P' A w w' → Upd (Sep P' Q) S w w' := by
  obtain ⟨A, B, hd, hA, hB, hp, hq⟩ := H
  refine ⟨A, hp, fun P' w' hP' hu => ⟨⟨fun k => (A k ∧ k < w.heap.size) ∨ w.heap.size ≤ k, fun k => B k ∧ k < w.heap.size, ?_, ?_, ?_, ?_, ?_⟩, hu.2.mono fun k _ h => hA k h⟩⟩
  · rintro k (h1 | h1) h2
    · exact hd k h1.1 h2.1
    · omega
  · rintro k (h | h)
    · exact .inl (hA k h.1)
    · exact .inr h
  · exact fun k h => .inl (hB k h.1)
  · exact hP'.mono _ _ _ hu.1 fun k _ h => by
      rcases h with h | h
      · by_cases hk : k < w.heap.size
        · exact .inl ⟨h, hk⟩
        · exact .inr (by omega)
      · exact .inr h
  · exact hQ.only _ _ _ _ (hQ.mono _ _ _ hq fun k hk h => ⟨h, hk⟩) hu.2 fun k _ h hA' => hd k hA' h.1
theorem Sep.swap {P Q : (Nat → Prop) → World → Prop} {S : Nat → Prop} {w : World} (H : Sep P Q S w) : Sep Q P S w := by
  obtain ⟨A, B, hd, hA, hB, hp, hq⟩ := H
  exact ⟨B, A, fun k h1 h2 => hd k h2 h1, hB, hA, hq, hp⟩
theorem Sep.focusR {P Q : (Nat → Prop) → World → Prop} (hP : Framed P) {S : Nat → Prop} {w : World} (H : Sep P Q S w) : ∃ B, Q B w ∧ ∀ Q' w', Framed Q' → Upd Q' B w w' → Upd (Sep P Q') S w w' := by
  obtain ⟨B, hq, hb⟩ := H.swap.focus hP
  exact ⟨B, hq, fun Q' w' hQ' hu => (hb Q' w' hQ' hu).imp fun T h => h.swap⟩
theorem Sep.imp {P P' Q Q' : (Nat → Prop) → World → Prop} {S : Nat → Prop} {w : World} (H : Sep P Q S w) (hp : ∀ T, P T w → P' T w) (hq : ∀ T, Q T w → Q' T w) : Sep P' Q' S w := by
  obtain ⟨A, B, hd, hA, hB, p, q⟩ := H
  exact ⟨A, B, hd, hA, hB, hp _ p, hq _ q⟩
theorem Sep.left {P Q : (Nat → Prop) → World → Prop} (hP : Framed P) {S : Nat → Prop} {w : World} (H : Sep P Q S w) : P S w := by
  obtain ⟨A, B, hd, hA, hB, hp, hq⟩ := H
  exact hP.mono _ _ _ hp fun k _ h => hA k h
theorem Sep.right {P Q : (Nat → Prop) → World → Prop} (hQ : Framed Q) {S : Nat → Prop} {w : World} (H : Sep P Q S w) : Q S w := by
  obtain ⟨A, B, hd, hA, hB, hp, hq⟩ := H
  exact hQ.mono _ _ _ hq fun k _ h => hB k h
theorem Sep.assoc {P Q R : (Nat → Prop) → World → Prop} {S : Nat → Prop} {w : World} (H : Sep (Sep P Q) R S w) : Sep P (Sep Q R) S w := by
  obtain ⟨AB, C, hd, hAB, hC, ⟨A, B, hd2, hA, hB, hp, hq⟩, hr⟩ := H
  refine ⟨A, fun k => B k ∨ C k, ?_, fun k h => hAB k (hA k h), ?_, hp, B, C, fun k h => hd k (hB k h), fun k h => .inl h, fun k h => .inr h, hq, hr⟩
  · rintro k h1 (h2 | h2)
    · exact hd2 k h1 h2
    · exact hd k (hA k h1) h2
  · rintro k (h | h)
    · exact hAB k (hB k h)
    · exact hC k h
theorem Sep.assoc' {P Q R : (Nat → Prop) → World → Prop} {S : Nat → Prop} {w : World} (H : Sep P (Sep Q R) S w) : Sep (Sep P Q) R S w := by
  have h := H.swap
  obtain ⟨BC, A, hd, hBC, hA, ⟨B, C, hd2, hB, hC, hq, hr⟩, hp⟩ := h
  refine ⟨fun k => A k ∨ B k, C, ?_, ?_, fun k h => hBC k (hC k h), ⟨A, B, fun k h1 h2 => hd k (hB k h2) h1, fun k h => .inl h, fun k h => .inr h, hp, hq⟩, hr⟩
  · rintro k (h1 | h1) h2
    · exact hd k (hC k h2) h1
    · exact hd2 k h1 h2
  · rintro k (h | h)
    · exact hA k h
    · exact hBC k (hB k h)
/-- something new beside -/
theorem Upd.add {P Q : (Nat → Prop) → World → Prop} (hP : Framed P) (hQ : Framed Q) {S : Nat → Prop} {w w1 w2 : World} (h : Upd P S w w1) (hq : Q (fun k => w1.heap.size ≤ k) w2) (ho : Only (fun _ => False) w1 w2) : Upd (Sep P Q) S w w2 := by
  refine h.step (Sep.framed hP hQ) ⟨⟨fun k => (S k ∨ w.heap.size ≤ k) ∧ k < w1.heap.size, fun k => w1.heap.size ≤ k, fun k h1 h2 => ?_, fun k h => .inl h.1, fun k h => .inr h, ?_, hq⟩, ho.mono fun _ _ h => h.elim⟩
  · omega
  · exact hP.only _ _ _ _ (hP.mono _ _ _ h.1 fun k hk h => ⟨h, hk⟩) ho fun _ _ _ h => h
/-- blocks of the call's own, known whole -/
def Locs (L : List (Nat × Obj)) (S : Nat → Prop) (w : World) : Prop := ∀ p ∈ L, w.heap[p.1]? = some p.2 ∧ S p.1
theorem Locs.framed {L : List (Nat × Obj)} : Framed (Locs L) where
  only S F w w' h ho hn p hp := ⟨ho.heap (h p hp).1 (hn _ (heap_lt (h p hp).1) (h p hp).2), (h p hp).2⟩
  mono S S' w h hs p hp := ⟨(h p hp).1, hs _ (heap_lt (h p hp).1) (h p hp).2⟩
theorem Locs.nil (S : Nat → Prop) (w : World) : Locs [] S w := fun p h => by simp at h
theorem Sep.nil {P : (Nat → Prop) → World → Prop} {S : Nat → Prop} {w : World} (h : P S w) : Sep P (Locs []) S w := ⟨S, fun _ => False, fun _ _ h => h, fun _ h => h, fun _ h => h.elim, h, Locs.nil _ _⟩
theorem Upd.loc {P : (Nat → Prop) → World → Prop} (hP : Framed P) {S : Nat → Prop} {w w1 : World} {L : List (Nat × Obj)} (h : Upd (Sep P (Locs L)) S w w1) (o : Obj) : Upd (Sep P (Locs ((w1.heap.size, o) :: L))) S w (w1.alloc o) := by
  have h2 := h.add (Sep.framed hP Locs.framed) (Q := Locs [(w1.heap.size, o)]) Locs.framed (fun p hp => by simp at hp; subst hp; exact ⟨heap_alloc_new w1 o, Nat.le_refl _⟩) (Only.alloc _ w1 o)
  refine h2.imp fun T hT => ?_
  refine hT.assoc.imp (fun _ h => h) fun T h => ?_
  obtain ⟨A, B, hd, hA, hB, ha, hb⟩ := h
  intro p hp
  rcases List.mem_cons.1 hp with rfl | hp
  · exact ⟨(hb _ (by simp)).1, hB _ (hb _ (by simp)).2⟩
  · exact ⟨(ha p hp).1, hA _ (ha p hp).2⟩
/-- the blocks of L are changed, and nothing else -/
theorem Upd.locs {P : (Nat → Prop) → World → Prop} (hP : Framed P) {S : Nat → Prop} {w w1 w2 : World} {L M : List (Nat × Obj)} (h : Upd (Sep P (Locs L)) S w w1) (ho : Only (fun k => ∃ p ∈ L, p.1 = k) w1 w2) (hM : ∀ p ∈ M, w2.heap[p.1]? = some p.2 ∧ (w1.heap.size ≤ p.1 ∨ ∃ q ∈ L, q.1 = p.1)) : Upd (Sep P (Locs M)) S w w2 := by
  obtain ⟨B, hB, hb⟩ := h.1.focusR hP
  refine h.step (Sep.framed hP Locs.framed) (hb (Locs M) w2 Locs.framed ⟨fun p hp => ⟨(hM p hp).1, ?_⟩, ho.mono fun k _ ⟨p, hp, e⟩ => e ▸ (hB p hp).2⟩)
  rcases (hM p hp).2 with h | ⟨q, hq, e⟩
  · exact .inr h
  · exact .inl (e ▸ (hB q hq).2)
theorem Upd.get {P : (Nat → Prop) → World → Prop} {S : Nat → Prop} {w w1 : World} {L : List (Nat × Obj)} (h : Upd (Sep P (Locs L)) S w w1) {g : Nat} {o : Obj} (hm : (g, o) ∈ L) : w1.heap[g]? = some o := by
  obtain ⟨A, B, _, _, _, _, hq⟩ := h.1
  exact (hq _ hm).1
theorem Upd.drop {P Q : (Nat → Prop) → World → Prop} (hP : Framed P) {S : Nat → Prop} {w w1 : World} (h : Upd (Sep P Q) S w w1) : Upd P S w w1 := h.imp fun _ h => h.left hP
theorem Upd.start {P : (Nat → Prop) → World → Prop} (hP : Framed P) {S : Nat → Prop} {w : World} (h : P S w) : Upd (Sep P (Locs [])) S w w := Upd.refl (Sep.framed hP Locs.framed) (Sep.nil h)
/-- a call on the thing, its own blocks apart -/
theorem Upd.call {P R : (Nat → Prop) → World → Prop} (hR : Framed R) (hP : Framed P) {S : Nat → Prop} {w w1 : World} (h : Upd (Sep P R) S w w1) : ∃ A, P A w1 ∧ ∀ P' w', Framed P' → Upd P' A w1 w' → Upd (Sep P' R) S w w' := by
  obtain ⟨A, hA, hb⟩ := h.1.focus hR
  exact ⟨A, hA, fun P' w' hP' hu => h.step (Sep.framed hP' hR) (hb P' w' hP' hu)⟩
theorem OwS.shape' {α : Type} {E : Enc α} {ty : Nat} {S : Nat → Prop} {w : World} {v : Value} {xs : List α} (h : OwS E ty S w v xs) : ∃ a n c, v = .slice a n c := by
  obtain ⟨⟨_, ao, cap, rfl, _⟩, _⟩ := h; exact ⟨_, _, _, rfl⟩
end Go.Proofs.Ytodacnpbhlkoiaa
