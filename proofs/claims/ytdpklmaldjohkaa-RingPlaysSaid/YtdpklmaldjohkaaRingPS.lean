/- Layer 16: a ring and the document's ring, side by side; two such pairs that share their numbers. -/
import Derived.Test.YtdpklmaldjohkaaRing5
import Derived.Test.YtdpklmaldjohkaaRingAwake
import Derived.Test.YtdpklmaldjohkaaRingDec
namespace Go.Proofs.Ytdpklmaldjohkaa
open Go.RowKit
set_option linter.unusedVariables false

structure PS where
  room : Int
  T : Nat
  rf : Int
  closed : Bool
  all : List Qd
def PS.ring (p : PS) (g h : Nat) : (Nat → Prop) → World → Prop :=
  RingS g h p.room p.closed (waitsOf p.closed p.T p.all) p.all.length p.rf p.T (if p.closed then (p.all.length : Int) - p.T else 0)
def PS.ref (p : PS) (x : Nat) : (Nat → Prop) → World → Prop := RefR x p.room p.T p.rf p.closed p.all
theorem PS.ring_framed {p : PS} {g h : Nat} : Framed (p.ring g h) := RingS.framed
theorem PS.ref_framed {p : PS} {x : Nat} : Framed (p.ref x) := Obj1.framed
def PS.good (p : PS) (k : Nat) : Prop := 1 ≤ p.room ∧ p.room ≤ 16 ∧ p.T ≤ p.all.length ∧ (p.all.length : Int) - p.T ≤ p.room ∧ 0 ≤ p.rf ∧ p.rf ≤ k ∧ p.all.length ≤ k
theorem PS.good.up {p : PS} {k : Nat} (h : p.good k) : p.good (k + 1) := by unfold PS.good at h ⊢; omega
theorem waits_len (c : Bool) (T : Nat) (all : List Qd) : (waitsOf c T all).length = if c then 0 else all.length - T := by cases c <;> simp [waitsOf]
theorem PS.counts (p : PS) {k : Nat} (h : p.good k) : (((p.all.length : Int), p.rf, (p.T : Int), (if p.closed then (p.all.length : Int) - p.T else 0), ((waitsOf p.closed p.T p.all).length : Int)) : Cts) = refCts p.T p.rf p.closed p.all := by
  unfold PS.good at h
  unfold refCts
  rw [waits_len]
  cases p.closed <;> simp <;> omega

structure FP where
  (h gs xs go xo rb mb i j i' j' : Nat)
  (rbo mbo : Obj)
  X : (Nat → Prop) → World → Prop
  hX : Framed X
def FP.ok (P : FP) : Prop := 1 ≤ P.i ∧ P.i ≤ 4 ∧ 1 ≤ P.j ∧ P.j ≤ 4 ∧ 1 ≤ P.i' ∧ P.i' ≤ 4 ∧ 1 ≤ P.j' ∧ P.j' ≤ 4 ∧ P.i ≠ P.j ∧ P.i ≠ P.i' ∧ P.i ≠ P.j' ∧ P.j ≠ P.i' ∧ P.j ≠ P.j' ∧ P.i' ≠ P.j'

def FInv (P : FP) (w : World) (last : Int) (p pm q : PS) (wr : World) : Prop :=
  ∃ tag : Nat → Nat, Arena w.heap.size w wr tag ∧ p.ring P.gs P.h (fun k => tag k = P.i) wr ∧ pm.ref P.xs (fun k => tag k = P.j) wr ∧ q.ring P.go P.h (fun k => tag k = P.i') wr ∧ q.ref P.xo (fun k => tag k = P.j') wr ∧
    NumS P.h last (fun k => tag k = 5) wr ∧ Blk P.rb P.rbo (fun k => tag k = 6) wr ∧ Blk P.mb P.mbo (fun k => tag k = 6) wr ∧ P.X (fun k => tag k = 8) wr

theorem FInv.fresh {P : FP} {w wr w' : World} {last : Int} {p pm q : PS} (F : FInv P w last p pm q wr) (ho : Only (fun _ => False) wr w') : FInv P w last p pm q w' := by
  obtain ⟨tag, A, h1, h2, h3, h4, h5, h6, h7, h9⟩ := F
  obtain ⟨tag', A', f, n, k⟩ := A.step ho 9 (fun _ h => h.elim)
  exact ⟨tag', A', f _ PS.ring_framed _ h1 (fun _ _ h => h), f _ PS.ref_framed _ h2 (fun _ _ h => h), f _ PS.ring_framed _ h3 (fun _ _ h => h), f _ PS.ref_framed _ h4 (fun _ _ h => h), f _ NumS.framed _ h5 (fun _ _ h => h), f _ Blk.framed _ h6 (fun _ _ h => h), f _ Blk.framed _ h7 (fun _ _ h => h), f _ P.hX _ h9 (fun _ _ h => h)⟩
theorem FInv.callRing {P : FP} (hP : P.ok) {w wr : World} {last : Int} {p p' pm q : PS} (F : FInv P w last p pm q wr) {f : FuncId} {args : Array Value} {E : Ending → World → Prop} {pr : Program}
    (H : ∀ S : Nat → Prop, p.ring P.gs P.h S wr → Calls pr f args wr fun e w' => E e w' ∧ p'.ring P.gs P.h (fun k => S k ∨ wr.heap.size ≤ k) w' ∧ Only S wr w') :
    Calls pr f args wr fun e w' => E e w' ∧ FInv P w last p' pm q w' := by
  obtain ⟨tag, A, h1, h2, h3, h4, h5, h6, h7, h9⟩ := F
  refine (H _ h1).mono fun e w' ⟨he, hr, ho⟩ => ⟨he, ?_⟩
  unfold FP.ok at hP
  obtain ⟨tag', A', f, n, k⟩ := A.step ho P.i (fun _ h => by omega)
  exact ⟨tag', A', n _ PS.ring_framed hr, f _ PS.ref_framed _ h2 (fun _ _ h => by omega), f _ PS.ring_framed _ h3 (fun _ _ h => by omega), f _ PS.ref_framed _ h4 (fun _ _ h => by omega), f _ NumS.framed _ h5 (fun _ _ h => by omega), f _ Blk.framed _ h6 (fun _ _ h => by omega), f _ Blk.framed _ h7 (fun _ _ h => by omega), f _ P.hX _ h9 (fun _ _ h => by omega)⟩
theorem FInv.callNum {P : FP} (hP : P.ok) {w wr : World} {last last' : Int} {p p' pm q : PS} (F : FInv P w last p pm q wr) {f : FuncId} {args : Array Value} {E : Ending → World → Prop} {pr : Program}
    (H : ∀ S T : Nat → Prop, p.ring P.gs P.h S wr → NumS P.h last T wr → Calls pr f args wr fun e w' => E e w' ∧ p'.ring P.gs P.h (fun k => S k ∨ wr.heap.size ≤ k) w' ∧ NumS P.h last' (fun k => T k ∧ k < wr.heap.size) w' ∧ Only (fun k => S k ∨ T k) wr w') :
    Calls pr f args wr fun e w' => E e w' ∧ FInv P w last' p' pm q w' := by
  obtain ⟨tag, A, h1, h2, h3, h4, h5, h6, h7, h9⟩ := F
  refine (H _ _ h1 h5).mono fun e w' ⟨he, hr, hn, ho⟩ => ⟨he, ?_⟩
  unfold FP.ok at hP
  obtain ⟨tag', A', f, n, k⟩ := A.step ho P.i (fun _ h => by omega)
  exact ⟨tag', A', n _ PS.ring_framed hr, f _ PS.ref_framed _ h2 (fun _ _ h => by omega), f _ PS.ring_framed _ h3 (fun _ _ h => by omega), f _ PS.ref_framed _ h4 (fun _ _ h => by omega), k _ NumS.framed _ hn, f _ Blk.framed _ h6 (fun _ _ h => by omega), f _ Blk.framed _ h7 (fun _ _ h => by omega), f _ P.hX _ h9 (fun _ _ h => by omega)⟩
theorem FInv.callRef {P : FP} (hP : P.ok) {w wr : World} {last : Int} {p pm pm' q : PS} (F : FInv P w last p pm q wr) {f : FuncId} {args : Array Value} {E : Ending → World → Prop} {pr : Program}
    (H : ∀ S : Nat → Prop, pm.ref P.xs S wr → Calls pr f args wr fun e w' => E e w' ∧ pm'.ref P.xs (fun k => S k ∨ wr.heap.size ≤ k) w' ∧ Only S wr w') :
    Calls pr f args wr fun e w' => E e w' ∧ FInv P w last p pm' q w' := by
  obtain ⟨tag, A, h1, h2, h3, h4, h5, h6, h7, h9⟩ := F
  refine (H _ h2).mono fun e w' ⟨he, hr, ho⟩ => ⟨he, ?_⟩
  unfold FP.ok at hP
  obtain ⟨tag', A', f, n, k⟩ := A.step ho P.j (fun _ h => by omega)
  exact ⟨tag', A', f _ PS.ring_framed _ h1 (fun _ _ h => by omega), n _ PS.ref_framed hr, f _ PS.ring_framed _ h3 (fun _ _ h => by omega), f _ PS.ref_framed _ h4 (fun _ _ h => by omega), f _ NumS.framed _ h5 (fun _ _ h => by omega), f _ Blk.framed _ h6 (fun _ _ h => by omega), f _ Blk.framed _ h7 (fun _ _ h => by omega), f _ P.hX _ h9 (fun _ _ h => by omega)⟩
/-- the other pair is looked at -/
abbrev FP.swap (P : FP) : FP := { P with gs := P.go, xs := P.xo, go := P.gs, xo := P.xs, i := P.i', j := P.j', i' := P.i, j' := P.j }
theorem FInv.swap {P : FP} {w wr : World} {last : Int} {p q : PS} (F : FInv P w last p p q wr) : FInv P.swap w last q q p wr := by
  obtain ⟨tag, A, h1, h2, h3, h4, h5, h6, h7, h9⟩ := F
  exact ⟨tag, A, h3, h4, h1, h2, h5, h6, h7, h9⟩
theorem FP.ok.swap {P : FP} (h : P.ok) : P.swap.ok := by
  obtain ⟨a1, a2, a3, a4, a5, a6, a7, a8, b1, b2, b3, b4, b5, b6⟩ := h
  exact ⟨a5, a6, a7, a8, a1, a2, a3, a4, b6, b2.symm, b4.symm, b3.symm, b5.symm, b1⟩
theorem FInv.size {P : FP} {w wr : World} {last : Int} {p pm q : PS} (F : FInv P w last p pm q wr) : w.heap.size ≤ wr.heap.size := by obtain ⟨tag, A, _⟩ := F; exact A.size
theorem FInv.below {P : FP} {w wr : World} {last : Int} {p pm q : PS} (F : FInv P w last p pm q wr) : Below w.heap.size w wr := by obtain ⟨tag, A, _⟩ := F; exact A.below

/- the calls -/
theorem acceptF_shut {P : FP} (hP : P.ok) {w wr : World} {last : Int} {p pm q : PS} (F : FInv P w last p pm q wr) (hc : p.closed = true) (e0 e1 : Int) :
    Calls Try.prog 10 #[.pointer (some ⟨P.gs, 0, none⟩), .agg #[.int .u64 e0, .int .u64 e1]] wr fun e w' => e = .returned (.tuple #[.int .i64 0, .int .i64 43]) ∧ FInv P w last p pm q w' := by
  have G := F
  obtain ⟨tag, A, h1, _⟩ := F
  unfold PS.ring at h1
  rw [hc] at h1
  exact (acceptF h1).mono fun e w' ⟨he, ho⟩ => ⟨he, G.fresh ho⟩
where acceptF {S : Nat → Prop} {g h : Nat} {room : Int} {line : List Qd} {a r t d : Int} {w : World} {e0 e1 : Int} (h1 : RingS g h room true line a r t d S w) := accept_shutS g h room line a r t d S w h1 e0 e1
theorem acceptF_full {P : FP} (hP : P.ok) {w wr : World} {last : Int} {p pm q : PS} (F : FInv P w last p pm q wr) {k : Nat} (hg : p.good k) (hk : k ≤ 8000000000000) (hc : p.closed = false) (hf : (p.all.length : Int) - p.T = p.room) (e0 e1 : Int) :
    Calls Try.prog 10 #[.pointer (some ⟨P.gs, 0, none⟩), .agg #[.int .u64 e0, .int .u64 e1]] wr fun e w' => e = .returned (.tuple #[.int .i64 0, .int .i64 40]) ∧ FInv P w last { p with rf := p.rf + 1 } pm q w' := by
  refine F.callRing hP fun S H => ?_
  unfold PS.good at hg
  unfold PS.ring at H ⊢
  rw [hc] at H
  simp only [hc]
  exact accept_fullS P.gs P.h p.room _ _ _ _ _ S wr H e0 e1 (by rw [waits_len]; simp; omega) (by omega) (by omega)
theorem acceptF_ok {P : FP} (hP : P.ok) {w wr : World} {last : Int} {p pm q : PS} (F : FInv P w last p pm q wr) {k : Nat} (hg : p.good k) (hk : k ≤ 8000000000000) (hc : p.closed = false) (hf : (p.all.length : Int) - p.T < p.room) (hl0 : 0 ≤ last) (hl1 : last ≤ k) (e0 e1 : Int) :
    Calls Try.prog 10 #[.pointer (some ⟨P.gs, 0, none⟩), .agg #[.int .u64 e0, .int .u64 e1]] wr fun e w' => e = .returned (.tuple #[.int .i64 (last + 1), .int .i64 0]) ∧ FInv P w (last + 1) { p with all := p.all ++ [(last + 1, e0, e1)] } pm q w' := by
  refine F.callNum hP fun S T H N => ?_
  unfold PS.good at hg
  unfold PS.ring at H ⊢
  rw [hc] at H
  simp only [hc]
  have hw := waits_len false p.T p.all
  simp only [Bool.false_eq_true, if_false] at hw
  have h := accept_okS P.gs P.h p.room last _ _ _ _ _ S T wr H N e0 e1 (by rw [hw]; omega) (by rw [hw]; omega) hl0 (by omega) (by omega) (by omega)
  have e1' : waitsOf false p.T (p.all ++ [(last + 1, e0, e1)]) = waitsOf false p.T p.all ++ [(last + 1, e0, e1)] := by simp [waitsOf]; rw [List.drop_append_of_le_length (by omega)]
  have e2 : ((p.all ++ [(last + 1, e0, e1)]).length : Int) = p.all.length + 1 := by simp
  rw [e1', e2]
  simpa using h
theorem refAcceptF_shut {P : FP} (hP : P.ok) {w wr : World} {last : Int} {p pm q : PS} (F : FInv P w last p pm q wr) (hc : pm.closed = true) (e0 e1 next : Int) :
    Calls Try.prog 14 #[.pointer (some ⟨P.xs, 0, none⟩), .agg #[.int .u64 e0, .int .u64 e1], .int .i64 next] wr fun e w' => e = .returned (.tuple #[.int .i64 0, .int .i64 43]) ∧ FInv P w last p pm q w' := by
  have G := F
  obtain ⟨tag, A, _, h1, _⟩ := F
  unfold PS.ref at h1
  rw [hc] at h1
  exact (refAccept_shut _ _ _ _ _ _ _ h1 e0 e1 next).mono fun e w' ⟨he, ho⟩ => ⟨he, G.fresh ho⟩
theorem refAcceptF_full {P : FP} (hP : P.ok) {w wr : World} {last : Int} {p pm q : PS} (F : FInv P w last p pm q wr) {k : Nat} (hg : pm.good k) (hk : k ≤ 8000000000000) (hc : pm.closed = false) (hf : (pm.all.length : Int) - pm.T = pm.room) (e0 e1 next : Int) :
    Calls Try.prog 14 #[.pointer (some ⟨P.xs, 0, none⟩), .agg #[.int .u64 e0, .int .u64 e1], .int .i64 next] wr fun e w' => e = .returned (.tuple #[.int .i64 0, .int .i64 40]) ∧ FInv P w last p { pm with rf := pm.rf + 1 } q w' := by
  refine F.callRef hP fun S H => ?_
  unfold PS.good at hg
  unfold PS.ref at H ⊢
  rw [hc] at H
  simp only [hc]
  exact refAccept_full _ _ _ _ _ S wr H e0 e1 next (by omega) (by omega) (by omega) (by omega) (by omega) (by omega)
theorem refAcceptF_ok {P : FP} (hP : P.ok) {w wr : World} {last : Int} {p pm q : PS} (F : FInv P w last p pm q wr) {k : Nat} (hg : pm.good k) (hk : k ≤ 7000000000000) (hc : pm.closed = false) (hf : (pm.all.length : Int) - pm.T < pm.room) (e0 e1 next : Int) :
    Calls Try.prog 14 #[.pointer (some ⟨P.xs, 0, none⟩), .agg #[.int .u64 e0, .int .u64 e1], .int .i64 next] wr fun e w' => e = .returned (.tuple #[.int .i64 next, .int .i64 0]) ∧ FInv P w last p { pm with all := pm.all ++ [(next, e0, e1)] } q w' := by
  refine F.callRef hP fun S H => ?_
  unfold PS.good at hg
  unfold PS.ref at H ⊢
  rw [hc] at H
  simp only [hc]
  exact refAccept_ok _ _ _ _ _ S wr H e0 e1 next hf (by omega) (by omega) (by omega)
theorem takeF_nil {P : FP} (hP : P.ok) {w wr : World} {last : Int} {p pm q : PS} (F : FInv P w last p pm q wr) (hw : waitsOf p.closed p.T p.all = []) :
    Calls Try.prog 9 #[.pointer (some ⟨P.gs, 0, none⟩)] wr fun e w' => e = .returned (.tuple #[qV (0, 0, 0), .bool false]) ∧ FInv P w last p pm q w' := by
  have G := F
  obtain ⟨tag, A, h1, _⟩ := F
  unfold PS.ring at h1
  rw [hw] at h1
  exact (take_nilS _ _ _ _ _ _ _ _ _ _ h1).mono fun e w' ⟨he, ho⟩ => ⟨he, G.fresh ho⟩
theorem refTakeF_nil {P : FP} (hP : P.ok) {w wr : World} {last : Int} {p pm q : PS} (F : FInv P w last p pm q wr) {k : Nat} (hg : pm.good k) (hw : waitsOf pm.closed pm.T pm.all = []) :
    Calls Try.prog 15 #[.pointer (some ⟨P.xs, 0, none⟩)] wr fun e w' => e = .returned (.tuple #[qV (0, 0, 0), .bool false]) ∧ FInv P w last p pm q w' := by
  have G := F
  obtain ⟨tag, A, _, h1, _⟩ := F
  unfold PS.ref at h1
  exact (refTake_nil _ _ _ _ _ _ _ _ h1 hg.2.2.1 hw).mono fun e w' ⟨he, ho⟩ => ⟨he, G.fresh ho⟩
theorem waits_cons {T : Nat} {all : List Qd} (h : T < all.length) : waitsOf false T all = all[T] :: waitsOf false (T + 1) all := by simp [waitsOf]
theorem takeF_cons {P : FP} (hP : P.ok) {w wr : World} {last : Int} {p pm q : PS} (F : FInv P w last p pm q wr) {k : Nat} (hg : p.good k) (hk : k ≤ 8000000000000) (hc : p.closed = false) (ht : p.T < p.all.length) :
    Calls Try.prog 9 #[.pointer (some ⟨P.gs, 0, none⟩)] wr fun e w' => e = .returned (.tuple #[qV p.all[p.T], .bool true]) ∧ FInv P w last { p with T := p.T + 1 } pm q w' := by
  refine F.callRing hP fun S H => ?_
  unfold PS.good at hg
  unfold PS.ring at H ⊢
  rw [hc, waits_cons ht] at H
  simp only [hc]
  exact take_consS P.gs P.h p.room _ _ _ _ _ _ _ S wr H (by omega) (by omega)
theorem refTakeF_cons {P : FP} (hP : P.ok) {w wr : World} {last : Int} {p pm q : PS} (F : FInv P w last p pm q wr) {k : Nat} (hg : pm.good k) (hk : k ≤ 8000000000000) (hc : pm.closed = false) (ht : pm.T < pm.all.length) :
    Calls Try.prog 15 #[.pointer (some ⟨P.xs, 0, none⟩)] wr fun e w' => e = .returned (.tuple #[qV pm.all[pm.T], .bool true]) ∧ FInv P w last p { pm with T := pm.T + 1 } q w' := by
  refine F.callRef hP fun S H => ?_
  unfold PS.good at hg
  unfold PS.ref at H ⊢
  rw [hc] at H
  simp only [hc]
  exact refTake_cons _ _ _ _ _ S wr H ht (by omega)
theorem countsF {P : FP} {w wr : World} {last : Int} {p pm q : PS} (F : FInv P w last p pm q wr) {k : Nat} (hg : p.good k) :
    Calls Try.prog 19 #[.pointer (some ⟨P.gs, 0, none⟩)] wr fun e w' => e = .returned (refCts p.T p.rf p.closed p.all).v ∧ FInv P w last p pm q w' := by
  have G := F
  obtain ⟨tag, A, h1, _⟩ := F
  exact (countsS _ _ _ _ _ _ _ _ _ _ _ h1).mono fun e w' ⟨he, ho⟩ => ⟨by rw [he, ← p.counts hg], G.fresh ho⟩
theorem refCountsF {P : FP} {w wr : World} {last : Int} {p pm q : PS} (F : FInv P w last p pm q wr) {k : Nat} (hg : pm.good k) (hk : k ≤ 8000000000000) :
    Calls Try.prog 20 #[.pointer (some ⟨P.xs, 0, none⟩)] wr fun e w' => e = .returned (refCts pm.T pm.rf pm.closed pm.all).v ∧ FInv P w last p pm q w' := by
  have G := F
  obtain ⟨tag, A, _, h1, _⟩ := F
  unfold PS.good at hg
  unfold PS.ref at h1
  exact (refCounts_any _ _ _ _ _ _ _ _ h1 (by omega) (by omega)).mono fun e w' ⟨he, ho⟩ => ⟨he, G.fresh ho⟩
/-- with one slice more -/
abbrev FP.with (P : FP) (v : Value) (xs : List Qd) : FP := { P with X := fun S w => OwS eQ 39 S w v xs, hX := OwS.framed }
abbrev FP.bare (P : FP) : FP := { P with X := fun _ _ => True, hX := Framed.pure True }
theorem FInv.bare {P : FP} {w wr : World} {last : Int} {p pm q : PS} (F : FInv P w last p pm q wr) : FInv P.bare w last p pm q wr := by
  obtain ⟨tag, A, h1, h2, h3, h4, h5, h6, h7, h9⟩ := F
  exact ⟨tag, A, h1, h2, h3, h4, h5, h6, h7, trivial⟩
theorem FP.ok.with {P : FP} (h : P.ok) (v : Value) (xs : List Qd) : (P.with v xs).ok := h
theorem FInv.X_rd {P : FP} {w wr : World} {last : Int} {p pm q : PS} {v : Value} {xs : List Qd} (F : FInv (P.with v xs) w last p pm q wr) : Rd eQ wr v xs := by
  obtain ⟨tag, A, h1, h2, h3, h4, h5, h6, h7, h9⟩ := F
  exact h9.1.rd
theorem shutF {P : FP} (hP : P.ok) {w wr : World} {last : Int} {p pm q : PS} (F : FInv P w last p pm q wr) {k : Nat} (hg : p.good k) (hk : k ≤ 8000000000000) :
    Calls Try.prog 11 #[.pointer (some ⟨P.gs, 0, none⟩)] wr fun e w' => ∃ v', e = .returned v' ∧ FInv (P.with v' (waitsOf p.closed p.T p.all)) w last { p with closed := true } pm q w' := by
  obtain ⟨tag, A, h1, h2, h3, h4, h5, h6, h7, h9⟩ := F
  unfold PS.good at hg
  have hw := waits_len p.closed p.T p.all
  unfold PS.ring at h1
  refine (shutS P.gs P.h p.room p.closed (waitsOf p.closed p.T p.all) _ _ _ _ _ wr h1 (by rw [hw]; cases p.closed <;> simp <;> omega) (by cases p.closed <;> simp <;> omega) (by cases p.closed <;> simp <;> omega)).mono fun e w' ⟨v', he, hv, hr, ho⟩ => ⟨v', he, ?_⟩
  have hd : (if p.closed then (p.all.length : Int) - p.T else 0) + ((waitsOf p.closed p.T p.all).length : Int) = (p.all.length : Int) - p.T := by rw [hw]; cases p.closed <;> simp <;> omega
  rw [hd] at hr
  unfold FP.ok at hP
  obtain ⟨tag', A', f, n, k⟩ := A.step ho 8 (fun _ h => by omega)
  exact ⟨tag', A', k _ RingS.framed _ hr, f _ PS.ref_framed P.j h2 (fun _ _ h => by omega), f _ PS.ring_framed P.i' h3 (fun _ _ h => by omega), f _ PS.ref_framed P.j' h4 (fun _ _ h => by omega), f _ NumS.framed _ h5 (fun _ _ h => by omega), f _ Blk.framed _ h6 (fun _ _ h => by omega), f _ Blk.framed _ h7 (fun _ _ h => by omega), n _ OwS.framed (OwS.framed.mono _ _ _ hv (fun _ _ h => .inr h))⟩
theorem waitingF {P : FP} (hP : P.ok) {w wr : World} {last : Int} {p pm q : PS} (F : FInv P w last p pm q wr) {k : Nat} (hg : p.good k) :
    Calls Try.prog 12 #[.pointer (some ⟨P.gs, 0, none⟩)] wr fun e w' => ∃ v', e = .returned v' ∧ FInv (P.with v' (waitsOf p.closed p.T p.all)) w last p pm q w' := by
  obtain ⟨tag, A, h1, h2, h3, h4, h5, h6, h7, h9⟩ := F
  unfold PS.good at hg
  have hw := waits_len p.closed p.T p.all
  have h1' := h1
  unfold PS.ring at h1'
  refine (waitingS P.gs P.h p.room p.closed (waitsOf p.closed p.T p.all) _ _ _ _ _ wr h1' (by rw [hw]; cases p.closed <;> simp <;> omega)).mono fun e w' ⟨v', he, hv, ho⟩ => ⟨v', he, ?_⟩
  obtain ⟨tag', A', f, n, k⟩ := A.step ho 8 (fun _ h => h.elim)
  exact ⟨tag', A', f _ PS.ring_framed _ h1 (fun _ _ h => h), f _ PS.ref_framed _ h2 (fun _ _ h => h), f _ PS.ring_framed _ h3 (fun _ _ h => h), f _ PS.ref_framed _ h4 (fun _ _ h => h), f _ NumS.framed _ h5 (fun _ _ h => h), f _ Blk.framed _ h6 (fun _ _ h => h), f _ Blk.framed _ h7 (fun _ _ h => h), n _ OwS.framed (OwS.framed.mono _ _ _ hv (fun _ _ h => .inr h))⟩
theorem refShutF {P : FP} (hP : P.ok) {w wr : World} {last : Int} {p pm q : PS} (F : FInv P w last p pm q wr) {k : Nat} (hg : pm.good k) :
    Calls Try.prog 17 #[.pointer (some ⟨P.xs, 0, none⟩)] wr fun e w' => ∃ v', e = .returned v' ∧ Rd eQ w' v' (waitsOf pm.closed pm.T pm.all) ∧ FInv P w last p { pm with closed := true } q w' := by
  obtain ⟨tag, A, h1, h2, h3, h4, h5, h6, h7, h9⟩ := F
  unfold PS.good at hg
  have h2' := h2
  unfold PS.ref at h2'
  refine (refShut_any P.xs _ _ _ _ _ _ wr h2' hg.2.2.1).mono fun e w' ⟨v', he, hv, hr, ho⟩ => ⟨v', he, hv, ?_⟩
  unfold FP.ok at hP
  obtain ⟨tag', A', f, n, k⟩ := A.step ho P.j (fun _ h => by omega)
  exact ⟨tag', A', f _ PS.ring_framed _ h1 (fun _ _ h => by omega), n _ Obj1.framed hr, f _ PS.ring_framed _ h3 (fun _ _ h => by omega), f _ PS.ref_framed _ h4 (fun _ _ h => by omega), f _ NumS.framed _ h5 (fun _ _ h => by omega), f _ Blk.framed _ h6 (fun _ _ h => by omega), f _ Blk.framed _ h7 (fun _ _ h => by omega), f _ P.hX _ h9 (fun _ _ h => by omega)⟩
theorem refWaitsF {P : FP} {w wr : World} {last : Int} {p pm q : PS} (F : FInv P w last p pm q wr) {k : Nat} (hg : pm.good k) :
    Calls Try.prog 18 #[.pointer (some ⟨P.xs, 0, none⟩)] wr fun e w' => ∃ v', e = .returned v' ∧ Rd eQ w' v' (waitsOf pm.closed pm.T pm.all) ∧ FInv P w last p pm q w' := by
  have G := F
  obtain ⟨tag, A, h1, h2, h3, h4, h5, h6, h7, h9⟩ := F
  unfold PS.good at hg
  have h2' := h2
  unfold PS.ref at h2'
  refine (refWaits_any P.xs _ _ _ _ _ _ wr h2' hg.2.2.1).mono fun e w' ⟨v', he, hv, nq, hw⟩ => ⟨v', he, ?_, ?_⟩
  · rw [hw]; exact hv _ ((Only.refl _ _).drewN nq)
  · rw [hw]; exact G.fresh ((Only.refl _ _).drewN nq)
theorem queuedF {P : FP} {w wr : World} {last : Int} {p pm q : PS} {v v' : Value} {xs : List Qd} (F : FInv (P.with v xs) w last p pm q wr) (h : Rd eQ wr v' xs) :
    Calls Try.prog 16 #[v, v'] wr fun e w' => e = .returned (.bool true) ∧ FInv P.bare w last p pm q w' :=
  (queued_eq xs v v' wr F.X_rd h).mono fun e w' ⟨he, ho⟩ => ⟨he, (F.fresh ho).bare⟩
abbrev FP.blk (P : FP) (ob : Nat) (o : Obj) : FP := { P with X := Blk ob o, hX := Blk.framed }
theorem FInv.blk {P : FP} {w wr : World} {last : Int} {p pm q : PS} (F : FInv P w last p pm q wr) (o : Obj) : FInv (P.blk wr.heap.size o) w last p pm q (wr.alloc o) := by
  obtain ⟨tag, A, h1, h2, h3, h4, h5, h6, h7, h9⟩ := F
  obtain ⟨tag', A', f, n, k⟩ := A.step (Only.alloc (fun _ => False) wr o) 8 (fun _ h => h.elim)
  exact ⟨tag', A', f _ PS.ring_framed _ h1 (fun _ _ h => h), f _ PS.ref_framed _ h2 (fun _ _ h => h), f _ PS.ring_framed _ h3 (fun _ _ h => h), f _ PS.ref_framed _ h4 (fun _ _ h => h), f _ NumS.framed _ h5 (fun _ _ h => h), f _ Blk.framed _ h6 (fun _ _ h => h), f _ Blk.framed _ h7 (fun _ _ h => h), n _ Blk.framed ⟨heap_alloc_new wr o, .inr (Nat.le_refl _)⟩⟩
theorem FP.ok.blk {P : FP} (h : P.ok) (ob : Nat) (o : Obj) : (P.blk ob o).ok := h
theorem FInv.X_blk {P : FP} {w wr : World} {last : Int} {p pm q : PS} {ob : Nat} {o : Obj} (F : FInv (P.blk ob o) w last p pm q wr) : wr.heap[ob]? = some o := by
  obtain ⟨tag, A, h1, h2, h3, h4, h5, h6, h7, h9⟩ := F
  exact h9.1
theorem FInv.rbm {P : FP} {w wr : World} {last : Int} {p pm q : PS} (F : FInv P w last p pm q wr) : wr.heap[P.rb]? = some P.rbo ∧ wr.heap[P.mb]? = some P.mbo := by
  obtain ⟨tag, A, h1, h2, h3, h4, h5, h6, h7, h9⟩ := F
  exact ⟨h6.1, h7.1⟩
end Go.Proofs.Ytdpklmaldjohkaa
