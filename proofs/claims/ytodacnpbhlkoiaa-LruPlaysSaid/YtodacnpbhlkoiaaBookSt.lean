/- book: two things side by side and the rest; Clone, Pairs; the law's own first look. -/
import Derived.Test.YtodacnpbhlkoiaaPairs
import Derived.WalkSpells
namespace Go.Proofs.Ytodacnpbhlkoiaa
open Go.RowKit
set_option linter.unusedVariables false
set_option linter.unusedSimpArgs false

/-- two things side by side, and the rest -/
def LSt (P Q X : (Nat → Prop) → World → Prop) (w0 w : World) : Prop := ∃ tag : Nat → Nat, Arena w0.heap.size w0 w tag ∧ P (fun k => tag k = 1) w ∧ Q (fun k => tag k = 2) w ∧ X (fun k => tag k = 3) w
def NoX (S : Nat → Prop) (w : World) : Prop := True
theorem NoX.framed : Framed NoX := Framed.pure True
theorem LSt.start {w0 w : World} (h : Below w0.heap.size w0 w) : LSt NoX NoX NoX w0 w := ⟨_, Arena.of_below h (Nat.le_refl _), trivial, trivial, trivial⟩
theorem LSt.below {P Q X : (Nat → Prop) → World → Prop} {w0 w : World} (h : LSt P Q X w0 w) : Below w0.heap.size w0 w := by obtain ⟨_, A, _⟩ := h; exact A.below
theorem LSt.size {P Q X : (Nat → Prop) → World → Prop} {w0 w : World} (h : LSt P Q X w0 w) : w0.heap.size ≤ w.heap.size := by obtain ⟨_, A, _⟩ := h; exact A.size
theorem LSt.swap {P Q X : (Nat → Prop) → World → Prop} {w0 w : World} (hP : Framed P) (hQ : Framed Q) (hX : Framed X) (h : LSt P Q X w0 w) : LSt Q P X w0 w := by
  obtain ⟨tag, A, h1, h2, h3⟩ := h
  refine ⟨fun k => if tag k = 1 then 2 else if tag k = 2 then 1 else tag k, ⟨A.below, A.size, fun k hk => by simp [A.zero k hk]⟩, hQ.mono _ _ _ h2 fun k _ e => by simp [e], hP.mono _ _ _ h1 fun k _ e => by simp [e], hX.mono _ _ _ h3 fun k _ e => by simp [e]⟩
theorem LSt.step {P P' Q X : (Nat → Prop) → World → Prop} {w0 w w' : World} (hP' : Framed P') (hQ : Framed Q) (hX : Framed X) (h : LSt P Q X w0 w)
    (H : ∀ S : Nat → Prop, P S w → P' (fun k => S k ∨ w.heap.size ≤ k) w' ∧ Only S w w') : LSt P' Q X w0 w' := by
  obtain ⟨tag, A, h1, h2, h3⟩ := h
  obtain ⟨hp, ho⟩ := H _ h1
  obtain ⟨tag', A', f, n, _⟩ := A.step ho 1 (fun _ h => by omega)
  exact ⟨tag', A', n _ hP' hp, f _ hQ _ h2 (fun _ _ h => by omega), f _ hX _ h3 (fun _ _ h => by omega)⟩
theorem LSt.call {P P' Q X : (Nat → Prop) → World → Prop} {w0 w : World} (hP' : Framed P') (hQ : Framed Q) (hX : Framed X) (h : LSt P Q X w0 w) {f : FuncId} {args : Array Value} {E : Ending → Prop} {pr : Program}
    (H : ∀ S : Nat → Prop, P S w → Calls pr f args w fun e w' => E e ∧ P' (fun k => S k ∨ w.heap.size ≤ k) w' ∧ Only S w w') :
    Calls pr f args w fun e w' => E e ∧ LSt P' Q X w0 w' := by
  obtain ⟨tag, A, h1, h2, h3⟩ := h
  refine (H _ h1).mono fun e w' ⟨he, hp, ho⟩ => ⟨he, ?_⟩
  obtain ⟨tag', A', f, n, _⟩ := A.step ho 1 (fun _ h => by omega)
  exact ⟨tag', A', n _ hP' hp, f _ hQ _ h2 (fun _ _ h => by omega), f _ hX _ h3 (fun _ _ h => by omega)⟩
theorem LSt.fresh {P Q X : (Nat → Prop) → World → Prop} {w0 w w' : World} (hP : Framed P) (hQ : Framed Q) (hX : Framed X) (h : LSt P Q X w0 w) (ho : Only (fun _ => False) w w') : LSt P Q X w0 w' := by
  obtain ⟨tag, A, h1, h2, h3⟩ := h
  obtain ⟨tag', A', f, n, _⟩ := A.step ho 3 (fun _ h => h.elim)
  exact ⟨tag', A', f _ hP _ h1 (fun _ _ h => h), f _ hQ _ h2 (fun _ _ h => h), f _ hX _ h3 (fun _ _ h => h)⟩
/-- something new, beside the rest -/
theorem LSt.newX {P Q X Y : (Nat → Prop) → World → Prop} {w0 w w' : World} (hP : Framed P) (hQ : Framed Q) (hX : Framed X) (hY : Framed Y) (h : LSt P Q X w0 w) (hy : Y (fun k => w.heap.size ≤ k) w') (ho : Only (fun _ => False) w w') : LSt P Q (fun S w => X S w ∧ Y S w) w0 w' := by
  obtain ⟨tag, A, h1, h2, h3⟩ := h
  obtain ⟨tag', A', f, n, _⟩ := A.step ho 3 (fun _ h => h.elim)
  exact ⟨tag', A', f _ hP _ h1 (fun _ _ h => h), f _ hQ _ h2 (fun _ _ h => h), f _ hX _ h3 (fun _ _ h => h), n _ hY (hY.mono _ _ _ hy fun _ _ h => .inr h)⟩
theorem LSt.newP {P Q X Y : (Nat → Prop) → World → Prop} {w0 w w' : World} (hQ : Framed Q) (hX : Framed X) (hY : Framed Y) (h : LSt P Q X w0 w) (hy : Y (fun k => w.heap.size ≤ k) w') (ho : Only (fun _ => False) w w') : LSt Y Q X w0 w' := by
  obtain ⟨tag, A, h1, h2, h3⟩ := h
  obtain ⟨tag', A', f, n, _⟩ := A.step ho 1 (fun _ h => h.elim)
  exact ⟨tag', A', n _ hY (hY.mono _ _ _ hy fun _ _ h => .inr h), f _ hQ _ h2 (fun _ _ h => h), f _ hX _ h3 (fun _ _ h => h)⟩
theorem LSt.first {P Q X : (Nat → Prop) → World → Prop} {w0 w : World} (h : LSt P Q X w0 w) : ∃ S, P S w := by obtain ⟨tag, A, h1, _⟩ := h; exact ⟨_, h1⟩
theorem LSt.second {P Q X : (Nat → Prop) → World → Prop} {w0 w : World} (h : LSt P Q X w0 w) : ∃ S, Q S w := by obtain ⟨tag, A, _, h1, _⟩ := h; exact ⟨_, h1⟩
theorem LSt.rest {P Q X : (Nat → Prop) → World → Prop} {w0 w : World} (h : LSt P Q X w0 w) : ∃ S, X S w := by obtain ⟨tag, A, _, _, h1⟩ := h; exact ⟨_, h1⟩
theorem LSt.wide {P Q X X' : (Nat → Prop) → World → Prop} {w0 w : World} (h : LSt P Q X w0 w) (hx : ∀ S, X S w → X' S w) : LSt P Q X' w0 w := by obtain ⟨tag, A, h1, h2, h3⟩ := h; exact ⟨tag, A, h1, h2, hx _ h3⟩

/- the calls -/
theorem doL {Q X : (Nat → Prop) → World → Prop} {w0 w : World} {b : Nat} {cap : Int} {xs : List PairD} (hQ : Framed Q) (hX : Framed X) (h : LSt (BookS b cap xs) Q X w0 w) (G : Good cap xs) (op key val : Int) :
    Calls Try.prog 16 #[.pointer (some ⟨b, 0, none⟩), .int .i64 op, .int .u64 key, .int .u64 val] w fun e w' => e = .returned (ResD.val (doP cap xs op key val).1) ∧ LSt (BookS b cap (doP cap xs op key val).2) Q X w0 w' :=
  LSt.call BookS.framed hQ hX h (E := fun e => e = .returned (ResD.val (doP cap xs op key val).1)) fun S H => do_any b cap xs S op key val w H G
theorem lenL {Q X : (Nat → Prop) → World → Prop} {w0 w : World} {b : Nat} {cap : Int} {xs : List PairD} (hQ : Framed Q) (hX : Framed X) (h : LSt (BookS b cap xs) Q X w0 w) :
    Calls Try.prog 12 #[.pointer (some ⟨b, 0, none⟩)] w fun e w' => e = .returned (.int .i64 xs.length) ∧ LSt (BookS b cap xs) Q X w0 w' := by
  obtain ⟨S, hS⟩ := h.first
  exact (len_any b cap xs S w hS).mono fun e w' ⟨he, ho⟩ => ⟨he, h.fresh BookS.framed hQ hX ho⟩
theorem capL {Q X : (Nat → Prop) → World → Prop} {w0 w : World} {b : Nat} {cap : Int} {xs : List PairD} (hQ : Framed Q) (hX : Framed X) (h : LSt (BookS b cap xs) Q X w0 w) :
    Calls Try.prog 19 #[.pointer (some ⟨b, 0, none⟩)] w fun e w' => e = .returned (.int .i64 cap) ∧ LSt (BookS b cap xs) Q X w0 w' := by
  obtain ⟨S, hS⟩ := h.first
  exact (cap_any b cap xs S w hS).mono fun e w' ⟨he, ho⟩ => ⟨he, h.fresh BookS.framed hQ hX ho⟩
theorem newL {P Q X : (Nat → Prop) → World → Prop} {w0 w : World} (hQ : Framed Q) (hX : Framed X) (h : LSt P Q X w0 w) (cap : Int) (h1 : 1 ≤ cap) (h2 : cap ≤ 16) :
    Calls Try.prog 15 #[.int .i64 cap] w fun e w' => ∃ b, e = .returned (.tuple #[.pointer (some ⟨b, 0, none⟩), .int .i64 0]) ∧ LSt (BookS b cap []) Q X w0 w' :=
  (new_ok cap w h1 h2).mono fun e w' ⟨b, he, hb, ho⟩ => ⟨b, he, h.newP hQ hX BookS.framed hb ho⟩
theorem pairsCmpL {P Q X : (Nat → Prop) → World → Prop} {w0 w : World} (hP : Framed P) (hQ : Framed Q) (hX : Framed X) (h : LSt P Q X w0 w) {va vb : Value} {xs ys : List PairD} (ha : Rd ePair w va xs) (hb : Rd ePair w vb ys) :
    Calls Try.prog 17 #[va, vb] w fun e w' => e = .returned (.bool (decide (xs = ys))) ∧ LSt P Q X w0 w' :=
  (pairs_any xs ys va vb w ha hb).mono fun e w' ⟨he, n, hn⟩ => ⟨he, h.fresh hP hQ hX (by rw [hn]; exact (Only.refl _ _).drewN n)⟩

set_option maxHeartbeats 1000000 in
theorem clone_any (xs : List PairD) (v : Value) (w : World) (hr : Rd ePair w v xs) (hn : xs.length ≤ 1000) :
    Calls Try.prog 29 #[v] w fun e w' => ∃ v', e = .returned v' ∧ OwS ePair 46 (fun k => w.heap.size ≤ k) w' v' xs ∧ Only (fun _ => False) w w' := by
  have HR := Lib.hid (hr.alloc (.cells #[] 46))
  obtain ⟨_, ao, cap, rfl, _, hnone, hx⟩ := hr
  have hE0 : OwS ePair 46 (fun k => w.heap.size ≤ k) (w.alloc (.cells #[] 46)) (.slice (some ⟨w.heap.size, 0, none⟩) 0 0) [] :=
    ⟨Ow.lit (E := ePair) w 0 #[] 46 0 [] (by simp [Enc.all]) rfl (by simp) (Nat.zero_le _), fun k hk => by simp [Value.ownBlock] at hk; omega⟩
  have HE := Lib.hid hE0
  clear hE0
  cases ao with
  | none =>
    have h0 : xs = [] := by
      cases xs with
      | nil => rfl
      | cons x xs => obtain ⟨b, off, h, _⟩ := hx (by simp); cases h
    subst h0
    obtain rfl : cap = 0 := hnone rfl
    clear hx hnone
    have hz : ∀ w : World, (binOp .eql 43 (.slice none 0 0) (.slice none 0 0)).run Try.prog w = .ok (.bool true) w := fun w => Lib.run_eql_slice_nil w _ _ none _ _ _ _ Try.underlying43
    go_enter Try.func29, Try.ntmps29
    go_wp2_with fail
    go_ret
    exact ⟨_, rfl, OwS.nil _ _, Only.refl _ _⟩
  | some a =>
    clear hx hnone
    have hz : ∀ w : World, (binOp .eql 43 (.slice (some a) xs.length cap) (.slice none 0 0)).run Try.prog w = .ok (.bool false) w := fun w => Lib.run_eql_slice_nil w _ _ (some a) _ _ _ _ Try.underlying43
    go_enter Try.func29, Try.ntmps29
    go_wp2_with (at_builtin; refine wl_appendS (E := ePair) rfl _ (.tmp 6) _ rfl 46 16 ePair_slice _ _ [] rfl HE.out _ xs rfl HR.out (by simp; omega) (by unfold maxLen; simp; omega) ?_)
    intro v' w5 h5 hO5
    have H5 := Lib.hid h5
    have HO5 := Lib.hid hO5
    clear h5 hO5
    go_wp2_with fail
    go_ret
    refine ⟨_, rfl, ?_, ?_⟩
    · exact OwS.framed.mono _ _ _ H5.out fun k _ h => by
        rcases h with h | h
        · exact h
        · have := size_le_alloc w (.cells #[] 46); omega
    · exact (Only.alloc (fun _ => False) w _).trans HO5.out fun k hk h => by omega
theorem bpairs_any (b : Nat) (cap : Int) (xs : List PairD) (S : Nat → Prop) (w : World) (H : BookS b cap xs S w) (hn : xs.length ≤ 1000) :
    Calls Try.prog 14 #[.pointer (some ⟨b, 0, none⟩)] w fun e w' => ∃ v', e = .returned v' ∧ OwS ePair 46 (fun k => w.heap.size ≤ k) w' v' xs ∧ Only (fun _ => False) w w' := by
  obtain ⟨v, hg, hown, hS, hvS⟩ := H
  have HC := Lib.hid (clone_any xs v w hown.rd hn)
  have c1 := cells_of_heap hg 1 _ rfl
  clear hg hown
  go_enter Try.func14, Try.ntmps14
  go_wp2_with fail
  refine HC.out.mono ?_
  rintro e w1 ⟨v', rfl, ho, hO⟩
  go_wp2_with fail
  go_ret
  exact ⟨_, rfl, ho, hO⟩
/-- Pairs, its answer beside the rest -/
theorem bpairsL {Q X : (Nat → Prop) → World → Prop} {w0 w : World} {b : Nat} {cap : Int} {xs : List PairD} (hQ : Framed Q) (hX : Framed X) (h : LSt (BookS b cap xs) Q X w0 w) (G : Good cap xs) :
    Calls Try.prog 14 #[.pointer (some ⟨b, 0, none⟩)] w fun e w' => ∃ v', e = .returned v' ∧ LSt (BookS b cap xs) Q (fun S w => X S w ∧ OwS ePair 46 S w v' xs) w0 w' := by
  obtain ⟨S, hS⟩ := h.first
  exact (bpairs_any b cap xs S w hS (by have := G.len; have := G.hi; omega)).mono fun e w' ⟨v', he, hv, ho⟩ => ⟨v', he, h.newX BookS.framed hQ hX OwS.framed hv ho⟩

theorem good_nil {cap : Int} (h1 : 1 ≤ cap) (h2 : cap ≤ 16) : Good cap [] := ⟨h1, h2, by simp; omega, fun i j hi => by simp at hi⟩
end Go.Proofs.Ytodacnpbhlkoiaa
