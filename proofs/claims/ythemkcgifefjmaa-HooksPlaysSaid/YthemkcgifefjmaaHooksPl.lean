/- Layer 19: a table beside the document's. -/
import Derived.Test.YthemkcgifefjmaaHooksRef4
namespace Go.Proofs.Ythemkcgifefjmaa
open Go.RowKit
set_option linter.unusedVariables false

/-- the document's table, in some state that matches hs -/
def RX (x : Nat) (n rl : Int) (hs : List Pub) (B : Nat) : Th := fun S w => ∃ st, RefS x n rl st S w ∧ Match hs st ∧ st.length ≤ B
theorem RX.framed {x : Nat} {n rl : Int} {hs : List Pub} {B : Nat} : Framed (RX x n rl hs B) := Framed.ex fun st => Framed.and RefS.framed (Framed.pure _)
/-- a list's block is one of numbers, or lies below the base -/
def Sep (w wr : World) (vl : Value) : Prop := ∀ a n c, vl = .slice (some a) n c → 0 < n → (∃ (cs : Array Value) (fr : Nat × Nat), wr.heap[a.block]? = some (Obj.cells cs 3 fr)) ∨ a.block < w.heap.size
def KeepI (wr w' : World) : Prop := ∀ (b : Nat) (cs : Array Value) (fr : Nat × Nat), wr.heap[b]? = some (Obj.cells cs 3 fr) → w'.heap[b]? = some (Obj.cells cs 3 fr)
theorem KeepI.of {F : Nat → Prop} {wr w' : World} (ho : Only F wr w') (h : ∀ (b : Nat) (cs : Array Value) (fr : Nat × Nat), wr.heap[b]? = some (Obj.cells cs 3 fr) → ¬ F b) : KeepI wr w' := fun b cs fr hb => ho.heap hb (h b cs fr hb)
theorem obj_not_int {α : Type} {E : Enc α} {ty ety : Nat} {cells : Value → Array Value} {g : Nat} {v : Value} {xs : List α} {S : Nat → Prop} {w : World} (H : Obj1v E ty ety cells g v xs S w) (h1 : ty ≠ 3) (h2 : ety ≠ 3) {b : Nat} {cs : Array Value} {fr : Nat × Nat} (hb : w.heap[b]? = some (.cells cs 3 fr)) : ¬ (b = g ∨ v.ownBlock = some b) := by
  rintro (rfl | e)
  · have := H.1; rw [hb] at this; simp at this; exact h1 this.2.1.symm
  · obtain ⟨cur, hc⟩ := H.2.1.type e; rw [hb] at hc; simp at hc; exact h2 hc.2.1.symm
theorem obj_exact {α : Type} {E : Enc α} {ty ety : Nat} {cells : Value → Array Value} {g : Nat} {v : Value} {xs : List α} {S : Nat → Prop} {w : World} (H : Obj1v E ty ety cells g v xs S w) : Obj1v E ty ety cells g v xs (fun k => k = g ∨ v.ownBlock = some k) w := ⟨H.1, H.2.1, .inl rfl, fun k h => .inr h⟩
section
variable {X Y : Th} {g x : Nat} {n : Int} {B : Nat} {w wr : World} {last rl : Int} {hs rhs : List Pub}
theorem TSt.alloc (hX : Framed X) (hY : Framed Y) (V : TSt X Y g w last hs wr) (o : Obj) : TSt X Y g w last hs (wr.alloc o) := V.fresh hX hY (Only.alloc _ _ _)
theorem TSt.drew (hX : Framed X) (hY : Framed Y) (V : TSt X Y g w last hs wr) : TSt X Y g w last hs wr.drew := V.fresh hX hY ((Only.refl _ _).drew_)
theorem detachP (hX : Framed X) (hY : Framed Y) (V : TSt X Y g w last hs wr) (h4 : hs.length ≤ 4) (vl : Value) (l : List Int) (hp : Rd (eInt .i64) wr vl l) (hs' : Sep w wr vl) :
    Calls Try.prog 13 #[.pointer (some ⟨g, 0, none⟩), vl] wr fun e w' => e = .returned (.int .i64 (detachOf hs l).1) ∧ TSt X Y g w last (detachOf hs l).2 w' ∧ KeepI wr w' := by
  obtain ⟨tag, A, ⟨v, t1⟩, t2, t3⟩ := V
  have hS := fun k (h : k = g ∨ v.ownBlock = some k) => (h.elim (fun e => e ▸ t1.2.2.1) (fun e => t1.2.2.2 k e) : tag k = 1)
  refine (detach_any g last hs l vl (fun k => k = g ∨ v.ownBlock = some k) wr ⟨v, obj_exact t1⟩ h4 hp (fun a n c e h0 hk => ?_)).mono fun e w' ⟨he, ht, ho⟩ => ⟨he, ?_, ?_⟩
  · rcases hs' a n c e h0 with ⟨cs, fr, hb⟩ | hb
    · exact obj_not_int t1 (by decide) (by decide) hb hk
    · have h1 := A.zero _ hb; have h2 := hS _ hk; omega
  · obtain ⟨tag', A', f, n', _⟩ := A.step ho 1 (fun k h => by have := hS k h; omega)
    exact ⟨tag', A', n' _ TabS.framed (TabS.framed.mono _ _ _ ht (fun k _ h => .inl (hS k h))), f _ hX _ t2 (fun k h1 h2 => by have := hS k h2; omega), f _ hY _ t3 (fun k h1 h2 => by have := hS k h2; omega)⟩
  · exact KeepI.of ho fun b cs fr hb => obj_not_int t1 (by decide) (by decide) hb
theorem refDetachP (hY : Framed Y) (V : TSt (RX x n rl rhs B) Y g w last hs wr) (hn : (rhs.length : Int) = n) (h4 : rhs.length ≤ 4) (hB : B ≤ 90000) (vl : Value) (l : List Int) (hp : Rd (eInt .i64) wr vl l) (hs' : Sep w wr vl) :
    Calls Try.prog 22 #[.pointer (some ⟨x, 0, none⟩), vl] wr fun e w' => e = .returned (.int .i64 (detachOf rhs l).1) ∧ TSt (RX x n rl (detachOf rhs l).2 (B + 4)) Y g w last hs w' ∧ KeepI wr w' := by
  obtain ⟨tag, A, t1, ⟨st, ⟨v, t2⟩, hM, hsl⟩, t3⟩ := V
  have hS := fun k (h : k = x ∨ v.ownBlock = some k) => (h.elim (fun e => e ▸ t2.2.2.1) (fun e => t2.2.2.2 k e) : tag k = 8)
  refine (refDetach_any x n rl rhs st l vl (fun k => k = x ∨ v.ownBlock = some k) wr ⟨v, obj_exact t2⟩ hM hn h4 (by omega) hp (fun a n c e h0 hk => ?_)).mono fun e w' ⟨he, ⟨st', ht, hM', hl'⟩, ho⟩ => ⟨he, ?_, ?_⟩
  · rcases hs' a n c e h0 with ⟨cs, fr, hb⟩ | hb
    · exact obj_not_int t2 (by decide) (by decide) hb hk
    · have h1 := A.zero _ hb; have h2 := hS _ hk; omega
  · obtain ⟨tag', A', f, n', _⟩ := A.step ho 8 (fun k h => by have := hS k h; omega)
    exact ⟨tag', A', f _ TabS.framed _ t1 (fun k h1 h2 => by have := hS k h2; omega), ⟨st', n' _ RefS.framed (RefS.framed.mono _ _ _ ht (fun k _ h => h.imp_left (hS k))), hM', by omega⟩, f _ hY _ t3 (fun k h1 h2 => by have := hS k h2; omega)⟩
  · exact KeepI.of ho fun b cs fr hb => obj_not_int t2 (by decide) (by decide) hb
theorem refPutP (hY : Framed Y) (V : TSt (RX x n rl rhs B) Y g w last hs wr) (hn : (rhs.length : Int) = n) (hB : B ≤ 90000) (h0 : 0 ≤ rl) (h1 : rl ≤ 100000) (h p : Int) (sw : Bool) :
    Calls Try.prog 21 #[.pointer (some ⟨x, 0, none⟩), .int .i64 h, .int .i64 p, .bool sw] wr fun e w' => e = .returned (.tuple #[.int .i64 (putOf sw rhs rl h p).1, .int .i64 (putOf sw rhs rl h p).2.1]) ∧ TSt (RX x n (putOf sw rhs rl h p).2.2.1 (putOf sw rhs rl h p).2.2.2 (B + 4)) Y g w last hs w' := by
  have V0 := V
  obtain ⟨tag, A, t1, ⟨st, t2, hM, hsl⟩, t3⟩ := V
  by_cases hno : bad rhs h ∨ (0 < (getH rhs h).1 ↔ sw = false)
  · refine (refPut_no x n rl rhs st h p sw _ wr t2 hM hn (by omega) hno).mono fun e w' ⟨he, hp, ho⟩ => ⟨he, ?_⟩
    rw [hp]
    exact (V0.fresh RX.framed hY ho).weakX fun S w ⟨st, a, b, c⟩ => ⟨st, a, b, by omega⟩
  · have hb : ¬ bad rhs h := fun hb => hno (.inl hb)
    have hyes : 0 < (getH rhs h).1 ↔ sw = true := by
      have h2 : ¬ (0 < (getH rhs h).1 ↔ sw = false) := fun hq => hno (.inr hq)
      by_cases h3 : 0 < (getH rhs h).1 <;> cases sw <;> simp [h3] at h2 ⊢
    have hput : putOf sw rhs rl h p = (rl + 1, 0, rl + 1, rhs.set h.toNat (rl + 1, p)) := by
      cases sw
      · have h3 : ¬ 0 < (getH rhs h).1 := fun h => by have := hyes.1 h; simp at this
        simp only [putOf, attachOf, if_neg hb, if_neg h3]; simp
      · have h3 := hyes.2 rfl
        simp only [putOf, if_true, swapOf, if_neg hb, if_pos h3]
    rw [hput]
    refine (refPut_ok x n rl rhs st h p sw _ wr t2 hM hn (by omega) h0 h1 hb hyes).mono fun e w' ⟨he, ht, ho⟩ => ⟨he, ?_⟩
    obtain ⟨tag', A', f, n', _⟩ := A.step ho 8 (fun k h => by omega)
    exact ⟨tag', A', f _ TabS.framed _ t1 (fun k h1 h2 => by omega), ⟨_, n' _ RefS.framed ht, hM.put hb (by omega), by simp; omega⟩, f _ hY _ t3 (fun k h1 h2 => by omega)⟩
theorem refCurrentP (hY : Framed Y) (V : TSt (RX x n rl rhs B) Y g w last hs wr) (hB : B ≤ 90000) (h : Int) :
    Calls Try.prog 16 #[.pointer (some ⟨x, 0, none⟩), .int .i64 h] wr fun e w' => e = .returned (.tuple #[.int .i64 (currentOf rhs h).1, .int .i64 (currentOf rhs h).2.1, .bool (currentOf rhs h).2.2]) ∧ TSt (RX x n rl rhs B) Y g w last hs w' := by
  have V0 := V
  obtain ⟨tag, A, t1, ⟨st, t2, hM, hsl⟩, t3⟩ := V
  exact (refCurrent_any x n rl st h _ wr t2 (by omega)).mono fun e w' ⟨he, q, hq⟩ => ⟨by rw [he, hM h], by rw [hq]; exact V0.fresh RX.framed hY ((Only.refl _ _).drewN q)⟩
theorem whereP (hX : Framed X) (hY : Framed Y) (V : TSt X Y g w last hs wr) (h4 : hs.length ≤ 4) (vp : Value) (ps : List Int) (hp : Rd (eInt .i64) wr vp ps) :
    Calls Try.prog 11 #[.pointer (some ⟨g, 0, none⟩), vp] wr fun e w' => ∃ v', e = .returned v' ∧ Rd (eInt .i64) w' v' (whereTo hs ps hs.length) ∧ TSt X Y g w last hs w' ∧ Below wr.heap.size wr w' :=
  (whereT hX hY V h4 vp ps hp).mono fun e w' ⟨v', he, h1, h2⟩ => ⟨v', he, h1.rd, V.fresh hX hY h2, h2.below (Nat.le_refl _) (fun _ h => h.elim)⟩
theorem refWhereP (hY : Framed Y) (V : TSt (RX x n rl rhs B) Y g w last hs wr) (hn : (rhs.length : Int) = n) (h4 : rhs.length ≤ 4) (hB : B ≤ 90000) (vp : Value) (ps : List Int) (hp : Rd (eInt .i64) wr vp ps) :
    Calls Try.prog 25 #[.pointer (some ⟨x, 0, none⟩), vp] wr fun e w' => ∃ v', e = .returned v' ∧ Rd (eInt .i64) w' v' (whereTo rhs ps rhs.length) ∧ TSt (RX x n rl rhs B) Y g w last hs w' ∧ Below wr.heap.size wr w' := by
  have V0 := V
  subst hn
  obtain ⟨tag, A, t1, ⟨st, t2, hM, hsl⟩, t3⟩ := V
  exact (refWhere_any x rl rhs st ps vp _ wr t2 hM h4 (by omega) hp).mono fun e w' ⟨v', he, h1, h2⟩ => ⟨v', he, h1.rd, V0.fresh RX.framed hY h2, h2.below (Nat.le_refl _) (fun _ h => h.elim)⟩
theorem intsP (hX : Framed X) (hY : Framed Y) (V : TSt X Y g w last hs wr) (va vb : Value) (xs : List Int) (ha : Rd (eInt .i64) wr va xs) (hb : Rd (eInt .i64) wr vb xs) :
    Calls Try.prog 23 #[va, vb] wr fun e w' => e = .returned (.bool true) ∧ TSt X Y g w last hs w' ∧ Below wr.heap.size wr w' :=
  (ints_eq xs va vb wr ha hb).mono fun e w' ⟨he, q, hq⟩ => ⟨he, by rw [hq]; exact V.fresh hX hY ((Only.refl _ _).drewN q), by rw [hq]; exact below_drewN (Below.refl _ _) q⟩
end
end Go.Proofs.Ythemkcgifefjmaa
