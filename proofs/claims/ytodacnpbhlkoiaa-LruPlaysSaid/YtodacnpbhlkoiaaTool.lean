/- Tools for objects in memory: an object with one slice, stores, slicing, appends in regions that draw their order. -/
import Derived.Test.YtodacnpbhlkoiaaFoot
import Derived.Deep.RegionLaw
import Derived.Laws.ResultCell
import Derived.Laws.Rows
import Derived.OwnWalk
namespace Go.Proofs.Ytodacnpbhlkoiaa
open Go.RowKit
set_option linter.unusedVariables false

section
variable {α : Type} {E : Enc α}
theorem Enc.all_set (E : Enc α) (xs : List α) (i : Nat) (x : α) (h : i < xs.length) : E.all (xs.set i x) = (E.all xs).take (i * E.size) ++ E.cells x ++ (E.all xs).drop (i * E.size + E.size) := by
  rw [List.set_eq_take_append_cons_drop, if_pos h, Enc.all_append, Enc.all_cons, E.all_take, E.all_drop, List.append_assoc, Nat.add_mul, Nat.one_mul]
theorem splice_take {β : Type} (l us : List β) (o a s N : Nat) (h : a + s ≤ N) (hus : us.length = s) (ho : o + N ≤ l.length) :
    ((l.take (o + a) ++ us ++ l.drop (o + a + s)).drop o).take N = ((l.drop o).take N).take a ++ us ++ ((l.drop o).take N).drop (a + s) := by
  have e1 : (l.take (o + a)).drop o = (l.drop o).take a := by rw [List.drop_take, show o + a - o = a by omega]
  have e2 : l.drop (o + a + s) = (l.drop o).drop (a + s) := by rw [List.drop_drop, Nat.add_assoc]
  have e3 : (l.take (o + a)).length = o + a := by simp; omega
  rw [List.append_assoc, List.drop_append_of_le_length (by omega), e1, e2]
  obtain ⟨d, hd⟩ : ∃ d, d = l.drop o := ⟨_, rfl⟩
  rw [← hd]
  have hdl : N ≤ d.length := by rw [hd]; simp; omega
  have e4 : (d.take a).length = a := by simp; omega
  rw [List.take_take, Nat.min_eq_left (by omega), List.take_append, e4, List.take_of_length_le (l := d.take a) (by omega), List.take_append, hus, List.take_of_length_le (l := us) (by omega), List.drop_take, List.append_assoc, Nat.sub_sub]
/-- one element is written -/
theorem Ow.store {w : World} {base e : Nat} {g off n cap : Nat} {xs : List α} (h : Ow E base e w (.slice (some ⟨g, off, none⟩) n cap) xs) (i : Nat) (hi : i < xs.length) (x : α) :
    Ow E base e (w.setCells g (off + i * E.size) (E.cells x)) (.slice (some ⟨g, off, none⟩) n cap) (xs.set i x) := by
  obtain ⟨hn, ao', cap', he, hlc, hcm, hnone, hx⟩ := h
  obtain ⟨rfl, rfl, rfl⟩ : some ⟨g, off, none⟩ = ao' ∧ n = xs.length ∧ cap = cap' := by simpa using he
  obtain ⟨g', off', cur, hgo, hg, hh, hs, ht⟩ := hx _ rfl
  obtain ⟨rfl, rfl⟩ : g = g' ∧ off = off' := by simpa using hgo
  have h1 : (i + 1) * E.size ≤ xs.length * E.size := Nat.mul_le_mul_right _ hi
  have h2 : xs.length * E.size ≤ cap * E.size := Nat.mul_le_mul_right _ hlc
  rw [Nat.add_mul, Nat.one_mul] at h1
  obtain ⟨cur', c1, c2, c3⟩ := setCells_row (off := off + i * E.size) (E.cells x) hh (by rw [E.len]; omega)
  refine ⟨by simpa using hn, some ⟨g, off, none⟩, cap, by simp, by simpa using hlc, hcm, fun h => by simp at h, fun a ha => ⟨g, off, cur', by simpa using ha.symm, hg, c1, by omega, ?_⟩⟩
  rw [E.all_set _ _ _ hi, ← ht, c3, E.len, List.length_set]
  exact splice_take _ _ _ _ _ _ (by omega) (E.len x) (by simp; omega)
end

theorem Rd.drop {α : Type} {E : Enc α} {w : World} {ao : Option Addr} {n cap : Nat} {xs : List α} (h : Rd E w (.slice ao n cap) xs) (k : Nat) (hk : k ≤ xs.length) (a' : Option Addr) (ha : k < xs.length → ∀ b off, ao = some ⟨b, off, none⟩ → a' = some ⟨b, off + k * E.size, none⟩) (hn : a' = none → cap - k = 0) :
    Rd E w (.slice a' (n - k) (cap - k)) (xs.drop k) := by
  obtain ⟨hm, ao', cap', he, hlc, hnone, hx⟩ := h
  obtain ⟨rfl, rfl, rfl⟩ : ao = ao' ∧ n = xs.length ∧ cap = cap' := by simpa using he
  refine ⟨by simp; omega, a', cap - k, by simp, by simp; omega, hn, fun h0 => ?_⟩
  have hlt : k < xs.length := by simp at h0; omega
  obtain ⟨b, off, rfl, hc⟩ := hx (by omega)
  refine ⟨b, off + k * E.size, ha hlt b off rfl, fun j u hj => ?_⟩
  rw [E.all_drop, List.getElem?_drop] at hj
  have := hc _ u hj
  rw [Nat.add_assoc]; exact this

/-- a slice's length -/
def lenOfV : Value → Nat
  | .slice _ n _ => n
  | _ => 0
/-- s[k:], as the walk writes it -/
theorem Rd.sliced {α : Type} {E : Enc α} {w : World} {ao : Option Addr} {n cap : Nat} {xs : List α} (h : Rd E w (.slice ao n cap) xs) (k m : Nat) (hm : m = k * E.size) (hk : k ≤ xs.length) :
    Rd E w (.slice (if cap = k then ao else Option.map (fun x => x.add m) ao) (n - k) (cap - k)) (xs.drop k) := by
  have hlc : xs.length ≤ cap ∧ (ao = none → cap = 0) := by
    obtain ⟨_, ao', cap', he, h1, h2, _⟩ := h
    obtain ⟨rfl, rfl, rfl⟩ : ao = ao' ∧ n = xs.length ∧ cap = cap' := by simpa using he
    exact ⟨h1, h2⟩
  refine h.drop k hk _ (fun hlt b off he => ?_) (fun hn => ?_)
  · subst he; subst hm
    rw [if_neg (by omega)]; simp [Addr.add]
  · split at hn
    · omega
    · simp at hn; have := hlc.2 hn; omega

theorem Rd.taken {α : Type} {E : Enc α} {w : World} {ao : Option Addr} {n cap : Nat} {xs : List α} (h : Rd E w (.slice ao n cap) xs) (k : Nat) (hk : k ≤ xs.length) (c' : Nat) (hc : k ≤ c') (hc2 : ao = none → c' = 0) :
    Rd E w (.slice ao k c') (xs.take k) := by
  obtain ⟨hm, ao', cap', he, h1, h2, h3⟩ := h
  obtain ⟨rfl, rfl, rfl⟩ : ao = ao' ∧ n = xs.length ∧ cap = cap' := by simpa using he
  have hl : (xs.take k).length = k := by simp; omega
  refine ⟨by omega, ao, c', by rw [hl], by omega, hc2, fun hlt => ?_⟩
  obtain ⟨b, off, hb, hx⟩ := h3 (by omega)
  refine ⟨b, off, hb, fun j u hj => hx j u ?_⟩
  have hall : E.all xs = E.all (xs.take k) ++ E.all (xs.drop k) := by
    show xs.flatMap E.cells = (xs.take k).flatMap E.cells ++ (xs.drop k).flatMap E.cells
    rw [← List.flatMap_append, List.take_append_drop]
  rw [hall, List.getElem?_append_left]
  · exact hj
  · exact (List.getElem?_eq_some_iff.1 hj).1

theorem Only.drew_ {F : Nat → Prop} {w w' : World} (h : Only F w w') : Only F w w'.drew := ⟨h.os, h.tape, h.output, h.size, h.block⟩
theorem Ow.some_ {α : Type} {E : Enc α} {base ty : Nat} {w : World} {v : Value} {xs : List α} (h : Ow E base ty w v xs) (h0 : 0 < xs.length) : ∃ g off cap, v = .slice (some ⟨g, off, none⟩) xs.length cap := by
  obtain ⟨_, ao, cap, rfl, h1, h2, h3, h4⟩ := h
  cases ao with
  | none => have := h3 rfl; omega
  | some a =>
    obtain ⟨g, off, _, rfl, _⟩ := h4 a rfl
    exact ⟨g, off, cap, rfl⟩


theorem Framed.drew {X : (Nat → Prop) → World → Prop} (hX : Framed X) {S : Nat → Prop} {w : World} (h : X S w) : X S w.drew := hX.only _ (fun _ => False) _ _ h ((Only.refl _ _).drew_) (fun _ _ _ h => h)
/-- what the others have stays -/
def Keeps (tag tag' : Nat → Nat) (w w' : World) (P : Nat → Prop) : Prop := ∀ X, Framed X → ∀ j, ¬ P j → X (fun k => tag k = j) w → X (fun k => tag' k = j) w'
theorem Keeps.refl (tag : Nat → Nat) (w : World) (P : Nat → Prop) : Keeps tag tag w w P := fun _ _ _ _ h => h
theorem Keeps.trans {tag tag1 tag2 : Nat → Nat} {w w1 w2 : World} {P Q R : Nat → Prop} (h : Keeps tag tag1 w w1 P) (k : Keeps tag1 tag2 w1 w2 Q) (hP : ∀ j, P j → R j) (hQ : ∀ j, Q j → R j) : Keeps tag tag2 w w2 R :=
  fun X hX j hj hx => k X hX j (fun q => hj (hQ j q)) (h X hX j (fun p => hj (hP j p)) hx)
theorem Keeps.of {tag tag' : Nat → Nat} {w w' : World} {F : Nat → Prop} (f : ∀ X, Framed X → ∀ j, X (fun k => tag k = j) w → (∀ k, tag k = j → ¬ F k) → X (fun k => tag' k = j) w') {P : Nat → Prop} (h : ∀ k, F k → P (tag k)) : Keeps tag tag' w w' P :=
  fun X hX j hj hx => f X hX j hx fun k hk hF => hj (hk ▸ h k hF)
theorem OwS.store {α : Type} {E : Enc α} {ty : Nat} {S : Nat → Prop} {w : World} {g off n cap : Nat} {xs : List α} (h : OwS E ty S w (.slice (some ⟨g, off, none⟩) n cap) xs) (i : Nat) (hi : i < xs.length) (x : α) :
    OwS E ty S (w.setCells g (off + i * E.size) (E.cells x)) (.slice (some ⟨g, off, none⟩) n cap) (xs.set i x) ∧ Only S w (w.setCells g (off + i * E.size) (E.cells x)) :=
  ⟨⟨h.1.store i hi x, h.2⟩, Only.of_grown (grownBy_setCells _ _ _ _) fun k hk => h.2 k (by simpa [Value.ownBlock] using hk)⟩
/-- an object: a block of cells, one of them a slice of its own -/
def Obj1 {α : Type} (E : Enc α) (ty ety : Nat) (cells : Value → Array Value) (g : Nat) (xs : List α) (S : Nat → Prop) (w : World) : Prop :=
  ∃ v, w.heap[g]? = some (.cells (cells v) ty (0, 0)) ∧ Ow E 0 ety w v xs ∧ S g ∧ ∀ k, v.ownBlock = some k → S k
theorem Obj1.framed {α : Type} {E : Enc α} {ty ety : Nat} {cells : Value → Array Value} {g : Nat} {xs : List α} : Framed (Obj1 E ty ety cells g xs) where
  only S F w w' H ho hn := by
    obtain ⟨v, h, hown, h1, h2⟩ := H
    exact ⟨v, ho.heap h (hn g (heap_lt h) h1), hown.only ho (fun k hk => hn k (hown.lt hk).2 (h2 k hk)), h1, h2⟩
  mono S S' w H hs := by
    obtain ⟨v, h, hown, h1, h2⟩ := H
    exact ⟨v, h, hown, hs g (heap_lt h) h1, fun k hk => hs k (hown.lt hk).2 (h2 k hk)⟩
/-- the same, its slice's value named -/
def Obj1v {α : Type} (E : Enc α) (ty ety : Nat) (cells : Value → Array Value) (g : Nat) (v : Value) (xs : List α) (S : Nat → Prop) (w : World) : Prop :=
  w.heap[g]? = some (.cells (cells v) ty (0, 0)) ∧ Ow E 0 ety w v xs ∧ S g ∧ ∀ k, v.ownBlock = some k → S k
theorem Obj1v.framed {α : Type} {E : Enc α} {ty ety : Nat} {cells : Value → Array Value} {g : Nat} {v : Value} {xs : List α} : Framed (Obj1v E ty ety cells g v xs) where
  only S F w w' H ho hn := by
    obtain ⟨h, hown, h1, h2⟩ := H
    exact ⟨ho.heap h (hn g (heap_lt h) h1), hown.only ho (fun k hk => hn k (hown.lt hk).2 (h2 k hk)), h1, h2⟩
  mono S S' w H hs := by
    obtain ⟨h, hown, h1, h2⟩ := H
    exact ⟨h, hown, hs g (heap_lt h) h1, fun k hk => hs k (hown.lt hk).2 (h2 k hk)⟩
/-- the row is not the object's own block -/
theorem row_ne {α : Type} {E : Enc α} {ty ety : Nat} {cs : Array Value} {g : Nat} {xs : List α} {w : World} {v : Value} {base : Nat} (h : w.heap[g]? = some (.cells cs ty (0, 0))) (hown : Ow E base ety w v xs) (hne : ty ≠ ety) : v.ownBlock ≠ some g := by
  intro e
  obtain ⟨cur, hc⟩ := hown.type e
  rw [h] at hc
  simp at hc
  exact hne hc.2
theorem blk_cell {w : World} {g : Nat} {cs : Array Value} {ty : Nat} {fr : Nat × Nat} (h : w.heap[g]? = some (.cells cs ty fr)) (i : Nat) : w.cell? ⟨g, i, none⟩ = cs[i]? := by simp [World.cell?, h]
theorem blk_free {w : World} {g : Nat} {cs : Array Value} {ty : Nat} (h : w.heap[g]? = some (.cells cs ty (0, 0))) (i : Nat) : w.frozen? ⟨g, i, none⟩ = false := by simp [World.frozen?, h]
theorem blk_set {w : World} {g : Nat} {cs : Array Value} {ty : Nat} {fr : Nat × Nat} (h : w.heap[g]? = some (.cells cs ty fr)) (i : Nat) (v : Value) : (w.setCell ⟨g, i, none⟩ v).heap[g]? = some (.cells (cs.setIfInBounds i v) ty fr) := by
  simp only [World.setCell, Array.getElem?_modify, h, if_true, Option.map_some]; rfl
/-- one scalar cell of an object is set -/
theorem Obj1.set {α : Type} {E : Enc α} {ty ety : Nat} {cells cells' : Value → Array Value} {g : Nat} {xs : List α} {S : Nat → Prop} {w : World} (H : Obj1 E ty ety cells g xs S w) (hne : ty ≠ ety) (i : Nat) (x : Value) (hc : ∀ v, (cells v).setIfInBounds i x = cells' v) :
    Obj1 E ty ety cells' g xs S (w.setCell ⟨g, i, none⟩ x) ∧ Only (fun k => k = g) w (w.setCell ⟨g, i, none⟩ x) := by
  obtain ⟨v, hg, hown, hS, hv⟩ := H
  have ho := Only.setCell (fun k => k = g) w g i x rfl
  refine ⟨⟨v, by rw [← hc]; exact blk_set hg i x, hown.only ho (fun k hk e => row_ne hg hown hne (by rw [hk, e])), hS, hv⟩, ho⟩

/-- an append at a step of a region that draws its order, the object g beside it -/
theorem step_appendS {α : Type} {E : Enc α} {P : Program} {w : World} {ops : Array Oper} {o : Oper} {a : Act} {K : Act → World → Prop} {Q : Exit → Act → World → Prop} {F : Prop} (hgd : o.guard = none) (s x : Operand) (t : TypeId)
    (ho : o.op = .call { callee := .builtin .append, args := #[s, x], argTypes := #[t, t] })
    (e bytes : Nat) (hI : SliceInfo P t e E.size bytes) (S : Nat → Prop) (v : Value) (xs : List α) (hs : a.eval s = v) (hown : OwS E e S w v xs)
    (u : Value) (ys : List α) (hx : a.eval x = u) (hr : Rd E w u ys) (n : Nat) (hn : n = xs.length + ys.length) (h0 : 0 < n)
    (hbytes : (5 * n + 2816) * bytes ≤ 1125899906842624) (h63 : n ≤ maxLen) (g : Nat) (hg : g < w.heap.size) (hne : v.ownBlock ≠ some g)
    (h : ∀ b off cap w', OwS E e (fun k => S k ∨ w.heap.size ≤ k) w' (.slice (some ⟨b, off, none⟩) n cap) (xs ++ ys) → Only (fun k => v.ownBlock = some k) w w' → (∀ i, w'.cell? ⟨g, i, none⟩ = w.cell? ⟨g, i, none⟩) → (∀ i, w'.frozen? ⟨g, i, none⟩ = w.frozen? ⟨g, i, none⟩) → K (a.put o.dst (.slice (some ⟨b, off, none⟩) n cap)) w') :
    if Region.wanted o (yielded ops a.tmps) = true then Oper.wp P o a w K Q else F := by
  subst hn
  refine step_append hgd s x t ho 0 e bytes hI v xs hs hown.1 u ys hx hr hbytes h63 (Nat.zero_le _) fun v' w' h1 h2 h3 _ => ?_
  obtain ⟨b, off, cap, rfl⟩ := h1.some_ (by simpa using h0)
  have ho := Only.of_grown (F := fun k => v.ownBlock = some k) h2 fun k hk => hk
  have hl : (xs ++ ys).length = xs.length + ys.length := List.length_append
  rw [hl] at h1 h3 ⊢
  exact h b off cap w' ⟨h1, fun k hk => by
      rcases h3 with h3 | h3
      · exact .inl (hown.2 k (by rw [← h3.1]; exact hk))
      · exact .inr (h3 k hk)⟩ ho (fun i => World.cell?_of_block (ho.block g hg hne)) (fun i => World.frozen?_of_block (ho.block g hg hne))
/-- the slice of an object is set: its new row lies among S, or is new -/
theorem Obj1.setSlice {α : Type} {E : Enc α} {ty ety : Nat} {cells : Value → Array Value} {g : Nat} {xs ys : List α} {S : Nat → Prop} {w : World} (H : Obj1 E ty ety cells g xs S w) (hne : ty ≠ ety) (i : Nat) (x : Value) (hown : OwS E ety S w x ys) (hc : ∀ v u, (cells v).setIfInBounds i u = cells u) :
    Obj1 E ty ety cells g ys S (w.setCell ⟨g, i, none⟩ x) ∧ Only (fun k => k = g) w (w.setCell ⟨g, i, none⟩ x) := by
  obtain ⟨v, hg, _, hS, hv⟩ := H
  have ho := Only.setCell (fun k => k = g) w g i x rfl
  exact ⟨⟨x, by rw [← hc v x]; exact blk_set hg i x, hown.1.only ho (fun k hk e => row_ne hg hown.1 hne (by rw [hk, e])), hS, hown.2⟩, ho⟩
/-- the object where its old row may have been written: its block alone is as it was; then its slice is set -/
theorem Obj1.setSlice' {α : Type} {E : Enc α} {ty ety : Nat} {cells : Value → Array Value} {g : Nat} {ys : List α} {S : Nat → Prop} {w : World} {v : Value} (hg : w.heap[g]? = some (.cells (cells v) ty (0, 0))) (hS : S g) (hne : ty ≠ ety) (i : Nat) (x : Value) (hown : OwS E ety S w x ys) (hc : ∀ v u, (cells v).setIfInBounds i u = cells u) :
    Obj1 E ty ety cells g ys S (w.setCell ⟨g, i, none⟩ x) ∧ Only (fun k => k = g) w (w.setCell ⟨g, i, none⟩ x) := by
  have ho := Only.setCell (fun k => k = g) w g i x rfl
  exact ⟨⟨x, by rw [← hc v x]; exact blk_set hg i x, hown.1.only ho (fun k hk e => row_ne hg hown.1 hne (by rw [hk, e])), hS, hown.2⟩, ho⟩
theorem Obj1.in_ {α : Type} {E : Enc α} {ty ety : Nat} {cells : Value → Array Value} {g : Nat} {xs : List α} {S : Nat → Prop} {w : World} (H : Obj1 E ty ety cells g xs S w) : S g := by obtain ⟨_, _, _, h, _⟩ := H; exact h
theorem Obj1v.set {α : Type} {E : Enc α} {ty ety : Nat} {cells cells' : Value → Array Value} {g : Nat} {v : Value} {xs : List α} {S : Nat → Prop} {w : World} (H : Obj1v E ty ety cells g v xs S w) (hne : ty ≠ ety) (i : Nat) (x : Value) (hc : (cells v).setIfInBounds i x = cells' v) :
    Obj1v E ty ety cells' g v xs S (w.setCell ⟨g, i, none⟩ x) ∧ Only (fun k => k = g) w (w.setCell ⟨g, i, none⟩ x) := by
  obtain ⟨hg, hown, hS, hv⟩ := H
  have ho := Only.setCell (fun k => k = g) w g i x rfl
  exact ⟨⟨by rw [← hc]; exact blk_set hg i x, hown.only ho (fun k hk e => row_ne hg hown hne (by rw [hk, e])), hS, hv⟩, ho⟩
theorem madeCells_all {α : Type} (E : Enc α) (x0 : α) (z : Array Value) (hz : z.toList = E.cells x0) (n : Nat) : (madeCells z (n * E.size)).toList = E.all (List.replicate n x0) := by
  have hs : z.size = E.size := by rw [← Array.length_toList, hz, E.len]
  refine List.ext_getElem (by simp [size_madeCells, E.all_len]) fun m h1 h2 => ?_
  have hm : m < n * E.size := by simpa [size_madeCells] using h1
  have hp := E.pos
  have hr : m % E.size < E.size := Nat.mod_lt _ hp
  have hq : m / E.size < (List.replicate n x0).length := by
    rw [List.length_replicate]
    exact Nat.div_lt_of_lt_mul (by rw [Nat.mul_comm]; exact hm)
  have he : m / E.size * E.size + m % E.size = m := by rw [Nat.mul_comm]; exact Nat.div_add_mod _ _
  have hat := E.all_at (List.replicate n x0) (m / E.size) (m % E.size) hq hr
  rw [he, List.getElem?_eq_getElem h2, List.getElem_replicate, ← hz] at hat
  have hl : m % E.size < z.toList.length := by rw [Array.length_toList, hs]; exact hr
  rw [List.getElem?_eq_getElem hl] at hat
  have h3 := Option.some.inj hat
  rw [h3]
  have hl2 : m % z.size < z.size := by rw [hs]; exact hr
  simp [madeCells, hs, getElem!_pos z (m % E.size) (by rw [hs]; exact hr)]
/-- what the table says of a type's zero -/
def ZeroInfo {α : Type} (P : Program) (t e : Nat) (E : Enc α) (x0 : α) (bytes : Nat) : Prop :=
  P.underlying t = some (.slice e) ∧ ∃ i z, P.info? e = some i ∧ i.zero = some z ∧ i.size = E.size ∧ i.bytes = bytes ∧ z.cells.toList = E.cells x0
theorem ZeroInfo.mk' {α : Type} {P : Program} {t e bytes : Nat} {E : Enc α} {x0 : α} {z : Value} (h : P.underlying t = some (.slice e)) (hi : (P.info? e).map (fun i => (i.zero, i.size, i.bytes)) = some (some z, E.size, bytes)) (hz : z.cells.toList = E.cells x0) : ZeroInfo P t e E x0 bytes := by
  obtain ⟨i, h1, h2, h3, h4⟩ := info_parts hi
  exact ⟨h, i, z, h1, h2, h3, h4, hz⟩
/-- make of n zeros -/
theorem wl_makeS {α : Type} {E : Enc α} {P : Program} {w : World} {ops : Array Oper} {rest : List Oper} {o : Oper} {a : Act} {Q : Exit → Act → World → Prop} (hg : o.guard = none) (l c : Operand) (t : TypeId) (hop : o.op = Op.makeSlice t l c)
    (e bytes : Nat) (x0 : α) (hI : ZeroInfo P t e E x0 bytes) (kl kc : IntKind) (n : Nat) (hl : a.eval l = .int kl (n : Int)) (hc : a.eval c = .int kc (n : Int)) (b2 : bytes * n ≤ 281474976710656) (b3 : n ≤ maxLen)
    (hK : ∀ w', OwS E e (fun k => w.heap.size ≤ k) w' (.slice (some ⟨w.heap.size, 0, none⟩) n n) (List.replicate n x0) → Only (fun _ => False) w w' → wpList P ops Q rest (a.put o.dst (.slice (some ⟨w.heap.size, 0, none⟩) n n)) w') :
    wpList P ops Q (o :: rest) a w := by
  obtain ⟨h1, i, z, h2, h3, h4, h5, h6⟩ := hI
  refine wpList_make_full w hg l c t hop 0 e i z E.size h1 h2 h3 h4 kl kc n n n hl hc rfl rfl (by rw [h5]; exact b2) b3 (Nat.zero_le _) fun w' hr hgr => ?_
  rw [madeCells_all E x0 z.cells h6] at hr
  refine hK w' ⟨Ow.of_row (by simpa using b3) (by simpa using hr), fun k hk => ?_⟩ (Only.of_grown hgr fun k hk => by simp at hk)
  simp [Value.ownBlock] at hk; omega
/-- one element of the object's slice is set -/
theorem Obj1v.elem {α : Type} {E : Enc α} {ty ety : Nat} {cells : Value → Array Value} {g b off n cap : Nat} {xs : List α} {S : Nat → Prop} {w : World} (H : Obj1v E ty ety cells g (.slice (some ⟨b, off, none⟩) n cap) xs S w) (hne : ty ≠ ety) (i : Nat) (hi : i < xs.length) (x : α) :
    Obj1v E ty ety cells g (.slice (some ⟨b, off, none⟩) n cap) (xs.set i x) S (w.setCells b (off + i * E.size) (E.cells x)) ∧ Only S w (w.setCells b (off + i * E.size) (E.cells x)) := by
  obtain ⟨hg, hown, hS, hv⟩ := H
  have ho := Only.of_grown (F := fun k => b = k) (grownBy_setCells w b (off + i * E.size) (E.cells x)) fun k hk => by simpa using hk
  exact ⟨⟨ho.heap hg (fun e => row_ne hg hown hne (by rw [e]; rfl)), hown.store i hi x, hS, hv⟩, ho.mono fun k _ e => hv k (by rw [← e]; rfl)⟩
end Go.Proofs.Ytodacnpbhlkoiaa
