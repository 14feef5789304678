/- Words on slices that read as lists, and small lemmas, used by all walks of this seat. -/
import Derived.Test.YtodacnpbhlkoiaaRows
import Derived.WalkKit
import Derived.WalkSpells
import Derived.WalkLawsBesides
import Derived.Deep.QuietTactic
import Derived.BigQuiet
import Derived.Lib.Hide
import Derived.Laws.AppendOwnNone
namespace Go.Proofs.Ytodacnpbhlkoiaa
open Go.RowKit
set_option linter.unusedVariables false

/-- one call behind the other -/
theorem bthen {w w1 w2 : World} (h : Below w.heap.size w w1) (k : Below w1.heap.size w1 w2) : Below w.heap.size w w2 := h.trans (k.mono h.size)
/-- for a region that draws its order: cells that stay -/
theorem keep1 {B : Nat} {w w' : World} {a : Addr} {v : Value} (h : Below B w w') (l : a.block < B) (c : w.cell? a = some v) : Below B w w' ∧ w'.cell? a = some v := ⟨h, (h.cell l).trans c⟩
theorem keep2 {B : Nat} {w w' : World} {a b : Addr} {v u : Value} (h : Below B w w') (l : a.block < B) (c : w.cell? a = some v) (l2 : b.block < B) (c2 : w.cell? b = some u) : Below B w w' ∧ w'.cell? a = some v ∧ w'.cell? b = some u := ⟨h, (h.cell l).trans c, (h.cell l2).trans c2⟩
theorem keep3 {B : Nat} {w w' : World} {a b d : Addr} {v u x : Value} (h : Below B w w') (l : a.block < B) (c : w.cell? a = some v) (l2 : b.block < B) (c2 : w.cell? b = some u) (l3 : d.block < B) (c3 : w.cell? d = some x) :
    Below B w w' ∧ w'.cell? a = some v ∧ w'.cell? b = some u ∧ w'.cell? d = some x := ⟨h, (h.cell l).trans c, (h.cell l2).trans c2, (h.cell l3).trans c3⟩
/-- how an element lies in cells -/
structure Enc (α : Type) where
  size : Nat
  pos : 0 < size
  cells : α → List Value
  len : ∀ x, (cells x).length = size
  one : ∀ x u, u ∈ cells x → u.oneCell' = true

def Enc.all {α : Type} (E : Enc α) (xs : List α) : List Value := xs.flatMap E.cells
section
variable {α : Type} (E : Enc α)
theorem Enc.all_nil : E.all [] = [] := rfl
theorem Enc.all_append (xs ys : List α) : E.all (xs ++ ys) = E.all xs ++ E.all ys := by simp [Enc.all]
theorem Enc.all_cons (x : α) (ys : List α) : E.all (x :: ys) = E.cells x ++ E.all ys := by simp [Enc.all]
theorem Enc.all_len (xs : List α) : (E.all xs).length = xs.length * E.size := by
  induction xs with
  | nil => simp [Enc.all]
  | cons x xs ih => rw [Enc.all_cons, List.length_append, ih, E.len, List.length_cons, Nat.add_mul, Nat.one_mul, Nat.add_comm]
theorem Enc.all_one (xs : List α) : ∀ u ∈ E.all xs, u.oneCell' = true := by
  intro u hu
  obtain ⟨x, _, hx⟩ := List.mem_flatMap.1 hu
  exact E.one x u hx
theorem Enc.all_at (xs : List α) (i j : Nat) (h : i < xs.length) (hj : j < E.size) : (E.all xs)[i * E.size + j]? = (E.cells xs[i])[j]? := by
  induction xs generalizing i with
  | nil => simp at h
  | cons x xs ih =>
    rw [Enc.all_cons]
    cases i with
    | zero =>
      rw [Nat.zero_mul, Nat.zero_add, List.getElem?_append_left (by rw [E.len]; exact hj)]; rfl
    | succ i =>
      rw [List.getElem?_append_right (by rw [E.len, Nat.add_mul]; omega), E.len, show (i + 1) * E.size + j - E.size = i * E.size + j by rw [Nat.add_mul]; omega]
      exact ih i (by simpa using h)
theorem Enc.all_take (xs : List α) (k : Nat) : E.all (xs.take k) = (E.all xs).take (k * E.size) := by
  induction xs generalizing k with
  | nil => simp [Enc.all]
  | cons x xs ih =>
    cases k with
    | zero => simp [Enc.all]
    | succ k =>
      rw [List.take_succ_cons, Enc.all_cons, Enc.all_cons, ih, List.take_append, E.len, List.take_of_length_le (l := E.cells x) (by rw [E.len, Nat.add_mul]; omega)]
      rw [show (k + 1) * E.size - E.size = k * E.size by rw [Nat.add_mul]; omega]
theorem Enc.all_drop (xs : List α) (k : Nat) : E.all (xs.drop k) = (E.all xs).drop (k * E.size) := by
  induction xs generalizing k with
  | nil => simp [Enc.all]
  | cons x xs ih =>
    cases k with
    | zero => simp [Enc.all]
    | succ k =>
      rw [List.drop_succ_cons, Enc.all_cons, ih, List.drop_append, E.len, @List.drop_eq_nil_of_le _ (E.cells x) _ (by rw [E.len, Nat.add_mul]; omega), List.nil_append]
      rw [show (k + 1) * E.size - E.size = k * E.size by rw [Nat.add_mul]; omega]

/-- v reads as the list xs in w -/
def Rd (w : World) (v : Value) (xs : List α) : Prop :=
  xs.length ≤ maxLen ∧ ∃ a cap, v = .slice a xs.length cap ∧ xs.length ≤ cap ∧ (a = none → cap = 0) ∧ (0 < xs.length → ∃ b off, a = some ⟨b, off, none⟩ ∧ ∀ j u, (E.all xs)[j]? = some u → w.cell? ⟨b, off + j, none⟩ = some u)

/-- v is a slice of the call's own, from block 'base' on, and holds the list xs -/
def Ow (base ty : Nat) (w : World) (v : Value) (xs : List α) : Prop :=
  xs.length ≤ maxLen ∧ ∃ ao cap, v = .slice ao xs.length cap ∧ xs.length ≤ cap ∧ cap ≤ maxLen ∧ (ao = none → cap = 0) ∧
    ∀ a, ao = some a → ∃ g off cur, a = ⟨g, off, none⟩ ∧ base ≤ g ∧ w.heap[g]? = some (.cells cur ty (0, 0)) ∧ off + cap * E.size ≤ cur.size ∧ (cur.toList.drop off).take (xs.length * E.size) = E.all xs
end

section
variable {α : Type} {E : Enc α}
theorem Rd.nil (w : World) : Rd E w (.slice none 0 0) ([] : List α) := ⟨by simp, none, 0, rfl, by simp, fun _ => rfl, fun h => by simp at h⟩
theorem Rd.drewN {w : World} {v : Value} {xs : List α} (h : Rd E w v xs) (n : Nat) : Rd E (w.drewN n) v xs := h
theorem Rd.drew {w : World} {v : Value} {xs : List α} (h : Rd E w v xs) : Rd E w.drew v xs := h
theorem Rd.kept {w w' : World} {v : Value} {xs : List α} (h : Rd E w v xs) (hb : ∀ a n c, v = .slice (some a) n c → 0 < n → w'.heap[a.block]? = w.heap[a.block]?) : Rd E w' v xs := by
  obtain ⟨hm, a, cap, rfl, hlc, hn, hx⟩ := h
  refine ⟨hm, a, cap, rfl, hlc, hn, fun h0 => ?_⟩
  obtain ⟨b, off, rfl, hc⟩ := hx h0
  refine ⟨b, off, rfl, fun i u hi => ?_⟩
  rw [World.cell?_of_block (w := w) (a := ⟨b, off + i, none⟩) (hb ⟨b, off, none⟩ _ _ rfl h0)]
  exact hc i u hi
theorem Rd.lt {w : World} {a : Addr} {n c : Nat} {xs : List α} (h : Rd E w (.slice (some a) n c) xs) (h0 : 0 < n) : a.block < w.heap.size := by
  obtain ⟨hm, a', cap, he, hlc, hn, hx⟩ := h
  obtain ⟨rfl, rfl, rfl⟩ : some a = a' ∧ n = xs.length ∧ c = cap := by simpa using he
  obtain ⟨b, off, hab, hc⟩ := hx h0
  have hlen : 0 < (E.all xs).length := by rw [E.all_len]; exact Nat.mul_pos h0 E.pos
  have := hc 0 _ (List.getElem?_eq_getElem hlen)
  obtain rfl : a = ⟨b, off, none⟩ := by simpa using hab
  exact World.block_lt_of_cell? w _ this
/-- what was there stays: what read in w reads in w' -/
theorem Rd.grow {w w' : World} {v : Value} {xs : List α} (h : Rd E w v xs) (hb : Below w.heap.size w w') : Rd E w' v xs :=
  h.kept (fun a _ _ e h0 => hb.block a.block (Rd.lt (e ▸ h) h0))
theorem Rd.below {w0 w w' : World} {B : Nat} {v : Value} {xs : List α} (h : Rd E w0 v xs) (hB : w0.heap.size ≤ B) (hb : Below B w0 w) : Rd E w v xs :=
  h.grow (hb.mono hB)
theorem Rd.alloc {w : World} {v : Value} {xs : List α} (h : Rd E w v xs) (o : Obj) : Rd E (w.alloc o) v xs :=
  h.grow ((Below.refl _ _).alloc (Nat.le_refl _) o)
theorem Ow.rd {w : World} {base e : Nat} {v : Value} {xs : List α} (h : Ow E base e w v xs) : Rd E w v xs := by
  obtain ⟨hn, ao, cap, rfl, hlc, hcm, hnone, hx⟩ := h
  refine ⟨hn, ao, cap, rfl, hlc, hnone, fun h0 => ?_⟩
  cases ao with
  | none => have := hnone rfl; omega
  | some a =>
    obtain ⟨g, off, cur, rfl, hg, hh, hs, ht⟩ := hx a rfl
    refine ⟨g, off, rfl, fun i u hi => ?_⟩
    rw [← ht, List.getElem?_take] at hi
    split at hi
    · rw [List.getElem?_drop] at hi
      simp only [World.cell?, hh]
      simpa using hi
    · simp at hi
theorem Ow.nil (base e : Nat) (w : World) : Ow E base e w (.slice none 0 0) ([] : List α) := ⟨by simp, none, 0, rfl, by simp, by simp, fun _ => rfl, fun _ h => by simp at h⟩
theorem Ow.of_row {w : World} {base e : Nat} {v : Value} {xs : List α} (hm : xs.length ≤ maxLen) (h : w.ownsRow base e E.size v xs.length (E.all xs)) : Ow E base e w v xs := by
  obtain ⟨h1, h2⟩ := h
  rcases h2 with ⟨rfl, h0⟩ | ⟨g, cap, cur, rfl, hg, hh, hcap, hm', hs, ht⟩
  · obtain rfl : xs = [] := List.eq_nil_of_length_eq_zero h0
    exact Ow.nil _ _ _
  · refine ⟨hm, _, cap, rfl, hcap, hm', fun h => by simp at h, fun a ha => ⟨g, 0, cur, by simpa using ha.symm, hg, hh, by omega, by simpa using ht⟩⟩
theorem Ow.kept {w w' : World} {base e : Nat} {v : Value} {xs : List α} (h : Ow E base e w v xs) (hb : ∀ g, v.ownBlock = some g → w'.heap[g]? = w.heap[g]?) : Ow E base e w' v xs := by
  obtain ⟨hn, ao, cap, rfl, hlc, hcm, hnone, hx⟩ := h
  refine ⟨hn, ao, cap, rfl, hlc, hcm, hnone, fun a ha => ?_⟩
  obtain ⟨g, off, cur, rfl, hg, hh, r⟩ := hx a ha
  subst ha
  exact ⟨g, off, cur, rfl, hg, by rw [hb g rfl]; exact hh, r⟩
theorem Ow.lt {w : World} {base e : Nat} {v : Value} {xs : List α} (h : Ow E base e w v xs) {g : Nat} (hg : v.ownBlock = some g) : base ≤ g ∧ g < w.heap.size := by
  obtain ⟨hn, ao, cap, rfl, hlc, hcm, hnone, hx⟩ := h
  cases ao with
  | none => simp [Value.ownBlock] at hg
  | some a =>
    obtain ⟨g', off, cur, rfl, hg', hh, r⟩ := hx a rfl
    simp [Value.ownBlock] at hg
    subst hg
    exact ⟨hg', (Array.getElem?_eq_some_iff.1 hh).1⟩
/-- the block that holds it has the elements' type -/
theorem Ow.type {w : World} {base e : Nat} {v : Value} {xs : List α} (h : Ow E base e w v xs) {g : Nat} (hg : v.ownBlock = some g) : ∃ cur, w.heap[g]? = some (.cells cur e (0, 0)) := by
  obtain ⟨hn, ao, cap, rfl, hlc, hcm, hnone, hx⟩ := h
  cases ao with
  | none => simp [Value.ownBlock] at hg
  | some a =>
    obtain ⟨g', off, cur, rfl, hg', hh, r⟩ := hx a rfl
    simp [Value.ownBlock] at hg
    subst hg
    exact ⟨cur, hh⟩
theorem Ow.grow {w w' : World} {base e : Nat} {v : Value} {xs : List α} (h : Ow E base e w v xs) (hb : Below w.heap.size w w') : Ow E base e w' v xs :=
  h.kept fun g hg => hb.block g (h.lt hg).2
theorem Ow.grown {w w' : World} {base e : Nat} {v : Value} {xs : List α} (h : Ow E base e w v xs) {row : Option Nat} (hb : w.grownBy w' row) (hne : v.ownBlock = none ∨ v.ownBlock ≠ row) : Ow E base e w' v xs :=
  h.kept fun g hg => hb.block g (h.lt hg).2 (by rcases hne with h | h <;> rw [hg] at h <;> simp_all)
theorem Ow.mono {w : World} {base base' e : Nat} {v : Value} {xs : List α} (h : Ow E base e w v xs) (hb : base' ≤ base) : Ow E base' e w v xs := by
  obtain ⟨hn, ao, cap, rfl, hlc, hcm, hnone, hx⟩ := h
  refine ⟨hn, ao, cap, rfl, hlc, hcm, hnone, fun a ha => ?_⟩
  obtain ⟨g, off, cur, rfl, hg, r⟩ := hx a ha
  exact ⟨g, off, cur, rfl, by omega, r⟩
theorem Ow.alloc {w : World} {base e : Nat} {v : Value} {xs : List α} (h : Ow E base e w v xs) (o : Obj) : Ow E base e (w.alloc o) v xs :=
  h.grow ((Below.refl _ _).alloc (Nat.le_refl _) o)
theorem Ow.drew {w : World} {base e : Nat} {v : Value} {xs : List α} (h : Ow E base e w v xs) : Ow E base e w.drew v xs := h
theorem Ow.drewN {w : World} {base e : Nat} {v : Value} {xs : List α} (h : Ow E base e w v xs) (n : Nat) : Ow E base e (w.drewN n) v xs := h
/-- a literal slice, just laid -/
theorem Rd.lit (w : World) (cs : Array Value) (e : TypeId) (fr : Nat × Nat) (n c : Nat) (xs : List α) (hcs : cs.toList = E.all xs) (hn : n = xs.length) (hc : n ≤ c) (hm : n ≤ maxLen) :
    Rd E (w.alloc (.cells cs e fr)) (.slice (some ⟨w.heap.size, 0, none⟩) n c) xs := by
  subst hn
  refine ⟨hm, _, c, rfl, hc, fun h => by simp at h, fun _ => ⟨w.heap.size, 0, rfl, fun j u hj => ?_⟩⟩
  rw [← hcs] at hj
  simp only [World.cell?, heap_alloc_new, Nat.zero_add]
  simpa using hj
theorem Ow.lit (w : World) (base : Nat) (cs : Array Value) (e : TypeId) (n : Nat) (xs : List α) (hcs : cs.toList = E.all xs) (hn : n = xs.length) (hm : n ≤ maxLen) (hb : base ≤ w.heap.size) :
    Ow E base e (w.alloc (.cells cs e)) (.slice (some ⟨w.heap.size, 0, none⟩) n n) xs := by
  subst hn
  refine ⟨hm, _, _, rfl, Nat.le_refl _, hm, fun h => by simp at h, fun a ha => ⟨w.heap.size, 0, cs, by simpa using ha.symm, hb, heap_alloc_new w _, ?_, ?_⟩⟩
  · rw [← Array.length_toList, hcs, E.all_len]; omega
  · rw [hcs, List.drop_zero, List.take_of_length_le (by rw [E.all_len]; exact Nat.le_refl _)]
/-- one element is read -/
theorem Ow.at_ {w : World} {base e : Nat} {ao : Option Addr} {n cap : Nat} {xs : List α} (h : Ow E base e w (.slice ao n cap) xs) (i : Nat) (hi : i < xs.length) :
    ∃ g off, ao = some ⟨g, off, none⟩ ∧ base ≤ g ∧ ∀ j, j < E.size → w.cell? ⟨g, off + (i * E.size + j), none⟩ = (E.cells xs[i])[j]? ∧ w.frozen? ⟨g, off + (i * E.size + j), none⟩ = false := by
  have hr := h.rd
  obtain ⟨hn, ao', cap', he, hlc, hcm, hnone, hx⟩ := h
  obtain ⟨rfl, rfl, rfl⟩ : ao = ao' ∧ n = xs.length ∧ cap = cap' := by simpa using he
  obtain ⟨_, ao', cap', he', _, _, hc⟩ := hr
  obtain ⟨rfl, _, rfl⟩ : ao = ao' ∧ xs.length = xs.length ∧ cap = cap' := by simpa using he'
  obtain ⟨b, off, rfl, hcell⟩ := hc (by omega)
  obtain ⟨g, off', cur, hgo, hg, hh, _, _⟩ := hx _ rfl
  obtain ⟨rfl, rfl⟩ : b = g ∧ off = off' := by simpa using hgo
  refine ⟨b, off, rfl, hg, fun j hj => ⟨?_, by simp [World.frozen?, hh]⟩⟩
  have hat := E.all_at xs i j hi hj
  have hlt : j < (E.cells xs[i]).length := by rw [E.len]; exact hj
  rw [List.getElem?_eq_getElem hlt] at hat ⊢
  exact hcell _ _ hat
end

/-- what the table says of a slice type t with elements e -/
def SliceInfo (P : Program) (t e size bytes : Nat) : Prop :=
  P.underlying t = some (.slice e) ∧ ∃ i z, P.info? e = some i ∧ i.zero = some z ∧ i.size = size ∧ i.bytes = bytes ∧ z.cells.size = size
theorem SliceInfo.mk' {P : Program} {t e size bytes : Nat} {z : Value} (h : P.underlying t = some (.slice e)) (hi : (P.info? e).map (fun i => (i.zero, i.size, i.bytes)) = some (some z, size, bytes)) (hz : z.cells.size = size) : SliceInfo P t e size bytes := by
  obtain ⟨i, h1, h2, h3, h4⟩ := info_parts hi
  exact ⟨h, i, z, h1, h2, h3, h4, hz⟩

theorem run_append_empty {P : Program} {w : World} (t ty e : TypeId) (i : TypeInfo) (ht : P.underlying t = some (.slice e)) (hi : P.info? e = some i) (ao : Option Addr) (n cap : Nat) (hnc : n ≤ cap) (ad : Option Addr) (c : Nat) :
    (Builtin.append_ #[t, t] ty #[.slice ao n cap, .slice ad 0 c]).run P w = .ok (.slice ao n cap) w := by
  cases ad <;> cases ao <;> simp [Builtin.append_, run_underlying ht, sizeOf, typeInfo, hi, Builtin.lenOf, Builtin.firstCells, hnc, storeCells, loadCells, loadCellsFrom]
theorem setCells_row {w : World} {g off : Nat} {cur : Array Value} {e : Nat} (us : List Value) (hh : w.heap[g]? = some (.cells cur e (0, 0))) (hs : off + us.length ≤ cur.size) :
    ∃ cur', (w.setCells g off us).heap[g]? = some (.cells cur' e (0, 0)) ∧ cur'.size = cur.size ∧ cur'.toList = cur.toList.take off ++ us ++ cur.toList.drop (off + us.length) := by
  induction us generalizing w off cur with
  | nil => exact ⟨cur, hh, rfl, by simp⟩
  | cons u us ih =>
    have h1 : (w.setCell ⟨g, off, none⟩ u).heap[g]? = some (.cells (cur.setIfInBounds off u) e (0, 0)) := by
      simp only [World.setCell, Array.getElem?_modify, hh, if_true, Option.map_some]; rfl
    obtain ⟨cur', h2, h3, h4⟩ := ih (off := off + 1) h1 (by simp at hs ⊢; omega)
    refine ⟨cur', h2, by simpa using h3, ?_⟩
    rw [h4]
    simp at hs
    have : off < cur.toList.length := by simp; omega
    simp only [Array.toList_setIfInBounds, List.length_cons]
    have hmin : min off cur.size = off := by omega
    rw [List.take_set, List.drop_set, if_pos (by omega), List.take_succ_eq_append_getElem this, List.set_append, if_neg (by simp; omega)]
    simp [Nat.add_comm 1, Nat.add_assoc, hmin]
theorem grownBy_setCells (w : World) (g off : Nat) (us : List Value) : w.grownBy (w.setCells g off us) (some g) := by
  induction us generalizing w off with
  | nil => exact World.grownBy.refl _ _
  | cons u us ih =>
    have h := ih (w.setCell ⟨g, off, none⟩ u) (off + 1)
    refine ⟨h.os.trans rfl, h.tape.trans rfl, h.output.trans rfl, Nat.le_trans (by simp [World.setCell]) h.size, fun k hk hne => (h.block k (by simpa [World.setCell] using hk) hne).trans ?_⟩
    exact Below.heap_setCell _ _ _ _ (by rintro rfl; exact hne rfl)

theorem growBy_big (need : Nat) : ∀ r c, need ≤ c → Builtin.growBy need r c = c
  | 0, _, _ => rfl
  | r + 1, c, h => by rw [Builtin.growBy, if_pos h]
theorem growBy_le (need : Nat) : ∀ r c, c < need → Builtin.growBy need r c ≤ need + (need + 768) / 4
  | 0, c, h => by rw [Builtin.growBy]; omega
  | r + 1, c, h => by
    rw [Builtin.growBy, if_neg (by omega)]
    by_cases h2 : c + (c + 768) / 4 < need
    · exact growBy_le need r _ h2
    · rw [growBy_big _ _ _ (by omega)]; omega
theorem nextslicecap_fine {need old : Nat} (h : old < need) : Builtin.nextslicecap need old ≤ need + (need + 768) / 4 + 512 := by
  unfold Builtin.nextslicecap
  split
  · omega
  · split
    · omega
    · have := growBy_le need 4 old h; omega
theorem grow_fits {need old bytes : Nat} (h : old < need) (hb : (5 * need + 2816) * bytes ≤ 1125899906842624) : Builtin.nextslicecap need old * bytes ≤ 281474976710656 := by
  have h1 := nextslicecap_fine h
  have h2 : 4 * (Builtin.nextslicecap need old) ≤ 5 * need + 2816 := by omega
  have h3 := Nat.mul_le_mul_right bytes h2
  rw [Nat.mul_assoc] at h3
  omega
theorem run_grow_own {P : Program} {w : World} (t ty e : TypeId) (i : TypeInfo) (z : Value) (size bytes : Nat) (ht : P.underlying t = some (.slice e)) (hi : P.info? e = some i) (hz : i.zero = some z)
    (hsize : i.size = size) (hby : i.bytes = bytes) (hzs : z.cells.size = size) (hsz : 0 < size)
    (ao : Option Addr) (n cap : Nat) (olds : List Value) (hlo : olds.length = n * size) (hnone : ao = none → n = 0 ∧ cap = 0) (holds : ∀ b, ao = some b → ∀ j u, olds[j]? = some u → w.cell? (b.add j) = some u)
    (a : Addr) (m c : Nat) (news : List Value) (hl : news.length = m * size) (hnews : ∀ j u, news[j]? = some u → w.cell? (a.add j) = some u) (hm0 : 0 < m)
    (hg : cap < n + m) (h63 : n + m ≤ maxLen) (hbytes : (5 * (n + m) + 2816) * bytes ≤ 1125899906842624) :
    ∃ v' w', (Builtin.append_ #[t, t] ty #[.slice ao n cap, .slice (some a) m c]).run P w = .ok v' w' ∧ w'.ownsRow w.heap.size e size v' (n + m) (olds ++ news) ∧ w.grownBy w' none := by
  subst hsize
  subst hby
  have hsmall : n + m ≤ 9223372036854775807 := by simp only [maxLen] at h63; omega
  have hlen : (olds ++ news).length = (n + m) * i.size := by rw [List.length_append, hlo, hl, Nat.add_mul]
  have hge := grownCap_ge w (n + m) cap e
  have hcm : grownCap w (n + m) cap e ≤ maxLen := grownCap_le_maxLen w (n + m) cap e h63
  have hfit := grow_fits hg hbytes
  have hr : (Builtin.append_ #[t, t] ty #[.slice ao n cap, .slice (some a) m c]).run P w =
      .ok (.slice (some ⟨w.heap.size, 0, none⟩) (n + m) (grownCap w (n + m) cap e)) (w.drew.alloc (.cells (olds.toArray ++ news.toArray ++ Builtin.zeroCells z.cells (grownCap w (n + m) cap e - (n + m))) e)) := by
    cases ao with
    | some b => exact run_append_grow (P := P) w t ty e i z ht hi hz b n cap olds hlo (holds b rfl) a m c news hl hnews hg (by omega) hfit
    | none =>
      obtain ⟨rfl, rfl⟩ := hnone rfl
      obtain rfl : olds = [] := List.eq_nil_of_length_eq_zero (by simpa using hlo)
      have hB : 4 * m * i.bytes ≤ (5 * (0 + m) + 2816) * i.bytes := Nat.mul_le_mul_right _ (by omega)
      rw [Nat.mul_assoc] at hB
      have hr := run_append_nil (P := P) w t ty e i z ht hi hz a m c news hl hnews hm0 (by omega) (by omega)
      simpa using hr
  refine ⟨_, _, hr, ⟨hlen, .inr ⟨w.heap.size, _, _, rfl, Nat.le_refl _, heap_alloc_new w.drew _, hge, hcm, ?_, ?_⟩⟩, ⟨rfl, rfl, rfl, by simp, fun k hk _ => Below.heap_alloc w.drew _ k hk⟩⟩
  · simp only [Array.size_append, List.size_toArray, size_zeroCells, hzs, hlo, hl, ← Nat.add_mul]
    congr 1
    omega
  · simp only [Array.toList_append, List.append_assoc]
    rw [← List.append_assoc, ← hlen]
    exact List.take_left
/-- where a slice begins -/
def vstart : Value → Option Addr
  | .slice a _ _ => a
  | _ => none
/-- append to a slice of the call's own, whatever readable slice is appended: the builtin's run -/
theorem run_append_ow {α : Type} {E : Enc α} {P : Program} {w : World} (t ty : TypeId)
    (base e bytes : Nat) (hI : SliceInfo P t e E.size bytes) (v : Value) (xs : List α) (hown : Ow E base e w v xs) (u : Value) (ys : List α) (hr : Rd E w u ys)
    (hbytes : (5 * (xs.length + ys.length) + 2816) * bytes ≤ 1125899906842624) (h63 : xs.length + ys.length ≤ maxLen) (hbase : base ≤ w.heap.size) :
    ∃ v' w', (Builtin.append_ #[t, t] ty #[v, u]).run P w = .ok v' w' ∧ Ow E base e w' v' (xs ++ ys) ∧ w.grownBy w' v.ownBlock ∧ (v'.ownBlock = v.ownBlock ∧ vstart v' = vstart v ∨ ∀ g, v'.ownBlock = some g → w.heap.size ≤ g) ∧ ∀ q zs, Ow E base e w q zs → vstart q = vstart v → zs.length ≤ xs.length → Ow E base e w' q zs := by
  obtain ⟨ht, i, z, hi, hz, hsize, hby, hzs⟩ := hI
  obtain ⟨hm, ad, cap, rfl, hlc, hn, hc⟩ := hr
  obtain ⟨hxm, ao, xcap, rfl, hxlc, hxcm, hxn, hxc⟩ := hown
  have hgrows : ∀ v' w', w'.ownsRow w.heap.size e E.size v' (xs.length + ys.length) (E.all xs ++ E.all ys) → w.grownBy w' none →
      Ow E base e w' v' (xs ++ ys) ∧ w.grownBy w' (Value.slice ao xs.length xcap).ownBlock ∧ (v'.ownBlock = (Value.slice ao xs.length xcap).ownBlock ∧ vstart v' = ao ∨ ∀ g, v'.ownBlock = some g → w.heap.size ≤ g) ∧ ∀ q zs, Ow E base e w q zs → vstart q = ao → zs.length ≤ xs.length → Ow E base e w' q zs := by
    intro v' w' h1 h2
    exact ⟨Ow.mono (Ow.of_row (by simpa using h63) (by rw [List.length_append, E.all_append]; exact h1)) hbase, ⟨h2.os, h2.tape, h2.output, h2.size, fun k hk hne => h2.block k hk (by simp)⟩, .inr fun g hg => (h1.lt g hg).1, fun q zs hq _ _ => hq.grown h2 (by cases hb : q.ownBlock <;> simp)⟩
  by_cases h0 : 0 < ys.length
  · obtain ⟨b, off, rfl, hcell⟩ := hc h0
    have hnews : ∀ j u, (E.all ys)[j]? = some u → w.cell? ((⟨b, off, none⟩ : Addr).add j) = some u := fun j u hj => by rw [Addr.add_lit]; exact hcell j u hj
    cases ao with
    | none =>
      obtain rfl : xcap = 0 := hxn rfl
      have hx0 : xs = [] := List.eq_nil_of_length_eq_zero (by omega)
      subst hx0
      obtain ⟨v', w', hrun, r1, r2⟩ := run_grow_own (P := P) (w := w) t ty e i z E.size bytes ht hi hz hsize hby hzs E.pos none 0 0 [] (by simp) (fun _ => ⟨rfl, rfl⟩) (fun b hb => by simp at hb) ⟨b, off, none⟩ ys.length cap (E.all ys) (E.all_len ys) hnews h0 (by omega) (by simpa using h63) (by simpa using hbytes)
      exact ⟨v', w', hrun, hgrows v' w' (by simpa [Enc.all] using r1) r2⟩
    | some ax =>
      obtain ⟨g, xoff, cur, rfl, hg, hh, hsz, htk⟩ := hxc ax rfl
      have hcellx : ∀ j, j < cur.size → w.cell? ⟨g, j, none⟩ = cur[j]? := fun j hj => by simp [World.cell?, hh]
      by_cases hroom : xs.length + ys.length ≤ xcap
      · have hmul : (xs.length + ys.length) * E.size ≤ xcap * E.size := Nat.mul_le_mul_right _ hroom
        rw [Nat.add_mul] at hmul
        have hfit : xoff + xs.length * E.size + (E.all ys).length ≤ cur.size := by rw [E.all_len]; omega
        obtain ⟨cur', c1, c2, c3⟩ := setCells_row (E.all ys) hh hfit
        have hrun := run_append_room_cells (P := P) w t ty e i ht hi g xoff xs.length xcap ⟨b, off, none⟩ ys.length cap (E.all ys) (by rw [E.all_len, hsize]) hnews (E.all_one ys) hroom
          (fun j hj => by
            rw [E.all_len] at hj
            have hlt : xoff + xs.length * i.size + j < cur.size := by rw [hsize]; omega
            rw [hcellx _ hlt, Array.getElem?_eq_getElem hlt]; rfl)
          (fun j hj => by simp [World.frozen?, hh])
        rw [hsize] at hrun
        refine ⟨_, _, hrun, ⟨by simpa using h63, some ⟨g, xoff, none⟩, xcap, by simp, by simpa using hroom, hxcm, fun h => by simp at h, fun a ha => ⟨g, xoff, cur', by simpa using ha.symm, hg, c1, by omega, ?_⟩⟩, grownBy_setCells _ _ _ _, .inl ⟨rfl, rfl⟩, ?_⟩
        · have hl1 : (cur.toList.take (xoff + xs.length * E.size)).length = xoff + xs.length * E.size := by simp; omega
          rw [c3, List.append_assoc, List.drop_append_of_le_length (by omega), List.length_append, E.all_append, Nat.add_mul, List.drop_take, show xoff + xs.length * E.size - xoff = xs.length * E.size by omega, htk]
          rw [← List.append_assoc, List.take_append_of_le_length (by rw [List.length_append, E.all_len, E.all_len]; exact Nat.le_refl _), List.take_of_length_le (by rw [List.length_append, E.all_len, E.all_len]; exact Nat.le_refl _)]
        · intro q zs hq hst hzl
          obtain ⟨hzm, qo, qcap, rfl, hqlc, hqcm, hqn, hqc⟩ := hq
          have hst' : qo = some ⟨g, xoff, none⟩ := hst
          subst hst'
          obtain ⟨g', xoff', curq, he, hqg, hqh, hqs, hqt⟩ := hqc _ rfl
          obtain ⟨rfl, rfl⟩ : g = g' ∧ xoff = xoff' := by simpa using he
          rw [hh] at hqh
          obtain rfl : cur = curq := by simpa using hqh
          refine ⟨hzm, some ⟨g, xoff, none⟩, qcap, rfl, hqlc, hqcm, fun h => by simp at h, fun a ha => ⟨g, xoff, cur', by simpa using ha.symm, hqg, c1, by omega, ?_⟩⟩
          have hzz : zs.length * E.size ≤ xs.length * E.size := Nat.mul_le_mul_right _ hzl
          rw [← hqt, c3, List.append_assoc, List.drop_append_of_le_length (by simp; omega), List.drop_take, show xoff + xs.length * E.size - xoff = xs.length * E.size by omega]
          rw [List.take_append_of_le_length (by simp; omega), List.take_take, Nat.min_eq_left hzz]
      · obtain ⟨v', w', hrun, r1, r2⟩ := run_grow_own (P := P) (w := w) t ty e i z E.size bytes ht hi hz hsize hby hzs E.pos (some ⟨g, xoff, none⟩) xs.length xcap (E.all xs) (E.all_len xs) (fun h => by simp at h) (fun b hb j u hj => by
            obtain rfl : (⟨g, xoff, none⟩ : Addr) = b := by simpa using hb
            rw [← htk, List.getElem?_take] at hj
            split at hj
            · rw [List.getElem?_drop] at hj
              simp only [World.cell?, hh, Addr.add_lit]
              simpa using hj
            · simp at hj) ⟨b, off, none⟩ ys.length cap (E.all ys) (E.all_len ys) hnews h0 (by omega) h63 hbytes
        exact ⟨v', w', hrun, hgrows v' w' r1 r2⟩
  · obtain rfl : ys = [] := List.eq_nil_of_length_eq_zero (by omega)
    have hown : Ow E base e w (.slice ao xs.length xcap) xs := ⟨hxm, ao, xcap, rfl, hxlc, hxcm, hxn, hxc⟩
    exact ⟨_, w, run_append_empty (P := P) (w := w) t ty e i ht hi ao xs.length xcap hxlc ad cap, by simpa using hown, World.grownBy.refl _ _, .inl ⟨rfl, rfl⟩, fun q zs hq _ _ => hq⟩

theorem op_append {α : Type} {E : Enc α} {P : Program} {w : World} {o : Oper} {a : Act} {K : Act → World → Prop} {Q : Exit → Act → World → Prop} (s x : Operand) (t : TypeId)
    (ho : o.op = .call { callee := .builtin .append, args := #[s, x], argTypes := #[t, t] })
    (base e bytes : Nat) (hI : SliceInfo P t e E.size bytes) (v : Value) (xs : List α) (hs : a.eval s = v) (hown : Ow E base e w v xs)
    (u : Value) (ys : List α) (hx : a.eval x = u) (hr : Rd E w u ys)
    (hbytes : (5 * (xs.length + ys.length) + 2816) * bytes ≤ 1125899906842624) (h63 : xs.length + ys.length ≤ maxLen) (hbase : base ≤ w.heap.size)
    (h : ∀ v' w', Ow E base e w' v' (xs ++ ys) → w.grownBy w' v.ownBlock → (v'.ownBlock = v.ownBlock ∧ vstart v' = vstart v ∨ ∀ g, v'.ownBlock = some g → w.heap.size ≤ g) → (∀ q zs, Ow E base e w q zs → vstart q = vstart v → zs.length ≤ xs.length → Ow E base e w' q zs) → K (a.put o.dst v') w') : o.wp P a w K Q := by
  obtain ⟨v', w', hrun, h1, h2, h3, h4⟩ := run_append_ow (P := P) t o.type base e bytes hI v xs hown u ys hr hbytes h63 hbase
  unfold Oper.wp
  simp [execOp, ho, resolve, invoke, builtin, hs, hx, hrun, Result.andThen]
  exact h v' w' h1 h2 h3 h4
theorem wl_append {α : Type} {E : Enc α} {P : Program} {w : World} {ops : Array Oper} {rest : List Oper} {o : Oper} {a : Act} {Q : Exit → Act → World → Prop} (hgd : o.guard = none) (s x : Operand) (t : TypeId)
    (ho : o.op = .call { callee := .builtin .append, args := #[s, x], argTypes := #[t, t] })
    (base e bytes : Nat) (hI : SliceInfo P t e E.size bytes) (v : Value) (xs : List α) (hs : a.eval s = v) (hown : Ow E base e w v xs)
    (u : Value) (ys : List α) (hx : a.eval x = u) (hr : Rd E w u ys)
    (hbytes : (5 * (xs.length + ys.length) + 2816) * bytes ≤ 1125899906842624) (h63 : xs.length + ys.length ≤ maxLen) (hbase : base ≤ w.heap.size)
    (h : ∀ v' w', Ow E base e w' v' (xs ++ ys) → w.grownBy w' v.ownBlock → (v'.ownBlock = v.ownBlock ∧ vstart v' = vstart v ∨ ∀ g, v'.ownBlock = some g → w.heap.size ≤ g) → (∀ q zs, Ow E base e w q zs → vstart q = vstart v → zs.length ≤ xs.length → Ow E base e w' q zs) → wpList P ops Q rest (a.put o.dst v') w') : wpList P ops Q (o :: rest) a w :=
  wpList_plain hgd fun _ hK => op_append s x t ho base e bytes hI v xs hs hown u ys hx hr hbytes h63 hbase fun v' w' h1 h2 h3 h4 => hK _ _ (h v' w' h1 h2 h3 h4)
/-- the same as a step of a region that draws its order -/
theorem step_append {α : Type} {E : Enc α} {P : Program} {w : World} {ops : Array Oper} {o : Oper} {a : Act} {K : Act → World → Prop} {Q : Exit → Act → World → Prop} {F : Prop} (hgd : o.guard = none) (s x : Operand) (t : TypeId)
    (ho : o.op = .call { callee := .builtin .append, args := #[s, x], argTypes := #[t, t] })
    (base e bytes : Nat) (hI : SliceInfo P t e E.size bytes) (v : Value) (xs : List α) (hs : a.eval s = v) (hown : Ow E base e w v xs)
    (u : Value) (ys : List α) (hx : a.eval x = u) (hr : Rd E w u ys)
    (hbytes : (5 * (xs.length + ys.length) + 2816) * bytes ≤ 1125899906842624) (h63 : xs.length + ys.length ≤ maxLen) (hbase : base ≤ w.heap.size)
    (h : ∀ v' w', Ow E base e w' v' (xs ++ ys) → w.grownBy w' v.ownBlock → (v'.ownBlock = v.ownBlock ∧ vstart v' = vstart v ∨ ∀ g, v'.ownBlock = some g → w.heap.size ≤ g) → (∀ q zs, Ow E base e w q zs → vstart q = vstart v → zs.length ≤ xs.length → Ow E base e w' q zs) → K (a.put o.dst v') w') :
    if Region.wanted o (yielded ops a.tmps) = true then Oper.wp P o a w K Q else F := by
  rw [if_pos (by simp [Region.wanted, hgd])]
  exact op_append s x t ho base e bytes hI v xs hs hown u ys hx hr hbytes h63 hbase h

/-- integers of one kind -/
def eInt (k : IntKind) : Enc Int := ⟨1, by omega, fun x => [.int k x], fun _ => rfl, fun x u h => by simp at h; subst h; rfl⟩
theorem eInt_at (k : IntKind) (xs : List Int) (i : Nat) (h : i < xs.length) : ((eInt k).all xs)[i]? = some (.int k xs[i]) := by
  have := (eInt k).all_at xs i 0 h (by show 0 < 1; omega)
  simpa [eInt] using this
theorem eInt_at' (k : IntKind) {xs : List Int} {i : Nat} {x : Int} (h : xs[i]? = some x) : ((eInt k).all xs)[i]? = some (.int k x) := by
  obtain ⟨h1, h2⟩ := List.getElem?_eq_some_iff.1 h
  rw [eInt_at k xs i h1, h2]
theorem size_le_alloc (w : World) (o : Obj) : w.heap.size ≤ (w.alloc o).heap.size := by
  show w.heap.size ≤ (w.heap.push o).size
  simp
abbrev eU64 : Enc Int := eInt .u64
theorem eU64_at (xs : List Int) (i : Nat) (h : i < xs.length) : (eU64.all xs)[i]? = some (.int .u64 xs[i]) := eInt_at _ xs i h
theorem ret_bool {a b : Bool} (h : a = b) : Ending.returned (.bool a) = .returned (.bool b) := by rw [h]
theorem ret_int {k : IntKind} {a b : Int} (h : a = b) : Ending.returned (.int k a) = .returned (.int k b) := by rw [h]

theorem take_step {xs ys : List Int} {k : Nat} (h : xs.take k = ys.take k) (h1 : k < xs.length) (h2 : k < ys.length) (e : (xs[k] != ys[k]) = false) : xs.take (k + 1) = ys.take (k + 1) := by
  rw [List.take_succ_eq_append_getElem h1, List.take_succ_eq_append_getElem h2, h]
  simp at e; rw [e]
theorem take_miss {xs ys : List Int} {k : Nat} (h1 : k < xs.length) (h2 : k < ys.length) (e : (xs[k] != ys[k]) = true) : false = decide (xs = ys) := by
  symm; rw [decide_eq_false_iff_not]; rintro rfl; simp at e
theorem take_all {xs ys : List Int} {k : Nat} (h : xs.take k = ys.take k) (h1 : xs.length ≤ k) (h2 : ys.length ≤ k) : true = decide (xs = ys) := by
  rw [List.take_of_length_le h1, List.take_of_length_le h2] at h; simp [h]
end Go.Proofs.Ytodacnpbhlkoiaa
