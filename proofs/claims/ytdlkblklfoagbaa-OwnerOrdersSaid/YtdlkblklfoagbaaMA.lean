/- the chapters below, merged: MA -/
import Derived.Test.YtdlkblklfoagbaaRows
import Derived.WalkKit
import Derived.WalkSpells
import Derived.WalkLawsBesides
import Derived.Deep.QuietTactic
import Derived.BigQuiet
import Derived.Lib.Hide
import Derived.Laws.AppendOwnNone
import Derived.Deep.RegionLaw
import Derived.Laws.ResultCell
import Derived.Laws.Rows
import Derived.OwnWalk
namespace Go.Proofs.Ytdlkblklfoagbaa
open Go.RowKit
set_option linter.unusedVariables false
set_option linter.unusedSimpArgs false

/-- one call behind the other -/
theorem bthen {w w1 w2 : World} (h : Below w.heap.size w w1) (k : Below w1.heap.size w1 w2) : Below w.heap.size w w2 := h.trans (k.mono h.size)
/-- for a region that draws its order: cells that stay -/
theorem keep1 {B : Nat} {w w' : World} {a : Addr} {v : Value} (h : Below B w w') (l : a.block < B) (c : w.cell? a = some v) : Below B w w' ∧ w'.cell? a = some v := ⟨h, (h.cell l).trans c⟩
theorem keep2 {B : Nat} {w w' : World} {a b : Addr} {v u : Value} (h : Below B w w') (l : a.block < B) (c : w.cell? a = some v) (l2 : b.block < B) (c2 : w.cell? b = some u) : Below B w w' ∧ w'.cell? a = some v ∧ w'.cell? b = some u := ⟨h, (h.cell l).trans c, (h.cell l2).trans c2⟩
theorem keep3 {B : Nat} {w w' : World} {a b d : Addr} {v u x : Value} (h : Below B w w') (l : a.block < B) (c : w.cell? a = some v) (l2 : b.block < B) (c2 : w.cell? b = some u) (l3 : d.block < B) (c3 : w.cell? d = some x) :
    Below B w w' ∧ w'.cell? a = some v ∧ w'.cell? b = some u ∧ w'.cell? d = some x := ⟨h, (h.cell l).trans c, (h.cell l2).trans c2, (h.cell l3).trans c3⟩
/-- how an element lies in cells -/
structure Enc (α : Type) where
  size : Nat
  pos : 0 < size
  cells : α → List Value
  len : ∀ x, (cells x).length = size
  one : ∀ x u, u ∈ cells x → u.oneCell' = true

def Enc.all {α : Type} (E : Enc α) (xs : List α) : List Value := xs.flatMap E.cells
section
variable {α : Type} (E : Enc α)
theorem Enc.all_nil : E.all [] = [] := rfl
theorem Enc.all_append (xs ys : List α) : E.all (xs ++ ys) = E.all xs ++ E.all ys := by simp [Enc.all]
theorem Enc.all_cons (x : α) (ys : List α) : E.all (x :: ys) = E.cells x ++ E.all ys := by simp [Enc.all]
theorem Enc.all_len (xs : List α) : (E.all xs).length = xs.length * E.size := by
  induction xs with
  | nil => simp [Enc.all]
  | cons x xs ih => rw [Enc.all_cons, List.length_append, ih, E.len, List.length_cons, Nat.add_mul, Nat.one_mul, Nat.add_comm]
theorem Enc.all_one (xs : List α) : ∀ u ∈ E.all xs, u.oneCell' = true := by
  intro u hu
  obtain ⟨x, _, hx⟩ := List.mem_flatMap.1 hu
  exact E.one x u hx
theorem Enc.all_at (xs : List α) (i j : Nat) (h : i < xs.length) (hj : j < E.size) : (E.all xs)[i * E.size + j]? = (E.cells xs[i])[j]? := by
  induction xs generalizing i with
  | nil => simp at h
  | cons x xs ih =>
    rw [Enc.all_cons]
    cases i with
    | zero =>
      rw [Nat.zero_mul, Nat.zero_add, List.getElem?_append_left (by rw [E.len]; exact hj)]; rfl
    | succ i =>
      rw [List.getElem?_append_right (by rw [E.len, Nat.add_mul]; omega), E.len, show (i + 1) * E.size + j - E.size = i * E.size + j by rw [Nat.add_mul]; omega]
      exact ih i (by simpa using h)
theorem Enc.all_take (xs : List α) (k : Nat) : E.all (xs.take k) = (E.all xs).take (k * E.size) := by
  induction xs generalizing k with
  | nil => simp [Enc.all]
  | cons x xs ih =>
    cases k with
    | zero => simp [Enc.all]
    | succ k =>
      rw [List.take_succ_cons, Enc.all_cons, Enc.all_cons, ih, List.take_append, E.len, List.take_of_length_le (l := E.cells x) (by rw [E.len, Nat.add_mul]; omega)]
      rw [show (k + 1) * E.size - E.size = k * E.size by rw [Nat.add_mul]; omega]
theorem Enc.all_drop (xs : List α) (k : Nat) : E.all (xs.drop k) = (E.all xs).drop (k * E.size) := by
  induction xs generalizing k with
  | nil => simp [Enc.all]
  | cons x xs ih =>
    cases k with
    | zero => simp [Enc.all]
    | succ k =>
      rw [List.drop_succ_cons, Enc.all_cons, ih, List.drop_append, E.len, @List.drop_eq_nil_of_le _ (E.cells x) _ (by rw [E.len, Nat.add_mul]; omega), List.nil_append]
      rw [show (k + 1) * E.size - E.size = k * E.size by rw [Nat.add_mul]; omega]

/-- v reads as the list xs in w -/
def Rd (w : World) (v : Value) (xs : List α) : Prop :=
  xs.length ≤ maxLen ∧ ∃ a cap, v = .slice a xs.length cap ∧ xs.length ≤ cap ∧ (a = none → cap = 0) ∧ (0 < xs.length → ∃ b off, a = some ⟨b, off, none⟩ ∧ ∀ j u, (E.all xs)[j]? = some u → w.cell? ⟨b, off + j, none⟩ = some u)

/-- v is a slice of the call's own, from block 'base' on, and holds the list xs -/
def Ow (base ty : Nat) (w : World) (v : Value) (xs : List α) : Prop :=
  xs.length ≤ maxLen ∧ ∃ ao cap, v = .slice ao xs.length cap ∧ xs.length ≤ cap ∧ cap ≤ maxLen ∧ (ao = none → cap = 0) ∧
    ∀ a, ao = some a → ∃ g off cur, a = ⟨g, off, none⟩ ∧ base ≤ g ∧ w.heap[g]? = some (.cells cur ty (0, 0)) ∧ off + cap * E.size ≤ cur.size ∧ (cur.toList.drop off).take (xs.length * E.size) = E.all xs
end

section
variable {α : Type} {E : Enc α}
theorem Rd.nil (w : World) : Rd E w (.slice none 0 0) ([] : List α) := ⟨by simp, none, 0, rfl, by simp, fun _ => rfl, fun h => by simp at h⟩
theorem Rd.drewN {w : World} {v : Value} {xs : List α} (h : Rd E w v xs) (n : Nat) : Rd E (w.drewN n) v xs := h
theorem Rd.drew {w : World} {v : Value} {xs : List α} (h : Rd E w v xs) : Rd E w.drew v xs := h
theorem Rd.kept {w w' : World} {v : Value} {xs : List α} (h : Rd E w v xs) (hb : ∀ a n c, v = .slice (some a) n c → 0 < n → w'.heap[a.block]? = w.heap[a.block]?) : Rd E w' v xs := by
  obtain ⟨hm, a, cap, rfl, hlc, hn, hx⟩ := h
  refine ⟨hm, a, cap, rfl, hlc, hn, fun h0 => ?_⟩
  obtain ⟨b, off, rfl, hc⟩ := hx h0
  refine ⟨b, off, rfl, fun i u hi => ?_⟩
  rw [World.cell?_of_block (w := w) (a := ⟨b, off + i, none⟩) (hb ⟨b, off, none⟩ _ _ rfl h0)]
  exact hc i u hi
theorem Rd.lt {w : World} {a : Addr} {n c : Nat} {xs : List α} (h : Rd E w (.slice (some a) n c) xs) (h0 : 0 < n) : a.block < w.heap.size := by
  obtain ⟨hm, a', cap, he, hlc, hn, hx⟩ := h
  obtain ⟨rfl, rfl, rfl⟩ : some a = a' ∧ n = xs.length ∧ c = cap := by simpa using he
  obtain ⟨b, off, hab, hc⟩ := hx h0
  have hlen : 0 < (E.all xs).length := by rw [E.all_len]; exact Nat.mul_pos h0 E.pos
  have := hc 0 _ (List.getElem?_eq_getElem hlen)
  obtain rfl : a = ⟨b, off, none⟩ := by simpa using hab
  exact World.block_lt_of_cell? w _ this
/-- what was there stays: what read in w reads in w' -/
theorem Rd.grow {w w' : World} {v : Value} {xs : List α} (h : Rd E w v xs) (hb : Below w.heap.size w w') : Rd E w' v xs :=
  h.kept (fun a _ _ e h0 => hb.block a.block (Rd.lt (e ▸ h) h0))
theorem Rd.below {w0 w w' : World} {B : Nat} {v : Value} {xs : List α} (h : Rd E w0 v xs) (hB : w0.heap.size ≤ B) (hb : Below B w0 w) : Rd E w v xs :=
  h.grow (hb.mono hB)
theorem Rd.alloc {w : World} {v : Value} {xs : List α} (h : Rd E w v xs) (o : Obj) : Rd E (w.alloc o) v xs :=
  h.grow ((Below.refl _ _).alloc (Nat.le_refl _) o)
theorem Ow.rd {w : World} {base e : Nat} {v : Value} {xs : List α} (h : Ow E base e w v xs) : Rd E w v xs := by
  obtain ⟨hn, ao, cap, rfl, hlc, hcm, hnone, hx⟩ := h
  refine ⟨hn, ao, cap, rfl, hlc, hnone, fun h0 => ?_⟩
  cases ao with
  | none => have := hnone rfl; omega
  | some a =>
    obtain ⟨g, off, cur, rfl, hg, hh, hs, ht⟩ := hx a rfl
    refine ⟨g, off, rfl, fun i u hi => ?_⟩
    rw [← ht, List.getElem?_take] at hi
    split at hi
    · rw [List.getElem?_drop] at hi
      simp only [World.cell?, hh]
      simpa using hi
    · simp at hi
theorem Ow.nil (base e : Nat) (w : World) : Ow E base e w (.slice none 0 0) ([] : List α) := ⟨by simp, none, 0, rfl, by simp, by simp, fun _ => rfl, fun _ h => by simp at h⟩
theorem Ow.of_row {w : World} {base e : Nat} {v : Value} {xs : List α} (hm : xs.length ≤ maxLen) (h : w.ownsRow base e E.size v xs.length (E.all xs)) : Ow E base e w v xs := by
  obtain ⟨h1, h2⟩ := h
  rcases h2 with ⟨rfl, h0⟩ | ⟨g, cap, cur, rfl, hg, hh, hcap, hm', hs, ht⟩
  · obtain rfl : xs = [] := List.eq_nil_of_length_eq_zero h0
    exact Ow.nil _ _ _
  · refine ⟨hm, _, cap, rfl, hcap, hm', fun h => by simp at h, fun a ha => ⟨g, 0, cur, by simpa using ha.symm, hg, hh, by omega, by simpa using ht⟩⟩
theorem Ow.kept {w w' : World} {base e : Nat} {v : Value} {xs : List α} (h : Ow E base e w v xs) (hb : ∀ g, v.ownBlock = some g → w'.heap[g]? = w.heap[g]?) : Ow E base e w' v xs := by
  obtain ⟨hn, ao, cap, rfl, hlc, hcm, hnone, hx⟩ := h
  refine ⟨hn, ao, cap, rfl, hlc, hcm, hnone, fun a ha => ?_⟩
  obtain ⟨g, off, cur, rfl, hg, hh, r⟩ := hx a ha
  subst ha
  exact ⟨g, off, cur, rfl, hg, by rw [hb g rfl]; exact hh, r⟩
theorem Ow.lt {w : World} {base e : Nat} {v : Value} {xs : List α} (h : Ow E base e w v xs) {g : Nat} (hg : v.ownBlock = some g) : base ≤ g ∧ g < w.heap.size := by
  obtain ⟨hn, ao, cap, rfl, hlc, hcm, hnone, hx⟩ := h
  cases ao with
  | none => simp [Value.ownBlock] at hg
  | some a =>
    obtain ⟨g', off, cur, rfl, hg', hh, r⟩ := hx a rfl
    simp [Value.ownBlock] at hg
    subst hg
    exact ⟨hg', (Array.getElem?_eq_some_iff.1 hh).1⟩
/-- the block that holds it has the elements' type -/
theorem Ow.type {w : World} {base e : Nat} {v : Value} {xs : List α} (h : Ow E base e w v xs) {g : Nat} (hg : v.ownBlock = some g) : ∃ cur, w.heap[g]? = some (.cells cur e (0, 0)) := by
  obtain ⟨hn, ao, cap, rfl, hlc, hcm, hnone, hx⟩ := h
  cases ao with
  | none => simp [Value.ownBlock] at hg
  | some a =>
    obtain ⟨g', off, cur, rfl, hg', hh, r⟩ := hx a rfl
    simp [Value.ownBlock] at hg
    subst hg
    exact ⟨cur, hh⟩
theorem Ow.grow {w w' : World} {base e : Nat} {v : Value} {xs : List α} (h : Ow E base e w v xs) (hb : Below w.heap.size w w') : Ow E base e w' v xs :=
  h.kept fun g hg => hb.block g (h.lt hg).2
theorem Ow.grown {w w' : World} {base e : Nat} {v : Value} {xs : List α} (h : Ow E base e w v xs) {row : Option Nat} (hb : w.grownBy w' row) (hne : v.ownBlock = none ∨ v.ownBlock ≠ row) : Ow E base e w' v xs :=
  h.kept fun g hg => hb.block g (h.lt hg).2 (by rcases hne with h | h <;> rw [hg] at h <;> simp_all)
theorem Ow.mono {w : World} {base base' e : Nat} {v : Value} {xs : List α} (h : Ow E base e w v xs) (hb : base' ≤ base) : Ow E base' e w v xs := by
  obtain ⟨hn, ao, cap, rfl, hlc, hcm, hnone, hx⟩ := h
  refine ⟨hn, ao, cap, rfl, hlc, hcm, hnone, fun a ha => ?_⟩
  obtain ⟨g, off, cur, rfl, hg, r⟩ := hx a ha
  exact ⟨g, off, cur, rfl, by omega, r⟩
theorem Ow.alloc {w : World} {base e : Nat} {v : Value} {xs : List α} (h : Ow E base e w v xs) (o : Obj) : Ow E base e (w.alloc o) v xs :=
  h.grow ((Below.refl _ _).alloc (Nat.le_refl _) o)
theorem Ow.drew {w : World} {base e : Nat} {v : Value} {xs : List α} (h : Ow E base e w v xs) : Ow E base e w.drew v xs := h
theorem Ow.drewN {w : World} {base e : Nat} {v : Value} {xs : List α} (h : Ow E base e w v xs) (n : Nat) : Ow E base e (w.drewN n) v xs := h
/-- a literal slice, just laid -/
theorem Rd.lit (w : World) (cs : Array Value) (e : TypeId) (fr : Nat × Nat) (n c : Nat) (xs : List α) (hcs : cs.toList = E.all xs) (hn : n = xs.length) (hc : n ≤ c) (hm : n ≤ maxLen) :
    Rd E (w.alloc (.cells cs e fr)) (.slice (some ⟨w.heap.size, 0, none⟩) n c) xs := by
  subst hn
  refine ⟨hm, _, c, rfl, hc, fun h => by simp at h, fun _ => ⟨w.heap.size, 0, rfl, fun j u hj => ?_⟩⟩
  rw [← hcs] at hj
  simp only [World.cell?, heap_alloc_new, Nat.zero_add]
  simpa using hj
theorem Ow.lit (w : World) (base : Nat) (cs : Array Value) (e : TypeId) (n : Nat) (xs : List α) (hcs : cs.toList = E.all xs) (hn : n = xs.length) (hm : n ≤ maxLen) (hb : base ≤ w.heap.size) :
    Ow E base e (w.alloc (.cells cs e)) (.slice (some ⟨w.heap.size, 0, none⟩) n n) xs := by
  subst hn
  refine ⟨hm, _, _, rfl, Nat.le_refl _, hm, fun h => by simp at h, fun a ha => ⟨w.heap.size, 0, cs, by simpa using ha.symm, hb, heap_alloc_new w _, ?_, ?_⟩⟩
  · rw [← Array.length_toList, hcs, E.all_len]; omega
  · rw [hcs, List.drop_zero, List.take_of_length_le (by rw [E.all_len]; exact Nat.le_refl _)]
/-- one element is read -/
theorem Ow.at_ {w : World} {base e : Nat} {ao : Option Addr} {n cap : Nat} {xs : List α} (h : Ow E base e w (.slice ao n cap) xs) (i : Nat) (hi : i < xs.length) :
    ∃ g off, ao = some ⟨g, off, none⟩ ∧ base ≤ g ∧ ∀ j, j < E.size → w.cell? ⟨g, off + (i * E.size + j), none⟩ = (E.cells xs[i])[j]? ∧ w.frozen? ⟨g, off + (i * E.size + j), none⟩ = false := by
  have hr := h.rd
  obtain ⟨hn, ao', cap', he, hlc, hcm, hnone, hx⟩ := h
  obtain ⟨rfl, rfl, rfl⟩ : ao = ao' ∧ n = xs.length ∧ cap = cap' := by simpa using he
  obtain ⟨_, ao', cap', he', _, _, hc⟩ := hr
  obtain ⟨rfl, _, rfl⟩ : ao = ao' ∧ xs.length = xs.length ∧ cap = cap' := by simpa using he'
  obtain ⟨b, off, rfl, hcell⟩ := hc (by omega)
  obtain ⟨g, off', cur, hgo, hg, hh, _, _⟩ := hx _ rfl
  obtain ⟨rfl, rfl⟩ : b = g ∧ off = off' := by simpa using hgo
  refine ⟨b, off, rfl, hg, fun j hj => ⟨?_, by simp [World.frozen?, hh]⟩⟩
  have hat := E.all_at xs i j hi hj
  have hlt : j < (E.cells xs[i]).length := by rw [E.len]; exact hj
  rw [List.getElem?_eq_getElem hlt] at hat ⊢
  exact hcell _ _ hat
end

/-- what the table says of a slice type t with elements e -/
def SliceInfo (P : Program) (t e size bytes : Nat) : Prop :=
  P.underlying t = some (.slice e) ∧ ∃ i z, P.info? e = some i ∧ i.zero = some z ∧ i.size = size ∧ i.bytes = bytes ∧ z.cells.size = size
theorem SliceInfo.mk' {P : Program} {t e size bytes : Nat} {z : Value} (h : P.underlying t = some (.slice e)) (hi : (P.info? e).map (fun i => (i.zero, i.size, i.bytes)) = some (some z, size, bytes)) (hz : z.cells.size = size) : SliceInfo P t e size bytes := by
  obtain ⟨i, h1, h2, h3, h4⟩ := info_parts hi
  exact ⟨h, i, z, h1, h2, h3, h4, hz⟩

theorem run_append_empty {P : Program} {w : World} (t ty e : TypeId) (i : TypeInfo) (ht : P.underlying t = some (.slice e)) (hi : P.info? e = some i) (ao : Option Addr) (n cap : Nat) (hnc : n ≤ cap) (ad : Option Addr) (c : Nat) :
    (Builtin.append_ #[t, t] ty #[.slice ao n cap, .slice ad 0 c]).run P w = .ok (.slice ao n cap) w := by
  cases ad <;> cases ao <;> simp [Builtin.append_, run_underlying ht, sizeOf, typeInfo, hi, Builtin.lenOf, Builtin.firstCells, hnc, storeCells, loadCells, loadCellsFrom]
theorem setCells_row {w : World} {g off : Nat} {cur : Array Value} {e : Nat} (us : List Value) (hh : w.heap[g]? = some (.cells cur e (0, 0))) (hs : off + us.length ≤ cur.size) :
    ∃ cur', (w.setCells g off us).heap[g]? = some (.cells cur' e (0, 0)) ∧ cur'.size = cur.size ∧ cur'.toList = cur.toList.take off ++ us ++ cur.toList.drop (off + us.length) := by
  induction us generalizing w off cur with
  | nil => exact ⟨cur, hh, rfl, by simp⟩
  | cons u us ih =>
    have h1 : (w.setCell ⟨g, off, none⟩ u).heap[g]? = some (.cells (cur.setIfInBounds off u) e (0, 0)) := by
      simp only [World.setCell, Array.getElem?_modify, hh, if_true, Option.map_some]; rfl
    obtain ⟨cur', h2, h3, h4⟩ := ih (off := off + 1) h1 (by simp at hs ⊢; omega)
    refine ⟨cur', h2, by simpa using h3, ?_⟩
    rw [h4]
    simp at hs
    have : off < cur.toList.length := by simp; omega
    simp only [Array.toList_setIfInBounds, List.length_cons]
    have hmin : min off cur.size = off := by omega
    rw [List.take_set, List.drop_set, if_pos (by omega), List.take_succ_eq_append_getElem this, List.set_append, if_neg (by simp; omega)]
    simp [Nat.add_comm 1, Nat.add_assoc, hmin]
theorem grownBy_setCells (w : World) (g off : Nat) (us : List Value) : w.grownBy (w.setCells g off us) (some g) := by
  induction us generalizing w off with
  | nil => exact World.grownBy.refl _ _
  | cons u us ih =>
    have h := ih (w.setCell ⟨g, off, none⟩ u) (off + 1)
    refine ⟨h.os.trans rfl, h.tape.trans rfl, h.output.trans rfl, Nat.le_trans (by simp [World.setCell]) h.size, fun k hk hne => (h.block k (by simpa [World.setCell] using hk) hne).trans ?_⟩
    exact Below.heap_setCell _ _ _ _ (by rintro rfl; exact hne rfl)

theorem growBy_big (need : Nat) : ∀ r c, need ≤ c → Builtin.growBy need r c = c
  | 0, _, _ => rfl
  | r + 1, c, h => by rw [Builtin.growBy, if_pos h]
theorem growBy_le (need : Nat) : ∀ r c, c < need → Builtin.growBy need r c ≤ need + (need + 768) / 4
  | 0, c, h => by rw [Builtin.growBy]; omega
  | r + 1, c, h => by
    rw [Builtin.growBy, if_neg (by omega)]
    by_cases h2 : c + (c + 768) / 4 < need
    · exact growBy_le need r _ h2
    · rw [growBy_big _ _ _ (by omega)]; omega
theorem nextslicecap_fine {need old : Nat} (h : old < need) : Builtin.nextslicecap need old ≤ need + (need + 768) / 4 + 512 := by
  unfold Builtin.nextslicecap
  split
  · omega
  · split
    · omega
    · have := growBy_le need 4 old h; omega
theorem grow_fits {need old bytes : Nat} (h : old < need) (hb : (5 * need + 2816) * bytes ≤ 1125899906842624) : Builtin.nextslicecap need old * bytes ≤ 281474976710656 := by
  have h1 := nextslicecap_fine h
  have h2 : 4 * (Builtin.nextslicecap need old) ≤ 5 * need + 2816 := by omega
  have h3 := Nat.mul_le_mul_right bytes h2
  rw [Nat.mul_assoc] at h3
  omega
theorem run_grow_own {P : Program} {w : World} (t ty e : TypeId) (i : TypeInfo) (z : Value) (size bytes : Nat) (ht : P.underlying t = some (.slice e)) (hi : P.info? e = some i) (hz : i.zero = some z)
    (hsize : i.size = size) (hby : i.bytes = bytes) (hzs : z.cells.size = size) (hsz : 0 < size)
    (ao : Option Addr) (n cap : Nat) (olds : List Value) (hlo : olds.length = n * size) (hnone : ao = none → n = 0 ∧ cap = 0) (holds : ∀ b, ao = some b → ∀ j u, olds[j]? = some u → w.cell? (b.add j) = some u)
    (a : Addr) (m c : Nat) (news : List Value) (hl : news.length = m * size) (hnews : ∀ j u, news[j]? = some u → w.cell? (a.add j) = some u) (hm0 : 0 < m)
    (hg : cap < n + m) (h63 : n + m ≤ maxLen) (hbytes : (5 * (n + m) + 2816) * bytes ≤ 1125899906842624) :
    ∃ v' w', (Builtin.append_ #[t, t] ty #[.slice ao n cap, .slice (some a) m c]).run P w = .ok v' w' ∧ w'.ownsRow w.heap.size e size v' (n + m) (olds ++ news) ∧ w.grownBy w' none := by
  subst hsize
  subst hby
  have hsmall : n + m ≤ 9223372036854775807 := by simp only [maxLen] at h63; omega
  have hlen : (olds ++ news).length = (n + m) * i.size := by rw [List.length_append, hlo, hl, Nat.add_mul]
  have hge := grownCap_ge w (n + m) cap e
  have hcm : grownCap w (n + m) cap e ≤ maxLen := grownCap_le_maxLen w (n + m) cap e h63
  have hfit := grow_fits hg hbytes
  have hr : (Builtin.append_ #[t, t] ty #[.slice ao n cap, .slice (some a) m c]).run P w =
      .ok (.slice (some ⟨w.heap.size, 0, none⟩) (n + m) (grownCap w (n + m) cap e)) (w.drew.alloc (.cells (olds.toArray ++ news.toArray ++ Builtin.zeroCells z.cells (grownCap w (n + m) cap e - (n + m))) e)) := by
    cases ao with
    | some b => exact run_append_grow (P := P) w t ty e i z ht hi hz b n cap olds hlo (holds b rfl) a m c news hl hnews hg (by omega) hfit
    | none =>
      obtain ⟨rfl, rfl⟩ := hnone rfl
      obtain rfl : olds = [] := List.eq_nil_of_length_eq_zero (by simpa using hlo)
      have hB : 4 * m * i.bytes ≤ (5 * (0 + m) + 2816) * i.bytes := Nat.mul_le_mul_right _ (by omega)
      rw [Nat.mul_assoc] at hB
      have hr := run_append_nil (P := P) w t ty e i z ht hi hz a m c news hl hnews hm0 (by omega) (by omega)
      simpa using hr
  refine ⟨_, _, hr, ⟨hlen, .inr ⟨w.heap.size, _, _, rfl, Nat.le_refl _, heap_alloc_new w.drew _, hge, hcm, ?_, ?_⟩⟩, ⟨rfl, rfl, rfl, by simp, fun k hk _ => Below.heap_alloc w.drew _ k hk⟩⟩
  · simp only [Array.size_append, List.size_toArray, size_zeroCells, hzs, hlo, hl, ← Nat.add_mul]
    congr 1
    omega
  · simp only [Array.toList_append, List.append_assoc]
    rw [← List.append_assoc, ← hlen]
    exact List.take_left
/-- where a slice begins -/
def vstart : Value → Option Addr
  | .slice a _ _ => a
  | _ => none
/-- append to a slice of the call's own, whatever readable slice is appended: the builtin's run -/
theorem run_append_ow {α : Type} {E : Enc α} {P : Program} {w : World} (t ty : TypeId)
    (base e bytes : Nat) (hI : SliceInfo P t e E.size bytes) (v : Value) (xs : List α) (hown : Ow E base e w v xs) (u : Value) (ys : List α) (hr : Rd E w u ys)
    (hbytes : (5 * (xs.length + ys.length) + 2816) * bytes ≤ 1125899906842624) (h63 : xs.length + ys.length ≤ maxLen) (hbase : base ≤ w.heap.size) :
    ∃ v' w', (Builtin.append_ #[t, t] ty #[v, u]).run P w = .ok v' w' ∧ Ow E base e w' v' (xs ++ ys) ∧ w.grownBy w' v.ownBlock ∧ (v'.ownBlock = v.ownBlock ∧ vstart v' = vstart v ∨ ∀ g, v'.ownBlock = some g → w.heap.size ≤ g) ∧ ∀ q zs, Ow E base e w q zs → vstart q = vstart v → zs.length ≤ xs.length → Ow E base e w' q zs := by
  obtain ⟨ht, i, z, hi, hz, hsize, hby, hzs⟩ := hI
  obtain ⟨hm, ad, cap, rfl, hlc, hn, hc⟩ := hr
  obtain ⟨hxm, ao, xcap, rfl, hxlc, hxcm, hxn, hxc⟩ := hown
  have hgrows : ∀ v' w', w'.ownsRow w.heap.size e E.size v' (xs.length + ys.length) (E.all xs ++ E.all ys) → w.grownBy w' none →
      Ow E base e w' v' (xs ++ ys) ∧ w.grownBy w' (Value.slice ao xs.length xcap).ownBlock ∧ (v'.ownBlock = (Value.slice ao xs.length xcap).ownBlock ∧ vstart v' = ao ∨ ∀ g, v'.ownBlock = some g → w.heap.size ≤ g) ∧ ∀ q zs, Ow E base e w q zs → vstart q = ao → zs.length ≤ xs.length → Ow E base e w' q zs := by
    intro v' w' h1 h2
    exact ⟨Ow.mono (Ow.of_row (by simpa using h63) (by rw [List.length_append, E.all_append]; exact h1)) hbase, ⟨h2.os, h2.tape, h2.output, h2.size, fun k hk hne => h2.block k hk (by simp)⟩, .inr fun g hg => (h1.lt g hg).1, fun q zs hq _ _ => hq.grown h2 (by cases hb : q.ownBlock <;> simp)⟩
  by_cases h0 : 0 < ys.length
  · obtain ⟨b, off, rfl, hcell⟩ := hc h0
    have hnews : ∀ j u, (E.all ys)[j]? = some u → w.cell? ((⟨b, off, none⟩ : Addr).add j) = some u := fun j u hj => by rw [Addr.add_lit]; exact hcell j u hj
    cases ao with
    | none =>
      obtain rfl : xcap = 0 := hxn rfl
      have hx0 : xs = [] := List.eq_nil_of_length_eq_zero (by omega)
      subst hx0
      obtain ⟨v', w', hrun, r1, r2⟩ := run_grow_own (P := P) (w := w) t ty e i z E.size bytes ht hi hz hsize hby hzs E.pos none 0 0 [] (by simp) (fun _ => ⟨rfl, rfl⟩) (fun b hb => by simp at hb) ⟨b, off, none⟩ ys.length cap (E.all ys) (E.all_len ys) hnews h0 (by omega) (by simpa using h63) (by simpa using hbytes)
      exact ⟨v', w', hrun, hgrows v' w' (by simpa [Enc.all] using r1) r2⟩
    | some ax =>
      obtain ⟨g, xoff, cur, rfl, hg, hh, hsz, htk⟩ := hxc ax rfl
      have hcellx : ∀ j, j < cur.size → w.cell? ⟨g, j, none⟩ = cur[j]? := fun j hj => by simp [World.cell?, hh]
      by_cases hroom : xs.length + ys.length ≤ xcap
      · have hmul : (xs.length + ys.length) * E.size ≤ xcap * E.size := Nat.mul_le_mul_right _ hroom
        rw [Nat.add_mul] at hmul
        have hfit : xoff + xs.length * E.size + (E.all ys).length ≤ cur.size := by rw [E.all_len]; omega
        obtain ⟨cur', c1, c2, c3⟩ := setCells_row (E.all ys) hh hfit
        have hrun := run_append_room_cells (P := P) w t ty e i ht hi g xoff xs.length xcap ⟨b, off, none⟩ ys.length cap (E.all ys) (by rw [E.all_len, hsize]) hnews (E.all_one ys) hroom
          (fun j hj => by
            rw [E.all_len] at hj
            have hlt : xoff + xs.length * i.size + j < cur.size := by rw [hsize]; omega
            rw [hcellx _ hlt, Array.getElem?_eq_getElem hlt]; rfl)
          (fun j hj => by simp [World.frozen?, hh])
        rw [hsize] at hrun
        refine ⟨_, _, hrun, ⟨by simpa using h63, some ⟨g, xoff, none⟩, xcap, by simp, by simpa using hroom, hxcm, fun h => by simp at h, fun a ha => ⟨g, xoff, cur', by simpa using ha.symm, hg, c1, by omega, ?_⟩⟩, grownBy_setCells _ _ _ _, .inl ⟨rfl, rfl⟩, ?_⟩
        · have hl1 : (cur.toList.take (xoff + xs.length * E.size)).length = xoff + xs.length * E.size := by simp; omega
          rw [c3, List.append_assoc, List.drop_append_of_le_length (by omega), List.length_append, E.all_append, Nat.add_mul, List.drop_take, show xoff + xs.length * E.size - xoff = xs.length * E.size by omega, htk]
          rw [← List.append_assoc, List.take_append_of_le_length (by rw [List.length_append, E.all_len, E.all_len]; exact Nat.le_refl _), List.take_of_length_le (by rw [List.length_append, E.all_len, E.all_len]; exact Nat.le_refl _)]
        · intro q zs hq hst hzl
          obtain ⟨hzm, qo, qcap, rfl, hqlc, hqcm, hqn, hqc⟩ := hq
          have hst' : qo = some ⟨g, xoff, none⟩ := hst
          subst hst'
          obtain ⟨g', xoff', curq, he, hqg, hqh, hqs, hqt⟩ := hqc _ rfl
          obtain ⟨rfl, rfl⟩ : g = g' ∧ xoff = xoff' := by simpa using he
          rw [hh] at hqh
          obtain rfl : cur = curq := by simpa using hqh
          refine ⟨hzm, some ⟨g, xoff, none⟩, qcap, rfl, hqlc, hqcm, fun h => by simp at h, fun a ha => ⟨g, xoff, cur', by simpa using ha.symm, hqg, c1, by omega, ?_⟩⟩
          have hzz : zs.length * E.size ≤ xs.length * E.size := Nat.mul_le_mul_right _ hzl
          rw [← hqt, c3, List.append_assoc, List.drop_append_of_le_length (by simp; omega), List.drop_take, show xoff + xs.length * E.size - xoff = xs.length * E.size by omega]
          rw [List.take_append_of_le_length (by simp; omega), List.take_take, Nat.min_eq_left hzz]
      · obtain ⟨v', w', hrun, r1, r2⟩ := run_grow_own (P := P) (w := w) t ty e i z E.size bytes ht hi hz hsize hby hzs E.pos (some ⟨g, xoff, none⟩) xs.length xcap (E.all xs) (E.all_len xs) (fun h => by simp at h) (fun b hb j u hj => by
            obtain rfl : (⟨g, xoff, none⟩ : Addr) = b := by simpa using hb
            rw [← htk, List.getElem?_take] at hj
            split at hj
            · rw [List.getElem?_drop] at hj
              simp only [World.cell?, hh, Addr.add_lit]
              simpa using hj
            · simp at hj) ⟨b, off, none⟩ ys.length cap (E.all ys) (E.all_len ys) hnews h0 (by omega) h63 hbytes
        exact ⟨v', w', hrun, hgrows v' w' r1 r2⟩
  · obtain rfl : ys = [] := List.eq_nil_of_length_eq_zero (by omega)
    have hown : Ow E base e w (.slice ao xs.length xcap) xs := ⟨hxm, ao, xcap, rfl, hxlc, hxcm, hxn, hxc⟩
    exact ⟨_, w, run_append_empty (P := P) (w := w) t ty e i ht hi ao xs.length xcap hxlc ad cap, by simpa using hown, World.grownBy.refl _ _, .inl ⟨rfl, rfl⟩, fun q zs hq _ _ => hq⟩

theorem op_append {α : Type} {E : Enc α} {P : Program} {w : World} {o : Oper} {a : Act} {K : Act → World → Prop} {Q : Exit → Act → World → Prop} (s x : Operand) (t : TypeId)
    (ho : o.op = .call { callee := .builtin .append, args := #[s, x], argTypes := #[t, t] })
    (base e bytes : Nat) (hI : SliceInfo P t e E.size bytes) (v : Value) (xs : List α) (hs : a.eval s = v) (hown : Ow E base e w v xs)
    (u : Value) (ys : List α) (hx : a.eval x = u) (hr : Rd E w u ys)
    (hbytes : (5 * (xs.length + ys.length) + 2816) * bytes ≤ 1125899906842624) (h63 : xs.length + ys.length ≤ maxLen) (hbase : base ≤ w.heap.size)
    (h : ∀ v' w', Ow E base e w' v' (xs ++ ys) → w.grownBy w' v.ownBlock → (v'.ownBlock = v.ownBlock ∧ vstart v' = vstart v ∨ ∀ g, v'.ownBlock = some g → w.heap.size ≤ g) → (∀ q zs, Ow E base e w q zs → vstart q = vstart v → zs.length ≤ xs.length → Ow E base e w' q zs) → K (a.put o.dst v') w') : o.wp P a w K Q := by
  obtain ⟨v', w', hrun, h1, h2, h3, h4⟩ := run_append_ow (P := P) t o.type base e bytes hI v xs hown u ys hr hbytes h63 hbase
  unfold Oper.wp
  simp [execOp, ho, resolve, invoke, builtin, hs, hx, hrun, Result.andThen]
  exact h v' w' h1 h2 h3 h4
theorem wl_append {α : Type} {E : Enc α} {P : Program} {w : World} {ops : Array Oper} {rest : List Oper} {o : Oper} {a : Act} {Q : Exit → Act → World → Prop} (hgd : o.guard = none) (s x : Operand) (t : TypeId)
    (ho : o.op = .call { callee := .builtin .append, args := #[s, x], argTypes := #[t, t] })
    (base e bytes : Nat) (hI : SliceInfo P t e E.size bytes) (v : Value) (xs : List α) (hs : a.eval s = v) (hown : Ow E base e w v xs)
    (u : Value) (ys : List α) (hx : a.eval x = u) (hr : Rd E w u ys)
    (hbytes : (5 * (xs.length + ys.length) + 2816) * bytes ≤ 1125899906842624) (h63 : xs.length + ys.length ≤ maxLen) (hbase : base ≤ w.heap.size)
    (h : ∀ v' w', Ow E base e w' v' (xs ++ ys) → w.grownBy w' v.ownBlock → (v'.ownBlock = v.ownBlock ∧ vstart v' = vstart v ∨ ∀ g, v'.ownBlock = some g → w.heap.size ≤ g) → (∀ q zs, Ow E base e w q zs → vstart q = vstart v → zs.length ≤ xs.length → Ow E base e w' q zs) → wpList P ops Q rest (a.put o.dst v') w') : wpList P ops Q (o :: rest) a w :=
  wpList_plain hgd fun _ hK => op_append s x t ho base e bytes hI v xs hs hown u ys hx hr hbytes h63 hbase fun v' w' h1 h2 h3 h4 => hK _ _ (h v' w' h1 h2 h3 h4)
/-- the same as a step of a region that draws its order -/
theorem step_append {α : Type} {E : Enc α} {P : Program} {w : World} {ops : Array Oper} {o : Oper} {a : Act} {K : Act → World → Prop} {Q : Exit → Act → World → Prop} {F : Prop} (hgd : o.guard = none) (s x : Operand) (t : TypeId)
    (ho : o.op = .call { callee := .builtin .append, args := #[s, x], argTypes := #[t, t] })
    (base e bytes : Nat) (hI : SliceInfo P t e E.size bytes) (v : Value) (xs : List α) (hs : a.eval s = v) (hown : Ow E base e w v xs)
    (u : Value) (ys : List α) (hx : a.eval x = u) (hr : Rd E w u ys)
    (hbytes : (5 * (xs.length + ys.length) + 2816) * bytes ≤ 1125899906842624) (h63 : xs.length + ys.length ≤ maxLen) (hbase : base ≤ w.heap.size)
    (h : ∀ v' w', Ow E base e w' v' (xs ++ ys) → w.grownBy w' v.ownBlock → (v'.ownBlock = v.ownBlock ∧ vstart v' = vstart v ∨ ∀ g, v'.ownBlock = some g → w.heap.size ≤ g) → (∀ q zs, Ow E base e w q zs → vstart q = vstart v → zs.length ≤ xs.length → Ow E base e w' q zs) → K (a.put o.dst v') w') :
    if Region.wanted o (yielded ops a.tmps) = true then Oper.wp P o a w K Q else F := by
  rw [if_pos (by simp [Region.wanted, hgd])]
  exact op_append s x t ho base e bytes hI v xs hs hown u ys hx hr hbytes h63 hbase h

/-- integers of one kind -/
def eInt (k : IntKind) : Enc Int := ⟨1, by omega, fun x => [.int k x], fun _ => rfl, fun x u h => by simp at h; subst h; rfl⟩
theorem eInt_at (k : IntKind) (xs : List Int) (i : Nat) (h : i < xs.length) : ((eInt k).all xs)[i]? = some (.int k xs[i]) := by
  have := (eInt k).all_at xs i 0 h (by show 0 < 1; omega)
  simpa [eInt] using this
theorem eInt_at' (k : IntKind) {xs : List Int} {i : Nat} {x : Int} (h : xs[i]? = some x) : ((eInt k).all xs)[i]? = some (.int k x) := by
  obtain ⟨h1, h2⟩ := List.getElem?_eq_some_iff.1 h
  rw [eInt_at k xs i h1, h2]
theorem size_le_alloc (w : World) (o : Obj) : w.heap.size ≤ (w.alloc o).heap.size := by
  show w.heap.size ≤ (w.heap.push o).size
  simp
abbrev eU64 : Enc Int := eInt .u64
theorem eU64_at (xs : List Int) (i : Nat) (h : i < xs.length) : (eU64.all xs)[i]? = some (.int .u64 xs[i]) := eInt_at _ xs i h
theorem ret_bool {a b : Bool} (h : a = b) : Ending.returned (.bool a) = .returned (.bool b) := by rw [h]
theorem ret_int {k : IntKind} {a b : Int} (h : a = b) : Ending.returned (.int k a) = .returned (.int k b) := by rw [h]

theorem take_step {xs ys : List Int} {k : Nat} (h : xs.take k = ys.take k) (h1 : k < xs.length) (h2 : k < ys.length) (e : (xs[k] != ys[k]) = false) : xs.take (k + 1) = ys.take (k + 1) := by
  rw [List.take_succ_eq_append_getElem h1, List.take_succ_eq_append_getElem h2, h]
  simp at e; rw [e]
theorem take_miss {xs ys : List Int} {k : Nat} (h1 : k < xs.length) (h2 : k < ys.length) (e : (xs[k] != ys[k]) = true) : false = decide (xs = ys) := by
  symm; rw [decide_eq_false_iff_not]; rintro rfl; simp at e
theorem take_all {xs ys : List Int} {k : Nat} (h : xs.take k = ys.take k) (h1 : xs.length ≤ k) (h2 : ys.length ≤ k) : true = decide (xs = ys) := by
  rw [List.take_of_length_le h1, List.take_of_length_le h2] at h; simp [h]

/-- w' is w but for the blocks of which F speaks, and new ones -/
structure Only (F : Nat → Prop) (w w' : World) : Prop where
  os : w'.os = w.os
  tape : w'.tape = w.tape
  output : w'.output = w.output
  size : w.heap.size ≤ w'.heap.size
  block : ∀ k, k < w.heap.size → ¬ F k → w'.heap[k]? = w.heap[k]?

theorem Only.refl (F : Nat → Prop) (w : World) : Only F w w := ⟨rfl, rfl, rfl, Nat.le_refl _, fun _ _ _ => rfl⟩
theorem Only.mono {F G : Nat → Prop} {w w' : World} (h : Only F w w') (hFG : ∀ k, k < w.heap.size → F k → G k) : Only G w w' :=
  ⟨h.os, h.tape, h.output, h.size, fun k hk hn => h.block k hk fun hf => hn (hFG k hk hf)⟩
/-- one behind the other; what the second may change is the first's, or new -/
theorem Only.trans {F G : Nat → Prop} {a b c : World} (h : Only F a b) (k : Only G b c) (hG : ∀ j, j < a.heap.size → G j → F j) : Only F a c :=
  ⟨k.os.trans h.os, k.tape.trans h.tape, k.output.trans h.output, Nat.le_trans h.size k.size,
   fun j hj hn => (k.block j (Nat.lt_of_lt_of_le hj h.size) fun hg => hn (hG j hj hg)).trans (h.block j hj hn)⟩
theorem Only.below {F : Nat → Prop} {w w' : World} {B : Nat} (h : Only F w w') (hB : B ≤ w.heap.size) (hF : ∀ k, F k → B ≤ k) : Below B w w' :=
  ⟨h.os, h.tape, h.output, h.size, fun k hk => h.block k (by omega) fun hf => by have := hF k hf; omega⟩
theorem Only.of_below {F : Nat → Prop} {w w' : World} {B : Nat} (h : Below B w w') (hF : ∀ k, B ≤ k → k < w.heap.size → F k) : Only F w w' :=
  ⟨h.os, h.tape, h.output, h.size, fun k hk hn => h.block k (by
    by_cases hb : k < B
    · exact hb
    · exact absurd (hF k (by omega) hk) hn)⟩
theorem Only.of_grown {F : Nat → Prop} {w w' : World} {r : Option Nat} (h : w.grownBy w' r) (hF : ∀ k, r = some k → F k) : Only F w w' :=
  ⟨h.os, h.tape, h.output, h.size, fun k hk hn => h.block k hk fun e => hn (hF k e.symm)⟩
theorem Only.setCell (F : Nat → Prop) (w : World) (g i : Nat) (v : Value) (hF : F g) : Only F w (w.setCell ⟨g, i, none⟩ v) :=
  Only.of_grown (grownBy_setCells w g i [v]) fun k e => by cases e; exact hF
theorem Only.alloc (F : Nat → Prop) (w : World) (o : Obj) : Only F w (w.alloc o) := Only.of_grown (World.grownBy_alloc w o none) (by simp)
theorem Only.drewN {F : Nat → Prop} {w w' : World} (h : Only F w w') (n : Nat) : Only F w (w'.drewN n) := h.trans (G := F) ⟨rfl, rfl, rfl, Nat.le_refl _, fun _ _ _ => rfl⟩ (fun _ _ h => h)
theorem Ow.only {α : Type} {E : Enc α} {F : Nat → Prop} {w w' : World} {base e : Nat} {v : Value} {xs : List α} (h : Ow E base e w v xs) (ho : Only F w w') (hn : ∀ k, v.ownBlock = some k → ¬ F k) : Ow E base e w' v xs :=
  h.kept fun g hg => ho.block g (h.lt hg).2 (hn g hg)
theorem Only.heap {F : Nat → Prop} {w w' : World} (ho : Only F w w') {g : Nat} {o : Obj} (h : w.heap[g]? = some o) (hn : ¬ F g) : w'.heap[g]? = some o :=
  (ho.block g (by
    by_cases hg : g < w.heap.size
    · exact hg
    · rw [Array.getElem?_eq_none (by omega)] at h; simp at h) hn).trans h
theorem heap_lt {w : World} {g : Nat} {o : Obj} (h : w.heap[g]? = some o) : g < w.heap.size := by
  by_cases hg : g < w.heap.size
  · exact hg
  · rw [Array.getElem?_eq_none (by omega)] at h; simp at h
theorem heap_alloc {w : World} {g : Nat} {o p : Obj} (h : w.heap[g]? = some o) : (w.alloc p).heap[g]? = some o :=
  (heap_alloc_old w p (heap_lt h)).trans h
theorem heap_setCell_far {w : World} {g : Nat} {o : Obj} (h : w.heap[g]? = some o) (k i : Nat) (v : Value) (hne : g ≠ k) : (w.setCell ⟨k, i, none⟩ v).heap[g]? = some o :=
  (Below.heap_setCell w _ v g hne).trans h

/-- a slice of the call's own, its block among S -/
def OwS {α : Type} (E : Enc α) (ty : Nat) (S : Nat → Prop) (w : World) (v : Value) (xs : List α) : Prop := Ow E 0 ty w v xs ∧ ∀ k, v.ownBlock = some k → S k

/-- what is said of the blocks S alone stays where they stay, and may be said of more blocks -/
structure Framed (X : (Nat → Prop) → World → Prop) : Prop where
  only : ∀ S F w w', X S w → Only F w w' → (∀ k, k < w.heap.size → S k → ¬ F k) → X S w'
  mono : ∀ S S' w, X S w → (∀ k, k < w.heap.size → S k → S' k) → X S' w

theorem OwS.framed {α : Type} {E : Enc α} {ty : Nat} {v : Value} {xs : List α} : Framed (fun S w => OwS E ty S w v xs) where
  only S F w w' h ho hn := ⟨h.1.only ho fun k hk => hn k (h.1.lt hk).2 (h.2 k hk), h.2⟩
  mono S S' w h hs := ⟨h.1, fun k hk => hs k (h.1.lt hk).2 (h.2 k hk)⟩
theorem OwS.nil {α : Type} {E : Enc α} {ty : Nat} (S : Nat → Prop) (w : World) : OwS E ty S w (.slice none 0 0) ([] : List α) := ⟨Ow.nil _ _ _, fun k h => by simp [Value.ownBlock] at h⟩
theorem OwS.of_ow {α : Type} {E : Enc α} {ty base : Nat} {w : World} {v : Value} {xs : List α} (h : Ow E base ty w v xs) : OwS E ty (fun k => base ≤ k) w v xs := ⟨h.mono (Nat.zero_le _), fun k hk => (h.lt hk).1⟩
theorem OwS.rd {α : Type} {E : Enc α} {ty : Nat} {S : Nat → Prop} {w : World} {v : Value} {xs : List α} (h : OwS E ty S w v xs) : Rd E w v xs := h.1.rd

/-- who has which block: new ones go to i -/
def ntag (tag : Nat → Nat) (n i : Nat) : Nat → Nat := fun k => if k < n then tag k else i
theorem ntag_lt {tag : Nat → Nat} {n i k : Nat} (h : k < n) : ntag tag n i k = tag k := if_pos h
theorem ntag_ge {tag : Nat → Nat} {n i k : Nat} (h : n ≤ k) : ntag tag n i k = i := if_neg (by omega)

/-- the blocks from base on have owners (from 1 on); what lies below base is as it was -/
structure Arena (base : Nat) (w0 w : World) (tag : Nat → Nat) : Prop where
  below : Below base w0 w
  size : base ≤ w.heap.size
  zero : ∀ k, k < base → tag k = 0

theorem Arena.start (w : World) : Arena w.heap.size w w (fun _ => 0) := ⟨Below.refl _ _, Nat.le_refl _, fun _ _ => rfl⟩
theorem Arena.of_below {w w1 : World} {base : Nat} (h : Below base w w1) (hb : base ≤ w.heap.size) : Arena base w w1 (fun _ => 0) := ⟨h, Nat.le_trans hb h.size, fun _ _ => rfl⟩
theorem Arena.drewN {base : Nat} {w0 w : World} {tag : Nat → Nat} (A : Arena base w0 w tag) (n : Nat) : Arena base w0 (w.drewN n) tag := ⟨below_drewN A.below n, A.size, A.zero⟩
/-- a step that changes F's blocks alone, its new blocks being i's -/
theorem Arena.step {base : Nat} {w0 w w' : World} {tag : Nat → Nat} (A : Arena base w0 w tag) {F : Nat → Prop} (ho : Only F w w') (i : Nat) (hF : ∀ k, F k → tag k ≠ 0) :
    ∃ tag', Arena base w0 w' tag' ∧
      (∀ X, Framed X → ∀ j, X (fun k => tag k = j) w → (∀ k, tag k = j → ¬ F k) → X (fun k => tag' k = j) w') ∧
      (∀ X, Framed X → X (fun k => tag k = i ∨ w.heap.size ≤ k) w' → X (fun k => tag' k = i) w') ∧
      (∀ X, Framed X → ∀ j, X (fun k => tag k = j ∧ k < w.heap.size) w' → X (fun k => tag' k = j) w') := by
  refine ⟨ntag tag w.heap.size i, ⟨A.below.trans (ho.below A.size fun k hk => ?_), Nat.le_trans A.size ho.size, fun k hk => ?_⟩, fun X hX j hx hj => ?_, fun X hX hx => ?_, fun X hX j hx => ?_⟩
  · by_cases h : base ≤ k
    · exact h
    · exact absurd (A.zero k (by omega)) (hF k hk)
  · rw [ntag_lt (by have := A.size; omega)]; exact A.zero k hk
  · refine hX.only _ F w w' (hX.mono _ _ w hx fun k hk h => by rw [ntag_lt hk]; exact h) ho fun k hk h => hj k (by rw [ntag_lt hk] at h; exact h)
  · refine hX.mono _ _ w' hx fun k hk h => ?_
    by_cases hlt : k < w.heap.size
    · rw [ntag_lt hlt]; rcases h with h | h
      · exact h
      · omega
    · exact ntag_ge (by omega)
  · refine hX.mono _ _ w' hx fun k hk h => ?_
    rw [ntag_lt h.2]; exact h.1

theorem Framed.and {X Y : (Nat → Prop) → World → Prop} (hX : Framed X) (hY : Framed Y) : Framed (fun S w => X S w ∧ Y S w) where
  only S F w w' h ho hn := ⟨hX.only _ _ _ _ h.1 ho hn, hY.only _ _ _ _ h.2 ho hn⟩
  mono S S' w h hs := ⟨hX.mono _ _ _ h.1 hs, hY.mono _ _ _ h.2 hs⟩
theorem Framed.ex {β : Type} {X : β → (Nat → Prop) → World → Prop} (hX : ∀ x, Framed (X x)) : Framed (fun S w => ∃ x, X x S w) where
  only S F w w' h ho hn := let ⟨x, hx⟩ := h; ⟨x, (hX x).only _ _ _ _ hx ho hn⟩
  mono S S' w h hs := let ⟨x, hx⟩ := h; ⟨x, (hX x).mono _ _ _ hx hs⟩
theorem Framed.pure (p : Prop) : Framed (fun _ _ => p) where
  only _ _ _ _ h _ _ := h
  mono _ _ _ h _ := h
theorem Framed.imp {X : (Nat → Prop) → World → Prop} {p : Prop} (hX : p → Framed X) : Framed (fun S w => p → X S w) where
  only S F w w' h ho hn := fun hp => (hX hp).only _ _ _ _ (h hp) ho hn
  mono S S' w h hs := fun hp => (hX hp).mono _ _ _ (h hp) hs
/-- a single block, known whole -/
def Blk (g : Nat) (o : Obj) (S : Nat → Prop) (w : World) : Prop := w.heap[g]? = some o ∧ S g
theorem Blk.framed {g : Nat} {o : Obj} : Framed (Blk g o) where
  only S F w w' h ho hn := ⟨ho.heap h.1 (hn g (heap_lt h.1) h.2), h.2⟩
  mono S S' w h hs := ⟨h.1, hs g (heap_lt h.1) h.2⟩

theorem Only.tr {F : Nat → Prop} {a b c : World} (h : Only F a b) (k : Only F b c) : Only F a c := h.trans k fun _ _ h => h
theorem Only.fresh {F : Nat → Prop} {w w' : World} (h : Only (fun k => F k ∨ w.heap.size ≤ k) w w') : Only F w w' := h.mono fun k hk h => h.elim id fun h => by omega
theorem Framed.alloc {X : (Nat → Prop) → World → Prop} (hX : Framed X) {S : Nat → Prop} {w : World} (h : X S w) (o : Obj) : X S (w.alloc o) := hX.only _ (fun _ => False) _ _ h (Only.alloc _ _ _) (fun _ _ _ h => h)
theorem Framed.drewN {X : (Nat → Prop) → World → Prop} (hX : Framed X) {S : Nat → Prop} {w : World} (h : X S w) (n : Nat) : X S (w.drewN n) := hX.only _ (fun _ => False) _ _ h ((Only.refl _ _).drewN n) (fun _ _ _ h => h)
theorem size_le_alloc2 (w : World) (o p : Obj) : w.heap.size ≤ ((w.alloc o).alloc p).heap.size := Nat.le_trans (size_le_alloc w o) (size_le_alloc _ p)
theorem Framed.widen {X : (Nat → Prop) → World → Prop} (hX : Framed X) {S : Nat → Prop} {w : World} {n m : Nat} (h : X (fun k => S k ∨ n ≤ k) w) (hm : m ≤ n) : X (fun k => S k ∨ m ≤ k) w := hX.mono _ _ _ h fun _ _ h => h.imp_right fun h => Nat.le_trans hm h
/-- a literal slice behind one new block, and behind two -/
theorem Rd.lit2 {α : Type} {E : Enc α} (w : World) (o : Obj) (cs : Array Value) (e : TypeId) (fr : Nat × Nat) (n c : Nat) (xs : List α) (hcs : cs.toList = E.all xs) (hn : n = xs.length) (hc : n ≤ c) (hm : n ≤ maxLen) :
    Rd E ((w.alloc o).alloc (.cells cs e fr)) (.slice (some ⟨w.heap.size + 1, 0, none⟩) n c) xs := by
  have h := Rd.lit (E := E) (w.alloc o) cs e fr n c xs hcs hn hc hm
  have hs : (w.alloc o).heap.size = w.heap.size + 1 := by simp
  rw [hs] at h; exact h
/-- an append in a plain region, by footprints -/
theorem wl_appendS {α : Type} {E : Enc α} {P : Program} {w : World} {ops : Array Oper} {rest : List Oper} {o : Oper} {a : Act} {Q : Exit → Act → World → Prop} (hgd : o.guard = none) (s x : Operand) (t : TypeId)
    (ho : o.op = .call { callee := .builtin .append, args := #[s, x], argTypes := #[t, t] })
    (e bytes : Nat) (hI : SliceInfo P t e E.size bytes) (S : Nat → Prop) (v : Value) (xs : List α) (hs : a.eval s = v) (hown : OwS E e S w v xs)
    (u : Value) (ys : List α) (hx : a.eval x = u) (hr : Rd E w u ys)
    (hbytes : (5 * (xs.length + ys.length) + 2816) * bytes ≤ 1125899906842624) (h63 : xs.length + ys.length ≤ maxLen)
    (h : ∀ v' w', OwS E e (fun k => S k ∨ w.heap.size ≤ k) w' v' (xs ++ ys) → Only S w w' → wpList P ops Q rest (a.put o.dst v') w') : wpList P ops Q (o :: rest) a w :=
  wl_append hgd s x t ho 0 e bytes hI v xs hs hown.1 u ys hx hr hbytes h63 (Nat.zero_le _) fun v' w' h1 h2 h3 _ =>
    h v' w' ⟨h1, fun k hk => by
      rcases h3 with h3 | h3
      · exact .inl (hown.2 k (by rw [← h3.1]; exact hk))
      · exact .inr (h3 k hk)⟩ (Only.of_grown h2 fun k hk => hown.2 k hk)
theorem Ow.tail {α : Type} {E : Enc α} {w : World} {base e : Nat} {ao : Option Addr} {n cap : Nat} {x : α} {xs : List α} (h : Ow E base e w (.slice ao n cap) (x :: xs)) :
    Ow E base e w (.slice (if cap = 1 then ao else ao.map (fun y => y.add E.size)) (n - 1) (cap - 1)) xs := by
  obtain ⟨hm, ao', cap', he, h1, h2, h3, h4⟩ := h
  obtain ⟨rfl, rfl, rfl⟩ : ao = ao' ∧ n = (x :: xs).length ∧ cap = cap' := by simpa using he
  simp only [List.length_cons] at hm h1
  refine ⟨by omega, (if cap = 1 then ao else ao.map (fun y => y.add E.size)), cap - 1, by simp, by omega, by omega, fun hn => ?_, fun a ha => ?_⟩
  · split at hn
    · omega
    · have := h3 (by simpa using hn); omega
  · split at ha
    · rename_i h1'
      subst ha
      obtain ⟨g, off, cur, hgo, hg, hh, hs, ht⟩ := h4 a rfl
      refine ⟨g, off, cur, hgo, hg, hh, by rw [h1'] at hs ⊢; omega, ?_⟩
      have : xs = [] := List.eq_nil_of_length_eq_zero (by omega)
      subst this
      simp [Enc.all]
    · cases ao with
      | none => simp at ha
      | some a0 =>
        obtain ⟨g, off, cur, rfl, hg, hh, hs, ht⟩ := h4 a0 rfl
        have hz : E.size ≠ 0 := by have := E.pos; omega
        have ha' : a = ⟨g, off + E.size, none⟩ := by simpa [Addr.add, hz] using ha.symm
        have hmul : cap * E.size = (cap - 1) * E.size + E.size := by
          conv => lhs; rw [show cap = (cap - 1) + 1 by omega]
          rw [Nat.add_mul, Nat.one_mul]
        refine ⟨g, off + E.size, cur, ha', hg, hh, by omega, ?_⟩
        have h5 := congrArg (List.drop E.size) ht
        rw [List.drop_take, List.drop_drop, Enc.all_cons, List.drop_left' (E.len x)] at h5
        rw [← h5]
        congr 1
        rw [List.length_cons, Nat.add_mul]; omega

theorem OwS.tail {α : Type} {E : Enc α} {w : World} {e : Nat} {S : Nat → Prop} {ao : Option Addr} {n cap : Nat} {x : α} {xs : List α} (h : OwS E e S w (.slice ao n cap) (x :: xs)) :
    OwS E e S w (.slice (if cap = 1 then ao else ao.map (fun y => y.add E.size)) (n - 1) (cap - 1)) xs := by
  refine ⟨h.1.tail, fun k hk => h.2 k ?_⟩
  cases ao with
  | none => split at hk <;> exact hk
  | some a =>
    split at hk
    · exact hk
    · obtain ⟨b, o, s⟩ := a
      by_cases hz : E.size = 0 <;> simpa [Value.ownBlock, Addr.add, hz] using hk

section
variable {α : Type} {E : Enc α}
theorem Enc.all_set (E : Enc α) (xs : List α) (i : Nat) (x : α) (h : i < xs.length) : E.all (xs.set i x) = (E.all xs).take (i * E.size) ++ E.cells x ++ (E.all xs).drop (i * E.size + E.size) := by
  rw [List.set_eq_take_append_cons_drop, if_pos h, Enc.all_append, Enc.all_cons, E.all_take, E.all_drop, List.append_assoc, Nat.add_mul, Nat.one_mul]
theorem splice_take {β : Type} (l us : List β) (o a s N : Nat) (h : a + s ≤ N) (hus : us.length = s) (ho : o + N ≤ l.length) :
    ((l.take (o + a) ++ us ++ l.drop (o + a + s)).drop o).take N = ((l.drop o).take N).take a ++ us ++ ((l.drop o).take N).drop (a + s) := by
  have e1 : (l.take (o + a)).drop o = (l.drop o).take a := by rw [List.drop_take, show o + a - o = a by omega]
  have e2 : l.drop (o + a + s) = (l.drop o).drop (a + s) := by rw [List.drop_drop, Nat.add_assoc]
  have e3 : (l.take (o + a)).length = o + a := by simp; omega
  rw [List.append_assoc, List.drop_append_of_le_length (by omega), e1, e2]
  obtain ⟨d, hd⟩ : ∃ d, d = l.drop o := ⟨_, rfl⟩
  rw [← hd]
  have hdl : N ≤ d.length := by rw [hd]; simp; omega
  have e4 : (d.take a).length = a := by simp; omega
  rw [List.take_take, Nat.min_eq_left (by omega), List.take_append, e4, List.take_of_length_le (l := d.take a) (by omega), List.take_append, hus, List.take_of_length_le (l := us) (by omega), List.drop_take, List.append_assoc, Nat.sub_sub]
/-- one element is written -/
theorem Ow.store {w : World} {base e : Nat} {g off n cap : Nat} {xs : List α} (h : Ow E base e w (.slice (some ⟨g, off, none⟩) n cap) xs) (i : Nat) (hi : i < xs.length) (x : α) :
    Ow E base e (w.setCells g (off + i * E.size) (E.cells x)) (.slice (some ⟨g, off, none⟩) n cap) (xs.set i x) := by
  obtain ⟨hn, ao', cap', he, hlc, hcm, hnone, hx⟩ := h
  obtain ⟨rfl, rfl, rfl⟩ : some ⟨g, off, none⟩ = ao' ∧ n = xs.length ∧ cap = cap' := by simpa using he
  obtain ⟨g', off', cur, hgo, hg, hh, hs, ht⟩ := hx _ rfl
  obtain ⟨rfl, rfl⟩ : g = g' ∧ off = off' := by simpa using hgo
  have h1 : (i + 1) * E.size ≤ xs.length * E.size := Nat.mul_le_mul_right _ hi
  have h2 : xs.length * E.size ≤ cap * E.size := Nat.mul_le_mul_right _ hlc
  rw [Nat.add_mul, Nat.one_mul] at h1
  obtain ⟨cur', c1, c2, c3⟩ := setCells_row (off := off + i * E.size) (E.cells x) hh (by rw [E.len]; omega)
  refine ⟨by simpa using hn, some ⟨g, off, none⟩, cap, by simp, by simpa using hlc, hcm, fun h => by simp at h, fun a ha => ⟨g, off, cur', by simpa using ha.symm, hg, c1, by omega, ?_⟩⟩
  rw [E.all_set _ _ _ hi, ← ht, c3, E.len, List.length_set]
  exact splice_take _ _ _ _ _ _ (by omega) (E.len x) (by simp; omega)
end

theorem Rd.drop {α : Type} {E : Enc α} {w : World} {ao : Option Addr} {n cap : Nat} {xs : List α} (h : Rd E w (.slice ao n cap) xs) (k : Nat) (hk : k ≤ xs.length) (a' : Option Addr) (ha : k < xs.length → ∀ b off, ao = some ⟨b, off, none⟩ → a' = some ⟨b, off + k * E.size, none⟩) (hn : a' = none → cap - k = 0) :
    Rd E w (.slice a' (n - k) (cap - k)) (xs.drop k) := by
  obtain ⟨hm, ao', cap', he, hlc, hnone, hx⟩ := h
  obtain ⟨rfl, rfl, rfl⟩ : ao = ao' ∧ n = xs.length ∧ cap = cap' := by simpa using he
  refine ⟨by simp; omega, a', cap - k, by simp, by simp; omega, hn, fun h0 => ?_⟩
  have hlt : k < xs.length := by simp at h0; omega
  obtain ⟨b, off, rfl, hc⟩ := hx (by omega)
  refine ⟨b, off + k * E.size, ha hlt b off rfl, fun j u hj => ?_⟩
  rw [E.all_drop, List.getElem?_drop] at hj
  have := hc _ u hj
  rw [Nat.add_assoc]; exact this

/-- a slice's length -/
def lenOfV : Value → Nat
  | .slice _ n _ => n
  | _ => 0
/-- s[k:], as the walk writes it -/
theorem Rd.sliced {α : Type} {E : Enc α} {w : World} {ao : Option Addr} {n cap : Nat} {xs : List α} (h : Rd E w (.slice ao n cap) xs) (k m : Nat) (hm : m = k * E.size) (hk : k ≤ xs.length) :
    Rd E w (.slice (if cap = k then ao else Option.map (fun x => x.add m) ao) (n - k) (cap - k)) (xs.drop k) := by
  have hlc : xs.length ≤ cap ∧ (ao = none → cap = 0) := by
    obtain ⟨_, ao', cap', he, h1, h2, _⟩ := h
    obtain ⟨rfl, rfl, rfl⟩ : ao = ao' ∧ n = xs.length ∧ cap = cap' := by simpa using he
    exact ⟨h1, h2⟩
  refine h.drop k hk _ (fun hlt b off he => ?_) (fun hn => ?_)
  · subst he; subst hm
    rw [if_neg (by omega)]; simp [Addr.add]
  · split at hn
    · omega
    · simp at hn; have := hlc.2 hn; omega

theorem Rd.taken {α : Type} {E : Enc α} {w : World} {ao : Option Addr} {n cap : Nat} {xs : List α} (h : Rd E w (.slice ao n cap) xs) (k : Nat) (hk : k ≤ xs.length) (c' : Nat) (hc : k ≤ c') (hc2 : ao = none → c' = 0) :
    Rd E w (.slice ao k c') (xs.take k) := by
  obtain ⟨hm, ao', cap', he, h1, h2, h3⟩ := h
  obtain ⟨rfl, rfl, rfl⟩ : ao = ao' ∧ n = xs.length ∧ cap = cap' := by simpa using he
  have hl : (xs.take k).length = k := by simp; omega
  refine ⟨by omega, ao, c', by rw [hl], by omega, hc2, fun hlt => ?_⟩
  obtain ⟨b, off, hb, hx⟩ := h3 (by omega)
  refine ⟨b, off, hb, fun j u hj => hx j u ?_⟩
  have hall : E.all xs = E.all (xs.take k) ++ E.all (xs.drop k) := by
    show xs.flatMap E.cells = (xs.take k).flatMap E.cells ++ (xs.drop k).flatMap E.cells
    rw [← List.flatMap_append, List.take_append_drop]
  rw [hall, List.getElem?_append_left]
  · exact hj
  · exact (List.getElem?_eq_some_iff.1 hj).1

theorem Only.drew_ {F : Nat → Prop} {w w' : World} (h : Only F w w') : Only F w w'.drew := ⟨h.os, h.tape, h.output, h.size, h.block⟩
theorem Ow.some_ {α : Type} {E : Enc α} {base ty : Nat} {w : World} {v : Value} {xs : List α} (h : Ow E base ty w v xs) (h0 : 0 < xs.length) : ∃ g off cap, v = .slice (some ⟨g, off, none⟩) xs.length cap := by
  obtain ⟨_, ao, cap, rfl, h1, h2, h3, h4⟩ := h
  cases ao with
  | none => have := h3 rfl; omega
  | some a =>
    obtain ⟨g, off, _, rfl, _⟩ := h4 a rfl
    exact ⟨g, off, cap, rfl⟩


theorem Framed.drew {X : (Nat → Prop) → World → Prop} (hX : Framed X) {S : Nat → Prop} {w : World} (h : X S w) : X S w.drew := hX.only _ (fun _ => False) _ _ h ((Only.refl _ _).drew_) (fun _ _ _ h => h)
/-- what the others have stays -/
def Keeps (tag tag' : Nat → Nat) (w w' : World) (P : Nat → Prop) : Prop := ∀ X, Framed X → ∀ j, ¬ P j → X (fun k => tag k = j) w → X (fun k => tag' k = j) w'
theorem Keeps.refl (tag : Nat → Nat) (w : World) (P : Nat → Prop) : Keeps tag tag w w P := fun _ _ _ _ h => h
theorem Keeps.trans {tag tag1 tag2 : Nat → Nat} {w w1 w2 : World} {P Q R : Nat → Prop} (h : Keeps tag tag1 w w1 P) (k : Keeps tag1 tag2 w1 w2 Q) (hP : ∀ j, P j → R j) (hQ : ∀ j, Q j → R j) : Keeps tag tag2 w w2 R :=
  fun X hX j hj hx => k X hX j (fun q => hj (hQ j q)) (h X hX j (fun p => hj (hP j p)) hx)
theorem Keeps.of {tag tag' : Nat → Nat} {w w' : World} {F : Nat → Prop} (f : ∀ X, Framed X → ∀ j, X (fun k => tag k = j) w → (∀ k, tag k = j → ¬ F k) → X (fun k => tag' k = j) w') {P : Nat → Prop} (h : ∀ k, F k → P (tag k)) : Keeps tag tag' w w' P :=
  fun X hX j hj hx => f X hX j hx fun k hk hF => hj (hk ▸ h k hF)
theorem OwS.store {α : Type} {E : Enc α} {ty : Nat} {S : Nat → Prop} {w : World} {g off n cap : Nat} {xs : List α} (h : OwS E ty S w (.slice (some ⟨g, off, none⟩) n cap) xs) (i : Nat) (hi : i < xs.length) (x : α) :
    OwS E ty S (w.setCells g (off + i * E.size) (E.cells x)) (.slice (some ⟨g, off, none⟩) n cap) (xs.set i x) ∧ Only S w (w.setCells g (off + i * E.size) (E.cells x)) :=
  ⟨⟨h.1.store i hi x, h.2⟩, Only.of_grown (grownBy_setCells _ _ _ _) fun k hk => h.2 k (by simpa [Value.ownBlock] using hk)⟩
/-- an object: a block of cells, one of them a slice of its own -/
def Obj1 {α : Type} (E : Enc α) (ty ety : Nat) (cells : Value → Array Value) (g : Nat) (xs : List α) (S : Nat → Prop) (w : World) : Prop :=
  ∃ v, w.heap[g]? = some (.cells (cells v) ty (0, 0)) ∧ Ow E 0 ety w v xs ∧ S g ∧ ∀ k, v.ownBlock = some k → S k
theorem Obj1.framed {α : Type} {E : Enc α} {ty ety : Nat} {cells : Value → Array Value} {g : Nat} {xs : List α} : Framed (Obj1 E ty ety cells g xs) where
  only S F w w' H ho hn := by
    obtain ⟨v, h, hown, h1, h2⟩ := H
    exact ⟨v, ho.heap h (hn g (heap_lt h) h1), hown.only ho (fun k hk => hn k (hown.lt hk).2 (h2 k hk)), h1, h2⟩
  mono S S' w H hs := by
    obtain ⟨v, h, hown, h1, h2⟩ := H
    exact ⟨v, h, hown, hs g (heap_lt h) h1, fun k hk => hs k (hown.lt hk).2 (h2 k hk)⟩
/-- the same, its slice's value named -/
def Obj1v {α : Type} (E : Enc α) (ty ety : Nat) (cells : Value → Array Value) (g : Nat) (v : Value) (xs : List α) (S : Nat → Prop) (w : World) : Prop :=
  w.heap[g]? = some (.cells (cells v) ty (0, 0)) ∧ Ow E 0 ety w v xs ∧ S g ∧ ∀ k, v.ownBlock = some k → S k
theorem Obj1v.framed {α : Type} {E : Enc α} {ty ety : Nat} {cells : Value → Array Value} {g : Nat} {v : Value} {xs : List α} : Framed (Obj1v E ty ety cells g v xs) where
  only S F w w' H ho hn := by
    obtain ⟨h, hown, h1, h2⟩ := H
    exact ⟨ho.heap h (hn g (heap_lt h) h1), hown.only ho (fun k hk => hn k (hown.lt hk).2 (h2 k hk)), h1, h2⟩
  mono S S' w H hs := by
    obtain ⟨h, hown, h1, h2⟩ := H
    exact ⟨h, hown, hs g (heap_lt h) h1, fun k hk => hs k (hown.lt hk).2 (h2 k hk)⟩
/-- the row is not the object's own block -/
theorem row_ne {α : Type} {E : Enc α} {ty ety : Nat} {cs : Array Value} {g : Nat} {xs : List α} {w : World} {v : Value} {base : Nat} (h : w.heap[g]? = some (.cells cs ty (0, 0))) (hown : Ow E base ety w v xs) (hne : ty ≠ ety) : v.ownBlock ≠ some g := by
  intro e
  obtain ⟨cur, hc⟩ := hown.type e
  rw [h] at hc
  simp at hc
  exact hne hc.2
theorem blk_cell {w : World} {g : Nat} {cs : Array Value} {ty : Nat} {fr : Nat × Nat} (h : w.heap[g]? = some (.cells cs ty fr)) (i : Nat) : w.cell? ⟨g, i, none⟩ = cs[i]? := by simp [World.cell?, h]
theorem blk_free {w : World} {g : Nat} {cs : Array Value} {ty : Nat} (h : w.heap[g]? = some (.cells cs ty (0, 0))) (i : Nat) : w.frozen? ⟨g, i, none⟩ = false := by simp [World.frozen?, h]
theorem blk_set {w : World} {g : Nat} {cs : Array Value} {ty : Nat} {fr : Nat × Nat} (h : w.heap[g]? = some (.cells cs ty fr)) (i : Nat) (v : Value) : (w.setCell ⟨g, i, none⟩ v).heap[g]? = some (.cells (cs.setIfInBounds i v) ty fr) := by
  simp only [World.setCell, Array.getElem?_modify, h, if_true, Option.map_some]; rfl
/-- one scalar cell of an object is set -/
theorem Obj1.set {α : Type} {E : Enc α} {ty ety : Nat} {cells cells' : Value → Array Value} {g : Nat} {xs : List α} {S : Nat → Prop} {w : World} (H : Obj1 E ty ety cells g xs S w) (hne : ty ≠ ety) (i : Nat) (x : Value) (hc : ∀ v, (cells v).setIfInBounds i x = cells' v) :
    Obj1 E ty ety cells' g xs S (w.setCell ⟨g, i, none⟩ x) ∧ Only (fun k => k = g) w (w.setCell ⟨g, i, none⟩ x) := by
  obtain ⟨v, hg, hown, hS, hv⟩ := H
  have ho := Only.setCell (fun k => k = g) w g i x rfl
  refine ⟨⟨v, by rw [← hc]; exact blk_set hg i x, hown.only ho (fun k hk e => row_ne hg hown hne (by rw [hk, e])), hS, hv⟩, ho⟩

/-- an append at a step of a region that draws its order, the object g beside it -/
theorem step_appendS {α : Type} {E : Enc α} {P : Program} {w : World} {ops : Array Oper} {o : Oper} {a : Act} {K : Act → World → Prop} {Q : Exit → Act → World → Prop} {F : Prop} (hgd : o.guard = none) (s x : Operand) (t : TypeId)
    (ho : o.op = .call { callee := .builtin .append, args := #[s, x], argTypes := #[t, t] })
    (e bytes : Nat) (hI : SliceInfo P t e E.size bytes) (S : Nat → Prop) (v : Value) (xs : List α) (hs : a.eval s = v) (hown : OwS E e S w v xs)
    (u : Value) (ys : List α) (hx : a.eval x = u) (hr : Rd E w u ys) (n : Nat) (hn : n = xs.length + ys.length) (h0 : 0 < n)
    (hbytes : (5 * n + 2816) * bytes ≤ 1125899906842624) (h63 : n ≤ maxLen) (g : Nat) (hg : g < w.heap.size) (hne : v.ownBlock ≠ some g)
    (h : ∀ b off cap w', OwS E e (fun k => S k ∨ w.heap.size ≤ k) w' (.slice (some ⟨b, off, none⟩) n cap) (xs ++ ys) → Only (fun k => v.ownBlock = some k) w w' → (∀ i, w'.cell? ⟨g, i, none⟩ = w.cell? ⟨g, i, none⟩) → (∀ i, w'.frozen? ⟨g, i, none⟩ = w.frozen? ⟨g, i, none⟩) → K (a.put o.dst (.slice (some ⟨b, off, none⟩) n cap)) w') :
    if Region.wanted o (yielded ops a.tmps) = true then Oper.wp P o a w K Q else F := by
  subst hn
  refine step_append hgd s x t ho 0 e bytes hI v xs hs hown.1 u ys hx hr hbytes h63 (Nat.zero_le _) fun v' w' h1 h2 h3 _ => ?_
  obtain ⟨b, off, cap, rfl⟩ := h1.some_ (by simpa using h0)
  have ho := Only.of_grown (F := fun k => v.ownBlock = some k) h2 fun k hk => hk
  have hl : (xs ++ ys).length = xs.length + ys.length := List.length_append
  rw [hl] at h1 h3 ⊢
  exact h b off cap w' ⟨h1, fun k hk => by
      rcases h3 with h3 | h3
      · exact .inl (hown.2 k (by rw [← h3.1]; exact hk))
      · exact .inr (h3 k hk)⟩ ho (fun i => World.cell?_of_block (ho.block g hg hne)) (fun i => World.frozen?_of_block (ho.block g hg hne))
/-- the slice of an object is set: its new row lies among S, or is new -/
theorem Obj1.setSlice {α : Type} {E : Enc α} {ty ety : Nat} {cells : Value → Array Value} {g : Nat} {xs ys : List α} {S : Nat → Prop} {w : World} (H : Obj1 E ty ety cells g xs S w) (hne : ty ≠ ety) (i : Nat) (x : Value) (hown : OwS E ety S w x ys) (hc : ∀ v u, (cells v).setIfInBounds i u = cells u) :
    Obj1 E ty ety cells g ys S (w.setCell ⟨g, i, none⟩ x) ∧ Only (fun k => k = g) w (w.setCell ⟨g, i, none⟩ x) := by
  obtain ⟨v, hg, _, hS, hv⟩ := H
  have ho := Only.setCell (fun k => k = g) w g i x rfl
  exact ⟨⟨x, by rw [← hc v x]; exact blk_set hg i x, hown.1.only ho (fun k hk e => row_ne hg hown.1 hne (by rw [hk, e])), hS, hown.2⟩, ho⟩
/-- the object where its old row may have been written: its block alone is as it was; then its slice is set -/
theorem Obj1.setSlice' {α : Type} {E : Enc α} {ty ety : Nat} {cells : Value → Array Value} {g : Nat} {ys : List α} {S : Nat → Prop} {w : World} {v : Value} (hg : w.heap[g]? = some (.cells (cells v) ty (0, 0))) (hS : S g) (hne : ty ≠ ety) (i : Nat) (x : Value) (hown : OwS E ety S w x ys) (hc : ∀ v u, (cells v).setIfInBounds i u = cells u) :
    Obj1 E ty ety cells g ys S (w.setCell ⟨g, i, none⟩ x) ∧ Only (fun k => k = g) w (w.setCell ⟨g, i, none⟩ x) := by
  have ho := Only.setCell (fun k => k = g) w g i x rfl
  exact ⟨⟨x, by rw [← hc v x]; exact blk_set hg i x, hown.1.only ho (fun k hk e => row_ne hg hown.1 hne (by rw [hk, e])), hS, hown.2⟩, ho⟩
theorem Obj1.in_ {α : Type} {E : Enc α} {ty ety : Nat} {cells : Value → Array Value} {g : Nat} {xs : List α} {S : Nat → Prop} {w : World} (H : Obj1 E ty ety cells g xs S w) : S g := by obtain ⟨_, _, _, h, _⟩ := H; exact h
theorem Obj1v.set {α : Type} {E : Enc α} {ty ety : Nat} {cells cells' : Value → Array Value} {g : Nat} {v : Value} {xs : List α} {S : Nat → Prop} {w : World} (H : Obj1v E ty ety cells g v xs S w) (hne : ty ≠ ety) (i : Nat) (x : Value) (hc : (cells v).setIfInBounds i x = cells' v) :
    Obj1v E ty ety cells' g v xs S (w.setCell ⟨g, i, none⟩ x) ∧ Only (fun k => k = g) w (w.setCell ⟨g, i, none⟩ x) := by
  obtain ⟨hg, hown, hS, hv⟩ := H
  have ho := Only.setCell (fun k => k = g) w g i x rfl
  exact ⟨⟨by rw [← hc]; exact blk_set hg i x, hown.only ho (fun k hk e => row_ne hg hown hne (by rw [hk, e])), hS, hv⟩, ho⟩
theorem madeCells_all {α : Type} (E : Enc α) (x0 : α) (z : Array Value) (hz : z.toList = E.cells x0) (n : Nat) : (madeCells z (n * E.size)).toList = E.all (List.replicate n x0) := by
  have hs : z.size = E.size := by rw [← Array.length_toList, hz, E.len]
  refine List.ext_getElem (by simp [size_madeCells, E.all_len]) fun m h1 h2 => ?_
  have hm : m < n * E.size := by simpa [size_madeCells] using h1
  have hp := E.pos
  have hr : m % E.size < E.size := Nat.mod_lt _ hp
  have hq : m / E.size < (List.replicate n x0).length := by
    rw [List.length_replicate]
    exact Nat.div_lt_of_lt_mul (by rw [Nat.mul_comm]; exact hm)
  have he : m / E.size * E.size + m % E.size = m := by rw [Nat.mul_comm]; exact Nat.div_add_mod _ _
  have hat := E.all_at (List.replicate n x0) (m / E.size) (m % E.size) hq hr
  rw [he, List.getElem?_eq_getElem h2, List.getElem_replicate, ← hz] at hat
  have hl : m % E.size < z.toList.length := by rw [Array.length_toList, hs]; exact hr
  rw [List.getElem?_eq_getElem hl] at hat
  have h3 := Option.some.inj hat
  rw [h3]
  have hl2 : m % z.size < z.size := by rw [hs]; exact hr
  simp [madeCells, hs, getElem!_pos z (m % E.size) (by rw [hs]; exact hr)]
/-- what the table says of a type's zero -/
def ZeroInfo {α : Type} (P : Program) (t e : Nat) (E : Enc α) (x0 : α) (bytes : Nat) : Prop :=
  P.underlying t = some (.slice e) ∧ ∃ i z, P.info? e = some i ∧ i.zero = some z ∧ i.size = E.size ∧ i.bytes = bytes ∧ z.cells.toList = E.cells x0
theorem ZeroInfo.mk' {α : Type} {P : Program} {t e bytes : Nat} {E : Enc α} {x0 : α} {z : Value} (h : P.underlying t = some (.slice e)) (hi : (P.info? e).map (fun i => (i.zero, i.size, i.bytes)) = some (some z, E.size, bytes)) (hz : z.cells.toList = E.cells x0) : ZeroInfo P t e E x0 bytes := by
  obtain ⟨i, h1, h2, h3, h4⟩ := info_parts hi
  exact ⟨h, i, z, h1, h2, h3, h4, hz⟩
/-- make of n zeros -/
theorem wl_makeS {α : Type} {E : Enc α} {P : Program} {w : World} {ops : Array Oper} {rest : List Oper} {o : Oper} {a : Act} {Q : Exit → Act → World → Prop} (hg : o.guard = none) (l c : Operand) (t : TypeId) (hop : o.op = Op.makeSlice t l c)
    (e bytes : Nat) (x0 : α) (hI : ZeroInfo P t e E x0 bytes) (kl kc : IntKind) (n : Nat) (hl : a.eval l = .int kl (n : Int)) (hc : a.eval c = .int kc (n : Int)) (b2 : bytes * n ≤ 281474976710656) (b3 : n ≤ maxLen)
    (hK : ∀ w', OwS E e (fun k => w.heap.size ≤ k) w' (.slice (some ⟨w.heap.size, 0, none⟩) n n) (List.replicate n x0) → Only (fun _ => False) w w' → wpList P ops Q rest (a.put o.dst (.slice (some ⟨w.heap.size, 0, none⟩) n n)) w') :
    wpList P ops Q (o :: rest) a w := by
  obtain ⟨h1, i, z, h2, h3, h4, h5, h6⟩ := hI
  refine wpList_make_full w hg l c t hop 0 e i z E.size h1 h2 h3 h4 kl kc n n n hl hc rfl rfl (by rw [h5]; exact b2) b3 (Nat.zero_le _) fun w' hr hgr => ?_
  rw [madeCells_all E x0 z.cells h6] at hr
  refine hK w' ⟨Ow.of_row (by simpa using b3) (by simpa using hr), fun k hk => ?_⟩ (Only.of_grown hgr fun k hk => by simp at hk)
  simp [Value.ownBlock] at hk; omega
/-- one element of the object's slice is set -/
theorem Obj1v.elem {α : Type} {E : Enc α} {ty ety : Nat} {cells : Value → Array Value} {g b off n cap : Nat} {xs : List α} {S : Nat → Prop} {w : World} (H : Obj1v E ty ety cells g (.slice (some ⟨b, off, none⟩) n cap) xs S w) (hne : ty ≠ ety) (i : Nat) (hi : i < xs.length) (x : α) :
    Obj1v E ty ety cells g (.slice (some ⟨b, off, none⟩) n cap) (xs.set i x) S (w.setCells b (off + i * E.size) (E.cells x)) ∧ Only S w (w.setCells b (off + i * E.size) (E.cells x)) := by
  obtain ⟨hg, hown, hS, hv⟩ := H
  have ho := Only.of_grown (F := fun k => b = k) (grownBy_setCells w b (off + i * E.size) (E.cells x)) fun k hk => by simpa using hk
  exact ⟨⟨ho.heap hg (fun e => row_ne hg hown hne (by rw [e]; rfl)), hown.store i hi x, hS, hv⟩, ho.mono fun k _ e => hv k (by rw [← e]; rfl)⟩

/-- two things, their blocks apart -/
def Sep (P Q : (Nat → Prop) → World → Prop) (S : Nat → Prop) (w : World) : Prop := ∃ A B : Nat → Prop, (∀ k, A k → B k → False) ∧ (∀ k, A k → S k) ∧ (∀ k, B k → S k) ∧ P A w ∧ Q B w
theorem Sep.framed {P Q : (Nat → Prop) → World → Prop} (hP : Framed P) (hQ : Framed Q) : Framed (Sep P Q) where
  only S F w w' H ho hn := by
    obtain ⟨A, B, hd, hA, hB, hp, hq⟩ := H
    exact ⟨A, B, hd, hA, hB, hP.only A F w w' hp ho fun k hk h => hn k hk (hA k h), hQ.only B F w w' hq ho fun k hk h => hn k hk (hB k h)⟩
  mono S S' w H hs := by
    obtain ⟨A, B, hd, hA, hB, hp, hq⟩ := H
    exact ⟨fun k => A k ∧ k < w.heap.size, fun k => B k ∧ k < w.heap.size, fun k h1 h2 => hd k h1.1 h2.1, fun k h => hs k h.2 (hA k h.1), fun k h => hs k h.2 (hB k h.1), hP.mono A _ w hp fun k hk h => ⟨h, hk⟩, hQ.mono B _ w hq fun k hk h => ⟨h, hk⟩⟩
/-- what a call that has S leaves -/
def Upd (P : (Nat → Prop) → World → Prop) (S : Nat → Prop) (w w' : World) : Prop := P (fun k => S k ∨ w.heap.size ≤ k) w' ∧ Only S w w'
theorem Upd.refl {P : (Nat → Prop) → World → Prop} (hP : Framed P) {S : Nat → Prop} {w : World} (h : P S w) : Upd P S w w := ⟨hP.mono _ _ _ h fun _ _ h => .inl h, Only.refl _ _⟩
theorem Upd.step {P Q : (Nat → Prop) → World → Prop} (hQ : Framed Q) {S : Nat → Prop} {w w1 w2 : World} (h : Upd P S w w1) (k : Upd Q (fun k => S k ∨ w.heap.size ≤ k) w1 w2) : Upd Q S w w2 :=
  ⟨hQ.mono _ _ _ k.1 fun j _ hj => by
    rcases hj with hj | hj
    · exact hj
    · exact .inr (Nat.le_trans h.2.size hj), h.2.trans k.2 fun j hj hs => by
    rcases hs with hs | hs
    · exact hs
    · omega⟩
theorem Upd.imp {P Q : (Nat → Prop) → World → Prop} {S : Nat → Prop} {w w' : World} (h : Upd P S w w') (hpq : ∀ T, P T w' → Q T w') : Upd Q S w w' := ⟨hpq _ h.1, h.2⟩
theorem Upd.fresh {P : (Nat → Prop) → World → Prop} (hP : Framed P) {S : Nat → Prop} {w w1 w2 : World} (h : Upd P S w w1) (ho : Only (fun _ => False) w1 w2) : Upd P S w w2 :=
  h.step hP ⟨hP.only _ _ _ _ (hP.mono _ _ _ h.1 fun _ _ h => .inl h) ho fun _ _ _ h => h, ho.mono fun _ _ h => h.elim⟩
theorem Sep.focus {P Q : (Nat → Prop) → World → Prop} (hQ : Framed Q) {S : Nat → Prop} {w : World} (H : Sep P Q S w) : ∃ A, P A w ∧ ∀ P' w', Framed P' → Upd P' A w w' → Upd (Sep P' Q) S w w' := by
  obtain ⟨A, B, hd, hA, hB, hp, hq⟩ := H
  refine ⟨A, hp, fun P' w' hP' hu => ⟨⟨fun k => (A k ∧ k < w.heap.size) ∨ w.heap.size ≤ k, fun k => B k ∧ k < w.heap.size, ?_, ?_, ?_, ?_, ?_⟩, hu.2.mono fun k _ h => hA k h⟩⟩
  · rintro k (h1 | h1) h2
    · exact hd k h1.1 h2.1
    · omega
  · rintro k (h | h)
    · exact .inl (hA k h.1)
    · exact .inr h
  · exact fun k h => .inl (hB k h.1)
  · exact hP'.mono _ _ _ hu.1 fun k _ h => by
      rcases h with h | h
      · by_cases hk : k < w.heap.size
        · exact .inl ⟨h, hk⟩
        · exact .inr (by omega)
      · exact .inr h
  · exact hQ.only _ _ _ _ (hQ.mono _ _ _ hq fun k hk h => ⟨h, hk⟩) hu.2 fun k _ h hA' => hd k hA' h.1
theorem Sep.swap {P Q : (Nat → Prop) → World → Prop} {S : Nat → Prop} {w : World} (H : Sep P Q S w) : Sep Q P S w := by
  obtain ⟨A, B, hd, hA, hB, hp, hq⟩ := H
  exact ⟨B, A, fun k h1 h2 => hd k h2 h1, hB, hA, hq, hp⟩
theorem Sep.focusR {P Q : (Nat → Prop) → World → Prop} (hP : Framed P) {S : Nat → Prop} {w : World} (H : Sep P Q S w) : ∃ B, Q B w ∧ ∀ Q' w', Framed Q' → Upd Q' B w w' → Upd (Sep P Q') S w w' := by
  obtain ⟨B, hq, hb⟩ := H.swap.focus hP
  exact ⟨B, hq, fun Q' w' hQ' hu => (hb Q' w' hQ' hu).imp fun T h => h.swap⟩
theorem Sep.imp {P P' Q Q' : (Nat → Prop) → World → Prop} {S : Nat → Prop} {w : World} (H : Sep P Q S w) (hp : ∀ T, P T w → P' T w) (hq : ∀ T, Q T w → Q' T w) : Sep P' Q' S w := by
  obtain ⟨A, B, hd, hA, hB, p, q⟩ := H
  exact ⟨A, B, hd, hA, hB, hp _ p, hq _ q⟩
theorem Sep.left {P Q : (Nat → Prop) → World → Prop} (hP : Framed P) {S : Nat → Prop} {w : World} (H : Sep P Q S w) : P S w := by
  obtain ⟨A, B, hd, hA, hB, hp, hq⟩ := H
  exact hP.mono _ _ _ hp fun k _ h => hA k h
theorem Sep.right {P Q : (Nat → Prop) → World → Prop} (hQ : Framed Q) {S : Nat → Prop} {w : World} (H : Sep P Q S w) : Q S w := by
  obtain ⟨A, B, hd, hA, hB, hp, hq⟩ := H
  exact hQ.mono _ _ _ hq fun k _ h => hB k h
theorem Sep.assoc {P Q R : (Nat → Prop) → World → Prop} {S : Nat → Prop} {w : World} (H : Sep (Sep P Q) R S w) : Sep P (Sep Q R) S w := by
  obtain ⟨AB, C, hd, hAB, hC, ⟨A, B, hd2, hA, hB, hp, hq⟩, hr⟩ := H
  refine ⟨A, fun k => B k ∨ C k, ?_, fun k h => hAB k (hA k h), ?_, hp, B, C, fun k h => hd k (hB k h), fun k h => .inl h, fun k h => .inr h, hq, hr⟩
  · rintro k h1 (h2 | h2)
    · exact hd2 k h1 h2
    · exact hd k (hA k h1) h2
  · rintro k (h | h)
    · exact hAB k (hB k h)
    · exact hC k h
theorem Sep.assoc' {P Q R : (Nat → Prop) → World → Prop} {S : Nat → Prop} {w : World} (H : Sep P (Sep Q R) S w) : Sep (Sep P Q) R S w := by
  have h := H.swap
  obtain ⟨BC, A, hd, hBC, hA, ⟨B, C, hd2, hB, hC, hq, hr⟩, hp⟩ := h
  refine ⟨fun k => A k ∨ B k, C, ?_, ?_, fun k h => hBC k (hC k h), ⟨A, B, fun k h1 h2 => hd k (hB k h2) h1, fun k h => .inl h, fun k h => .inr h, hp, hq⟩, hr⟩
  · rintro k (h1 | h1) h2
    · exact hd k (hC k h2) h1
    · exact hd2 k h1 h2
  · rintro k (h | h)
    · exact hA k h
    · exact hBC k (hB k h)
/-- something new beside -/
theorem Upd.add {P Q : (Nat → Prop) → World → Prop} (hP : Framed P) (hQ : Framed Q) {S : Nat → Prop} {w w1 w2 : World} (h : Upd P S w w1) (hq : Q (fun k => w1.heap.size ≤ k) w2) (ho : Only (fun _ => False) w1 w2) : Upd (Sep P Q) S w w2 := by
  refine h.step (Sep.framed hP hQ) ⟨⟨fun k => (S k ∨ w.heap.size ≤ k) ∧ k < w1.heap.size, fun k => w1.heap.size ≤ k, fun k h1 h2 => ?_, fun k h => .inl h.1, fun k h => .inr h, ?_, hq⟩, ho.mono fun _ _ h => h.elim⟩
  · omega
  · exact hP.only _ _ _ _ (hP.mono _ _ _ h.1 fun k hk h => ⟨h, hk⟩) ho fun _ _ _ h => h
/-- blocks of the call's own, known whole -/
def Locs (L : List (Nat × Obj)) (S : Nat → Prop) (w : World) : Prop := ∀ p ∈ L, w.heap[p.1]? = some p.2 ∧ S p.1
theorem Locs.framed {L : List (Nat × Obj)} : Framed (Locs L) where
  only S F w w' h ho hn p hp := ⟨ho.heap (h p hp).1 (hn _ (heap_lt (h p hp).1) (h p hp).2), (h p hp).2⟩
  mono S S' w h hs p hp := ⟨(h p hp).1, hs _ (heap_lt (h p hp).1) (h p hp).2⟩
theorem Locs.nil (S : Nat → Prop) (w : World) : Locs [] S w := fun p h => by simp at h
theorem Sep.nil {P : (Nat → Prop) → World → Prop} {S : Nat → Prop} {w : World} (h : P S w) : Sep P (Locs []) S w := ⟨S, fun _ => False, fun _ _ h => h, fun _ h => h, fun _ h => h.elim, h, Locs.nil _ _⟩
theorem Upd.loc {P : (Nat → Prop) → World → Prop} (hP : Framed P) {S : Nat → Prop} {w w1 : World} {L : List (Nat × Obj)} (h : Upd (Sep P (Locs L)) S w w1) (o : Obj) : Upd (Sep P (Locs ((w1.heap.size, o) :: L))) S w (w1.alloc o) := by
  have h2 := h.add (Sep.framed hP Locs.framed) (Q := Locs [(w1.heap.size, o)]) Locs.framed (fun p hp => by simp at hp; subst hp; exact ⟨heap_alloc_new w1 o, Nat.le_refl _⟩) (Only.alloc _ w1 o)
  refine h2.imp fun T hT => ?_
  refine hT.assoc.imp (fun _ h => h) fun T h => ?_
  obtain ⟨A, B, hd, hA, hB, ha, hb⟩ := h
  intro p hp
  rcases List.mem_cons.1 hp with rfl | hp
  · exact ⟨(hb _ (by simp)).1, hB _ (hb _ (by simp)).2⟩
  · exact ⟨(ha p hp).1, hA _ (ha p hp).2⟩
/-- the blocks of L are changed, and nothing else -/
theorem Upd.locs {P : (Nat → Prop) → World → Prop} (hP : Framed P) {S : Nat → Prop} {w w1 w2 : World} {L M : List (Nat × Obj)} (h : Upd (Sep P (Locs L)) S w w1) (ho : Only (fun k => ∃ p ∈ L, p.1 = k) w1 w2) (hM : ∀ p ∈ M, w2.heap[p.1]? = some p.2 ∧ (w1.heap.size ≤ p.1 ∨ ∃ q ∈ L, q.1 = p.1)) : Upd (Sep P (Locs M)) S w w2 := by
  obtain ⟨B, hB, hb⟩ := h.1.focusR hP
  refine h.step (Sep.framed hP Locs.framed) (hb (Locs M) w2 Locs.framed ⟨fun p hp => ⟨(hM p hp).1, ?_⟩, ho.mono fun k _ ⟨p, hp, e⟩ => e ▸ (hB p hp).2⟩)
  rcases (hM p hp).2 with h | ⟨q, hq, e⟩
  · exact .inr h
  · exact .inl (e ▸ (hB q hq).2)
theorem Upd.get {P : (Nat → Prop) → World → Prop} {S : Nat → Prop} {w w1 : World} {L : List (Nat × Obj)} (h : Upd (Sep P (Locs L)) S w w1) {g : Nat} {o : Obj} (hm : (g, o) ∈ L) : w1.heap[g]? = some o := by
  obtain ⟨A, B, _, _, _, _, hq⟩ := h.1
  exact (hq _ hm).1
theorem Upd.drop {P Q : (Nat → Prop) → World → Prop} (hP : Framed P) {S : Nat → Prop} {w w1 : World} (h : Upd (Sep P Q) S w w1) : Upd P S w w1 := h.imp fun _ h => h.left hP
theorem Upd.start {P : (Nat → Prop) → World → Prop} (hP : Framed P) {S : Nat → Prop} {w : World} (h : P S w) : Upd (Sep P (Locs [])) S w w := Upd.refl (Sep.framed hP Locs.framed) (Sep.nil h)
/-- a call on the thing, its own blocks apart -/
theorem Upd.call {P R : (Nat → Prop) → World → Prop} (hR : Framed R) (hP : Framed P) {S : Nat → Prop} {w w1 : World} (h : Upd (Sep P R) S w w1) : ∃ A, P A w1 ∧ ∀ P' w', Framed P' → Upd P' A w1 w' → Upd (Sep P' R) S w w' := by
  obtain ⟨A, hA, hb⟩ := h.1.focus hR
  exact ⟨A, hA, fun P' w' hP' hu => h.step (Sep.framed hP' hR) (hb P' w' hP' hu)⟩
theorem OwS.shape' {α : Type} {E : Enc α} {ty : Nat} {S : Nat → Prop} {w : World} {v : Value} {xs : List α} (h : OwS E ty S w v xs) : ∃ a n c, v = .slice a n c := by
  obtain ⟨⟨_, ao, cap, rfl, _⟩, _⟩ := h; exact ⟨_, _, _, rfl⟩

/-- what is said of the new blocks alone, what was there is as it was -/
abbrev St (P : (Nat → Prop) → World → Prop) (w0 w : World) : Prop := Upd P (fun _ => False) w0 w
def Emp (S : Nat → Prop) (w : World) : Prop := True
theorem Emp.framed : Framed Emp := Framed.pure True
theorem Sep.nilE {P : (Nat → Prop) → World → Prop} {S : Nat → Prop} {w : World} (h : P S w) : Sep P Emp S w := ⟨S, fun _ => False, fun _ _ h => h, fun _ h => h, fun _ h => h.elim, h, trivial⟩
theorem St.start {w0 w : World} (h : Below w0.heap.size w0 w) : St Emp w0 w := ⟨trivial, Only.of_below h fun k h1 h2 => by omega⟩
theorem St.below {P : (Nat → Prop) → World → Prop} {w0 w : World} (h : St P w0 w) : Below w0.heap.size w0 w := h.2.below (Nat.le_refl _) fun _ h => h.elim
theorem St.size {P : (Nat → Prop) → World → Prop} {w0 w : World} (h : St P w0 w) : w0.heap.size ≤ w.heap.size := h.2.size
theorem St.get {P : (Nat → Prop) → World → Prop} {w0 w : World} (h : St P w0 w) : ∃ T, P T w := ⟨_, h.1⟩
theorem Sep.nilL {α : Type} {E : Enc α} {ty : Nat} {Q : (Nat → Prop) → World → Prop} {S : Nat → Prop} {w : World} (h : Q S w) : Sep (fun S w => OwS E ty S w (.slice none 0 0) ([] : List α)) Q S w := ⟨fun _ => False, S, fun _ h _ => h, fun _ h => h.elim, fun _ h => h, OwS.nil _ _, h⟩
section
variable {P Q R P' Q' R' Y : (Nat → Prop) → World → Prop} {S : Nat → Prop} {w w1 w2 : World}
theorem Upd.get1 (h : Upd P S w w1) : ∃ T, P T w1 := ⟨_, h.1⟩
/-- beside what is only read -/
theorem Upd.keep (hP : Framed P) (hR : Framed R) (hY : Framed Y) (h : Upd (Sep P R) S w w1) (hy : Y (fun k => w1.heap.size ≤ k) w2) (ho : Only (fun _ => False) w1 w2) : Upd (Sep P (fun S w => R S w ∧ Y S w)) S w w2 :=
  (h.add (Sep.framed hP hR) hY hy ho).imp fun T hT => hT.assoc.imp (fun _ h => h) fun T h => ⟨h.left hR, h.right hY⟩
theorem Upd.loc' (hP : Framed P) (hR : Framed R) (h : Upd (Sep P R) S w w1) (o : Obj) : Upd (Sep P (fun S w => R S w ∧ Blk w1.heap.size o S w)) S w (w1.alloc o) :=
  h.keep hP hR Blk.framed ⟨heap_alloc_new w1 o, Nat.le_refl _⟩ (Only.alloc _ _ _)
theorem Upd.rest (h : Upd (Sep P R) S w w1) (hr : ∀ T, R T w1 → R' T w1) : Upd (Sep P R') S w w1 := h.imp fun _ h => h.imp (fun _ h => h) hr
theorem Upd.first (h : Upd (Sep P R) S w w1) (hr : ∀ T, P T w1 → P' T w1) : Upd (Sep P' R) S w w1 := h.imp fun _ h => h.imp hr fun _ h => h
theorem Upd.getL (h : Upd (Sep P R) S w w1) : ∃ T, P T w1 := by obtain ⟨A, B, _, _, _, hp, _⟩ := h.1; exact ⟨_, hp⟩
theorem Upd.getR (h : Upd (Sep P R) S w w1) : ∃ T, R T w1 := by obtain ⟨A, B, _, _, _, _, hp⟩ := h.1; exact ⟨_, hp⟩
theorem Upd.drewU (hP : Framed P) (h : Upd P S w w1) : Upd P S w w1.drew := h.fresh hP ((Only.refl _ _).drewN 1)
theorem Upd.swap (h : Upd (Sep P R) S w w1) : Upd (Sep R P) S w w1 := h.imp fun _ h => h.swap
/-- (P, (Q, R)) and (Q, (P, R)) -/
theorem Sep.turn (h : Sep P (Sep Q R) S w) : Sep Q (Sep P R) S w := (h.assoc'.imp (fun _ h => h.swap) fun _ h => h).assoc
theorem Upd.turn (h : Upd (Sep P (Sep Q R)) S w w1) : Upd (Sep Q (Sep P R)) S w w1 := h.imp fun _ h => h.turn
/-- a call on the first -/
theorem Upd.on1 (hR : Framed R) (h : Upd (Sep P R) S w w1) {f : FuncId} {args : Array Value} {pr : Program} {E : Ending → Prop} (hP' : Framed P')
    (H : ∀ A, P A w1 → Calls pr f args w1 fun e w' => E e ∧ Upd P' A w1 w') : Calls pr f args w1 fun e w' => E e ∧ Upd (Sep P' R) S w w' := by
  obtain ⟨A, hA, hb⟩ := h.1.focus hR
  exact (H A hA).mono fun e w' ⟨he, hu⟩ => ⟨he, h.step (Sep.framed hP' hR) (hb P' w' hP' hu)⟩
theorem Upd.on1x {α : Type} {Px : α → (Nat → Prop) → World → Prop} (hR : Framed R) (h : Upd (Sep P R) S w w1) {f : FuncId} {args : Array Value} {pr : Program} {E : α → Ending → Prop} (hP' : ∀ x, Framed (Px x))
    (H : ∀ A, P A w1 → Calls pr f args w1 fun e w' => ∃ x, E x e ∧ Upd (Px x) A w1 w') : Calls pr f args w1 fun e w' => ∃ x, E x e ∧ Upd (Sep (Px x) R) S w w' := by
  obtain ⟨A, hA, hb⟩ := h.1.focus hR
  exact (H A hA).mono fun e w' ⟨x, he, hu⟩ => ⟨x, he, h.step (Sep.framed (hP' x) hR) (hb (Px x) w' (hP' x) hu)⟩
/-- a call on the second -/
theorem Upd.on2 (hP : Framed P) (hR : Framed R) (h : Upd (Sep P (Sep Q R)) S w w1) {f : FuncId} {args : Array Value} {pr : Program} {E : Ending → Prop} (hQ' : Framed Q')
    (H : ∀ A, Q A w1 → Calls pr f args w1 fun e w' => E e ∧ Upd Q' A w1 w') : Calls pr f args w1 fun e w' => E e ∧ Upd (Sep P (Sep Q' R)) S w w' :=
  (h.turn.on1 (Sep.framed hP hR) hQ' H).mono fun e w' ⟨he, hu⟩ => ⟨he, hu.turn⟩
theorem Upd.on2x {α : Type} {Qx : α → (Nat → Prop) → World → Prop} (hP : Framed P) (hR : Framed R) (h : Upd (Sep P (Sep Q R)) S w w1) {f : FuncId} {args : Array Value} {pr : Program} {E : α → Ending → Prop} (hQ' : ∀ x, Framed (Qx x))
    (H : ∀ A, Q A w1 → Calls pr f args w1 fun e w' => ∃ x, E x e ∧ Upd (Qx x) A w1 w') : Calls pr f args w1 fun e w' => ∃ x, E x e ∧ Upd (Sep P (Sep (Qx x) R)) S w w' :=
  (h.turn.on1x (Sep.framed hP hR) hQ' H).mono fun e w' ⟨x, he, hu⟩ => ⟨x, he, hu.turn⟩
/-- a call that gives something new -/
theorem Upd.callNew {α : Type} {Yx : α → (Nat → Prop) → World → Prop} (hP : Framed P) (hY : ∀ x, Framed (Yx x)) (h : Upd P S w w1) {f : FuncId} {args : Array Value} {pr : Program} {E : α → Ending → Prop}
    (H : Calls pr f args w1 fun e w' => ∃ x, E x e ∧ Yx x (fun k => w1.heap.size ≤ k) w' ∧ Only (fun _ => False) w1 w') : Calls pr f args w1 fun e w' => ∃ x, E x e ∧ Upd (Sep P (Yx x)) S w w' :=
  H.mono fun e w' ⟨x, he, hy, ho⟩ => ⟨x, he, h.add hP (hY x) hy ho⟩
/-- the same, beside what is only read -/
theorem Upd.callKeep {α : Type} {Yx : α → (Nat → Prop) → World → Prop} (hP : Framed P) (hR : Framed R) (hY : ∀ x, Framed (Yx x)) (h : Upd (Sep P R) S w w1) {f : FuncId} {args : Array Value} {pr : Program} {E : α → Ending → Prop}
    (H : Calls pr f args w1 fun e w' => ∃ x, E x e ∧ Yx x (fun k => w1.heap.size ≤ k) w' ∧ Only (fun _ => False) w1 w') : Calls pr f args w1 fun e w' => ∃ x, E x e ∧ Upd (Sep P (fun S w => R S w ∧ Yx x S w)) S w w' :=
  H.mono fun e w' ⟨x, he, hy, ho⟩ => ⟨x, he, h.keep hP hR (hY x) hy ho⟩
/-- a call that only reads -/
theorem Upd.callRead (hP : Framed P) (h : Upd P S w w1) {f : FuncId} {args : Array Value} {pr : Program} {E : Ending → Prop}
    (H : Calls pr f args w1 fun e w' => E e ∧ Only (fun _ => False) w1 w') : Calls pr f args w1 fun e w' => E e ∧ Upd P S w w' :=
  H.mono fun e w' ⟨he, ho⟩ => ⟨he, h.fresh hP ho⟩
end

section
variable {P Q R P' Q' R' : (Nat → Prop) → World → Prop} {S : Nat → Prop} {w w1 w2 : World}
theorem Upd.onA (hQ : Framed Q) (hR : Framed R) (h : Upd (Sep (Sep P Q) R) S w w1) {f : FuncId} {args : Array Value} {pr : Program} {E : Ending → Prop} (hP' : Framed P')
    (H : ∀ A, P A w1 → Calls pr f args w1 fun e w' => E e ∧ Upd P' A w1 w') : Calls pr f args w1 fun e w' => E e ∧ Upd (Sep (Sep P' Q) R) S w w' :=
  ((h.imp fun _ h => h.assoc).on1 (Sep.framed hQ hR) hP' H).mono fun e w' ⟨he, hu⟩ => ⟨he, hu.imp fun _ h => h.assoc'⟩
theorem Upd.onB (hP : Framed P) (hR : Framed R) (h : Upd (Sep (Sep P Q) R) S w w1) {f : FuncId} {args : Array Value} {pr : Program} {E : Ending → Prop} (hQ' : Framed Q')
    (H : ∀ A, Q A w1 → Calls pr f args w1 fun e w' => E e ∧ Upd Q' A w1 w') : Calls pr f args w1 fun e w' => E e ∧ Upd (Sep (Sep P Q') R) S w w' :=
  ((h.imp fun _ h => h.assoc).on2 hP hR hQ' H).mono fun e w' ⟨he, hu⟩ => ⟨he, hu.imp fun _ h => h.assoc'⟩
theorem Upd.getA (h : Upd (Sep (Sep P Q) R) S w w1) : ∃ T, P T w1 := by obtain ⟨_, _, _, _, _, ⟨A, _, _, _, _, hp, _⟩, _⟩ := h.1; exact ⟨A, hp⟩
theorem Upd.getB (h : Upd (Sep (Sep P Q) R) S w w1) : ∃ T, Q T w1 := by obtain ⟨_, _, _, _, _, ⟨_, B, _, _, _, _, hq⟩, _⟩ := h.1; exact ⟨B, hq⟩
/-- something new beside one thing -/
theorem Upd.pair (hR : Framed R) (h : Upd (Sep P (Sep Q R)) S w w1) : Upd (Sep (Sep P Q) R) S w w1 := h.imp fun _ h => h.assoc'
end
end Go.Proofs.Ytdlkblklfoagbaa
