/- lru: the document's LRU: a key is added, its time, the clock. -/
import Derived.Test.YtodacnpbhlkoiaaLruRefPl
namespace Go.Proofs.Ytodacnpbhlkoiaa
open Go.RowKit
set_option linter.unusedVariables false
set_option linter.unusedSimpArgs false

/-- the document's LRU's own block, keys and times each for itself -/
def RefOw (rg bx : Nat) (vk vw : Value) (ks ws : List Int) (clk : Int) (S : Nat → Prop) (w : World) : Prop :=
  w.heap[rg]? = some (.cells #[.pointer (some ⟨bx, 0, none⟩), vk, vw, .int .i64 clk] 60 (0, 0)) ∧ OwS eU64 28 S w vk ks ∧ OwS eI64 3 S w vw ws ∧ S rg
theorem RefOw.framed {rg bx : Nat} {vk vw : Value} {ks ws : List Int} {clk : Int} : Framed (RefOw rg bx vk vw ks ws clk) where
  only S F w w' h ho hn := ⟨ho.heap h.1 (hn _ (heap_lt h.1) h.2.2.2), OwS.framed.only _ _ _ _ h.2.1 ho hn, OwS.framed.only _ _ _ _ h.2.2.1 ho hn, h.2.2.2⟩
  mono S S' w h hs := ⟨h.1, OwS.framed.mono _ _ _ h.2.1 hs, OwS.framed.mono _ _ _ h.2.2.1 hs, hs _ (heap_lt h.1) h.2.2.2⟩
theorem RefOw.cells {rg bx : Nat} {vk vw : Value} {ks ws : List Int} {clk : Int} {S : Nat → Prop} {w : World} (h : RefOw rg bx vk vw ks ws clk S w) :
    w.cell? ⟨rg, 0, none⟩ = some (.pointer (some ⟨bx, 0, none⟩)) ∧ w.cell? ⟨rg, 1, none⟩ = some vk ∧ w.cell? ⟨rg, 2, none⟩ = some vw ∧ w.cell? ⟨rg, 3, none⟩ = some (.int .i64 clk) ∧ (∀ i, w.frozen? ⟨rg, i, none⟩ = false) ∧ rg < w.heap.size :=
  ⟨blk_cell h.1 0, blk_cell h.1 1, blk_cell h.1 2, blk_cell h.1 3, blk_free h.1, heap_lt h.1⟩
/-- the clock is set -/
theorem RefOw.tick {rg bx : Nat} {vk vw : Value} {ks ws : List Int} {clk : Int} {S : Nat → Prop} {w w1 : World} (h : Upd (RefOw rg bx vk vw ks ws clk) S w w1) (c : Int) :
    Upd (RefOw rg bx vk vw ks ws c) S w (w1.setCell ⟨rg, 3, none⟩ (.int .i64 c)) := by
  have h3 := h.1
  have o := Only.setCell (fun k => k = rg) w1 rg 3 (.int .i64 c) rfl
  refine ⟨⟨blk_set h3.1 3 _, ⟨h3.2.1.1.only o fun k hk e => row_ne h3.1 h3.2.1.1 (by decide) (by rw [hk, e]), h3.2.1.2⟩, ⟨h3.2.2.1.1.only o fun k hk e => row_ne h3.1 h3.2.2.1.1 (by decide) (by rw [hk, e]), h3.2.2.1.2⟩, h3.2.2.2⟩, h.2.trans o fun j hj e => ?_⟩
  subst e
  rcases h3.2.2.2 with h | h
  · exact h
  · omega
theorem ty_ne {α β : Type} {E : Enc α} {F : Enc β} {ta tb : Nat} {w : World} {u v : Value} {xs : List α} {ys : List β} {b1 b2 : Nat} (h1 : Ow E b1 ta w u xs) (h2 : Ow F b2 tb w v ys) (hne : ta ≠ tb) {k : Nat} (hu : u.ownBlock = some k) (hv : v.ownBlock = some k) : False := by
  obtain ⟨c1, e1⟩ := h1.type hu
  obtain ⟨c2, e2⟩ := h2.type hv
  rw [e1] at e2
  simp at e2
  exact hne e2.2
/-- keys grow: the row may be written, then the slice is set -/
theorem RefOw.keys {rg bx : Nat} {vk vw v2 : Value} {ks ks2 ws : List Int} {clk : Int} {S : Nat → Prop} {w w1 wa w2 : World} (h : Upd (RefOw rg bx vk vw ks ws clk) S w w1) (ho : Only (fun _ => False) w1 wa)
    (hown : OwS eU64 28 (fun k => vk.ownBlock = some k ∨ wa.heap.size ≤ k) w2 v2 ks2) (hO : Only (fun k => vk.ownBlock = some k) wa w2) :
    w2.heap[rg]? = some (.cells #[.pointer (some ⟨bx, 0, none⟩), vk, vw, .int .i64 clk] 60 (0, 0)) ∧ Upd (RefOw rg bx v2 vw ks2 ws clk) S w (w2.setCell ⟨rg, 1, none⟩ v2) := by
  have ha := (h.fresh RefOw.framed ho).1
  have hA := (h.fresh RefOw.framed ho).2
  have hr : w2.heap[rg]? = some (.cells #[.pointer (some ⟨bx, 0, none⟩), vk, vw, .int .i64 clk] 60 (0, 0)) := hO.heap ha.1 (row_ne ha.1 ha.2.1.1 (by decide))
  have hw : OwS eI64 3 (fun k => S k ∨ w.heap.size ≤ k) w2 vw ws := ⟨ha.2.2.1.1.only hO fun k hk e => ty_ne ha.2.1.1 ha.2.2.1.1 (by decide) e hk, ha.2.2.1.2⟩
  have o := Only.setCell (fun k => k = rg) w2 rg 1 v2 rfl
  refine ⟨hr, ⟨blk_set hr 1 v2, ⟨hown.1.only o fun k hk e => row_ne hr hown.1 (by decide) (by rw [hk, e]), fun k hk => ?_⟩, ⟨hw.1.only o fun k hk e => row_ne hr hw.1 (by decide) (by rw [hk, e]), hw.2⟩, ha.2.2.2⟩, (hA.trans hO fun j hj e => ?_).trans o fun j hj e => ?_⟩
  · rcases hown.2 k hk with h | h
    · exact ha.2.1.2 k h
    · exact .inr (Nat.le_trans hA.size h)
  · rcases ha.2.1.2 j e with h | h
    · exact h
    · omega
  · subst e
    rcases ha.2.2.2 with h | h
    · exact h
    · omega
/-- times grow -/
theorem RefOw.times {rg bx : Nat} {vk vw v2 : Value} {ks ws ws2 : List Int} {clk : Int} {S : Nat → Prop} {w w1 wa w2 : World} (h : Upd (RefOw rg bx vk vw ks ws clk) S w w1) (ho : Only (fun _ => False) w1 wa)
    (hown : OwS eI64 3 (fun k => vw.ownBlock = some k ∨ wa.heap.size ≤ k) w2 v2 ws2) (hO : Only (fun k => vw.ownBlock = some k) wa w2) :
    w2.heap[rg]? = some (.cells #[.pointer (some ⟨bx, 0, none⟩), vk, vw, .int .i64 clk] 60 (0, 0)) ∧ Upd (RefOw rg bx vk v2 ks ws2 clk) S w (w2.setCell ⟨rg, 2, none⟩ v2) := by
  have ha := (h.fresh RefOw.framed ho).1
  have hA := (h.fresh RefOw.framed ho).2
  have hr : w2.heap[rg]? = some (.cells #[.pointer (some ⟨bx, 0, none⟩), vk, vw, .int .i64 clk] 60 (0, 0)) := hO.heap ha.1 (row_ne ha.1 ha.2.2.1.1 (by decide))
  have hw : OwS eU64 28 (fun k => S k ∨ w.heap.size ≤ k) w2 vk ks := ⟨ha.2.1.1.only hO fun k hk e => ty_ne ha.2.1.1 ha.2.2.1.1 (by decide) hk e, ha.2.1.2⟩
  have o := Only.setCell (fun k => k = rg) w2 rg 2 v2 rfl
  refine ⟨hr, ⟨blk_set hr 2 v2, ⟨hw.1.only o fun k hk e => row_ne hr hw.1 (by decide) (by rw [hk, e]), hw.2⟩, ⟨hown.1.only o fun k hk e => row_ne hr hown.1 (by decide) (by rw [hk, e]), fun k hk => ?_⟩, ha.2.2.2⟩, (hA.trans hO fun j hj e => ?_).trans o fun j hj e => ?_⟩
  · rcases hown.2 k hk with h | h
    · exact ha.2.2.1.2 k h
    · exact .inr (Nat.le_trans hA.size h)
  · rcases ha.2.2.1.2 j e with h | h
    · exact h
    · omega
  · subst e
    rcases ha.2.2.2 with h | h
    · exact h
    · omega
/-- the document's LRU's own block, taken out of all that is there -/
theorem RefP.hole {rg bx : Nat} {cap : Int} {ps : List (Int × Int)} {clk : Int} {xs : List PairD} {R : (Nat → Prop) → World → Prop} (hR : Framed R) {S : Nat → Prop} {w W : World} (h : Upd (Sep (RefP rg bx cap ps clk xs) R) S w W) :
    ∃ A vk vw, RefOw rg bx vk vw (ps.map (·.1)) (ps.map (·.2)) clk A W ∧ ∀ W' ps' clk' vk' vw', Upd (RefOw rg bx vk' vw' (ps'.map (·.1)) (ps'.map (·.2)) clk') A W W' → Upd (Sep (RefP rg bx cap ps' clk' xs) R) S w W' := by
  obtain ⟨B, hB, hb⟩ := h.1.focus hR
  obtain ⟨A, ⟨vk, vw, hA⟩, ha⟩ := hB.focus RefB.framed
  exact ⟨A, vk, vw, hA, fun W' ps' clk' vk' vw' hu => h.step (Sep.framed RefP.framed hR) (hb _ W' RefP.framed (ha _ W' RefO.framed ⟨⟨vk', vw', hu.1⟩, hu.2⟩))⟩
end Go.Proofs.Ytodacnpbhlkoiaa
