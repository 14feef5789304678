/- book: Do where the key is there. -/
import Derived.Test.YtodacnpbhlkoiaaBookDo
import Derived.Deep.CutBlock
namespace Go.Proofs.Ytodacnpbhlkoiaa
open Go.RowKit
set_option linter.unusedVariables false
set_option linter.unusedSimpArgs false

/-- one field of a pair is set -/
theorem all_setVal (xs : List PairD) (i : Nat) (hi : i < xs.length) (u : Int) : ePair.all (xs.set i (xs[i].1, u)) = (ePair.all xs).set (i * 2 + 1) (.int .u64 u) := by
  refine List.ext_getElem? fun m => ?_
  by_cases hm : m < xs.length * 2
  · have hq : m / 2 < xs.length := by omega
    have hr : m % 2 < 2 := Nat.mod_lt _ (by omega)
    have he : m / 2 * 2 + m % 2 = m := by omega
    have h1 := ePair.all_at (xs.set i (xs[i].1, u)) (m / 2) (m % 2) (by simpa using hq) hr
    have h2 := ePair.all_at xs (m / 2) (m % 2) hq hr
    rw [show m / 2 * ePair.size + m % 2 = m from he] at h1 h2
    rw [h1, List.getElem?_set, h2, List.getElem_set]
    have hl : (ePair.all xs).length = xs.length * 2 := ePair.all_len xs
    by_cases e : i * 2 + 1 = m
    · have e1 : i = m / 2 := by omega
      have e2 : m % 2 = 1 := by omega
      rw [if_pos e, if_pos e1, if_pos (by rw [hl]; omega), e2]; rfl
    · rw [if_neg e]
      by_cases e1 : i = m / 2
      · have e2 : m % 2 = 0 := by omega
        rw [if_pos e1, e2]
        subst e1
        rfl
      · rw [if_neg e1]
  · have hl1 : (ePair.all (xs.set i (xs[i].1, u))).length = xs.length * 2 := by rw [ePair.all_len, List.length_set]
    have hl2 : ((ePair.all xs).set (i * 2 + 1) (.int .u64 u)).length = xs.length * 2 := by rw [List.length_set, ePair.all_len]
    rw [List.getElem?_eq_none (by omega), List.getElem?_eq_none (by omega)]
theorem Ow.setVal {w : World} {base e g off cap n : Nat} {xs : List PairD} (h : Ow ePair base e w (.slice (some ⟨g, off, none⟩) n cap) xs) (i : Nat) (hi : i < xs.length) (k u : Int) (hk : xs[i].1 = k) :
    Ow ePair base e (w.setCell ⟨g, off + i * 2 + 1, none⟩ (.int .u64 u)) (.slice (some ⟨g, off, none⟩) n cap) (xs.set i (k, u)) := by
  subst hk
  obtain ⟨hm, ao', cap', he, hlc, hcm, hnone, hx⟩ := h
  obtain ⟨rfl, rfl, rfl⟩ : some ⟨g, off, none⟩ = ao' ∧ n = xs.length ∧ cap = cap' := by simpa using he
  obtain ⟨g', off', cur, hgo, hg, hh, hs, ht⟩ := hx _ rfl
  obtain ⟨rfl, rfl⟩ : g = g' ∧ off = off' := by simpa using hgo
  refine ⟨by simpa using hm, some ⟨g, off, none⟩, cap, by simp, by simpa using hlc, hcm, fun h => by simp at h, fun a ha => ⟨g, off, cur.setIfInBounds (off + i * 2 + 1) (.int .u64 u), by simpa using ha.symm, hg, heap_setCell_same w g _ cur _ _ hh, by simpa using hs, ?_⟩⟩
  rw [List.length_set, all_setVal xs i hi u, ← ht, Array.toList_setIfInBounds, List.drop_set, if_neg (by omega), List.take_set]
  congr 1
  omega

/-- the slice of a book, and the place of a key that is there -/
structure At (b : Nat) (cap : Int) (xs : List PairD) (S : Nat → Prop) (key : Int) (w : World) (g off c : Nat) (old : Int) : Prop where
  hb : w.heap[b]? = some (.cells #[.int .i64 cap, .slice (some ⟨g, off, none⟩) xs.length c] 69 (0, 0))
  hw : Ow ePair 0 46 w (.slice (some ⟨g, off, none⟩) xs.length c) xs
  hS : S b
  hgS : S g
  hne : g ≠ b
  lt : posP xs key < xs.length
  kk : ∀ h, (xs[posP xs key]'h).1 = key
  oldv : oldP xs key = old
  val : w.cell? ⟨g, off + posP xs key * 2 + 1, none⟩ = some (.int .u64 old)
  frz : w.frozen? ⟨g, off + posP xs key * 2 + 1, none⟩ = false
theorem at_of {b : Nat} {cap : Int} {xs : List PairD} {S : Nat → Prop} {key : Int} {w : World} (H : BookS b cap xs S w) (hr : Rising xs) (hf : hasP xs key = true) : ∃ g off c old, At b cap xs S key w g off c old := by
  obtain ⟨v, hg, hown, hS, hvS⟩ := H
  obtain ⟨hlt, hk⟩ := posP_lt hr hf
  obtain ⟨g, off, c, rfl⟩ := hown.some_ (by omega)
  have hne := row_ne hg hown (by decide)
  obtain ⟨g', off', hgo, _, hat⟩ := hown.at_ (posP xs key) hlt
  obtain ⟨rfl, rfl⟩ : g = g' ∧ off = off' := by simpa using hgo
  have hv := (hat 1 (by decide)).1
  have hz := (hat 1 (by decide)).2
  rw [← Nat.add_assoc] at hv hz
  refine ⟨g, off, c, (xs[posP xs key]'hlt).2, hg, hown, hS, hvS g rfl, fun h => hne (by simp [Value.ownBlock, h]), hlt, hk, ?_, hv, hz⟩
  unfold oldP; rw [hf, if_pos rfl, List.getD_eq_getElem?_getD, List.getElem?_eq_getElem hlt]; rfl
theorem At.on {b : Nat} {cap : Int} {xs : List PairD} {S : Nat → Prop} {key : Int} {w w' : World} {g off c : Nat} {old : Int} (A : At b cap xs S key w g off c old) (ho : Only (fun _ => False) w w') : At b cap xs S key w' g off c old :=
  ⟨ho.heap A.hb (fun h => h), A.hw.only ho (fun _ _ h => h), A.hS, A.hgS, A.hne, A.lt, A.kk, A.oldv,
    ((ho.below (Nat.le_refl _) (fun _ h => h.elim)).cell (p := ⟨g, off + posP xs key * 2 + 1, none⟩) (World.block_lt_of_cell? w _ A.val)).trans A.val,
    ((ho.below (Nat.le_refl _) (fun _ h => h.elim)).frozen (p := ⟨g, off + posP xs key * 2 + 1, none⟩) (World.block_lt_of_cell? w _ A.val)).trans A.frz⟩

set_option maxRecDepth 100000 in
set_option maxHeartbeats 2000000 in
theorem do_get_yes (b : Nat) (cap : Int) (xs : List PairD) (S : Nat → Prop) (key val : Int) (w : World) (H : BookS b cap xs S w) (G : Good cap xs) (hf : hasP xs key = true) :
    Calls Try.prog 16 #[.pointer (some ⟨b, 0, none⟩), .int .i64 0, .int .u64 key, .int .u64 val] w (DoPost b S cap w (resF true (oldP xs key), xs)) := by
  obtain ⟨g, off, c, old, A⟩ := at_of H G.rising hf
  have H0 := Lib.hid H
  have HB := Lib.hid (BookS.framed.alloc H0.out (.cells #[.int .i64 0, .bool false, .int .u64 0, .bool false, .int .u64 0, .int .u64 0] 35))
  have HFI := Lib.hid (find_any b cap xs S key _ HB.out G.rising (by have := G.len; have := G.hi; omega))
  rw [hf] at HFI
  rw [A.oldv]
  have HA := Lib.hid A
  clear H G hf A
  go_enter Try.func16, Try.ntmps16
  go_wp2_with fail
  refine HFI.out.mono ?_
  rintro e w1 ⟨rfl, ho⟩
  have HR8 := Lib.hid (ho.heap (heap_alloc_new w _) (fun h => h))
  have HO := Lib.hid ((Only.alloc (fun _ => False) w _).tr ho)
  have A1 := HA.out.on HO.out
  have c1 := cells_of_heap A1.hb 1 (.slice (some ⟨g, off, none⟩) xs.length c) rfl
  have c2 := A1.val
  have hp := A1.lt
  have hlb := heap_lt A1.hb
  have hlg := World.block_lt_of_cell? w1 _ A1.val
  dsimp only at hlg
  clear ho A1
  generalize posP xs key = p at *
  have hi0 : (0 : Int) ≤ (p : Int) := by omega
  have hi1 : (p : Int) < (xs.length : Int) := by omega
  go_wp2_with (refine wpList_store_row rfl 35 (.tmp 8) (.tmp 105) rfl w.heap.size _ rfl rfl 35 _ (heap_alloc HR8.out) (by kernel_rfl) rfl (res_one _ _ _ _ _ _) ?_)
  refine bodyPost_ret (results_cell_row rfl _ _ w.heap.size _ _ _ _ rfl (setRow_heap _ _ _ _ _ _ (heap_alloc HR8.out)) Try.underlying35 rfl (by kernel_rfl)) rfl ?_
  exact ⟨rfl, do_ro H0.out (only_row (HO.out.tr (Only.alloc _ _ _)).wide _ _ (.inr (Nat.le_refl _)))⟩
end Go.Proofs.Ytodacnpbhlkoiaa
