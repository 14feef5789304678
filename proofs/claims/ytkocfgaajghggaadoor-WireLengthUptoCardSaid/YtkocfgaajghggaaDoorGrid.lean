/- Stores into owned slices; slices of slices. -/
import Derived.Test.YtkocfgaajghggaaDoorBase
namespace Go.Proofs.YtkocfgaajghggaaDoor
open Go.RowKit
set_option linter.unusedVariables false

section
variable {α : Type} {E : Enc α}
theorem Enc.all_set (E : Enc α) (xs : List α) (i : Nat) (x : α) (h : i < xs.length) : E.all (xs.set i x) = (E.all xs).take (i * E.size) ++ E.cells x ++ (E.all xs).drop (i * E.size + E.size) := by
  rw [List.set_eq_take_append_cons_drop, if_pos h, Enc.all_append, Enc.all_cons, E.all_take, E.all_drop, List.append_assoc, Nat.add_mul, Nat.one_mul]
theorem splice_take {β : Type} (l us : List β) (o a s N : Nat) (h : a + s ≤ N) (hus : us.length = s) (ho : o + N ≤ l.length) :
    ((l.take (o + a) ++ us ++ l.drop (o + a + s)).drop o).take N = ((l.drop o).take N).take a ++ us ++ ((l.drop o).take N).drop (a + s) := by
  have e1 : (l.take (o + a)).drop o = (l.drop o).take a := by rw [List.drop_take, show o + a - o = a by omega]
  have e2 : l.drop (o + a + s) = (l.drop o).drop (a + s) := by rw [List.drop_drop, Nat.add_assoc]
  have e3 : (l.take (o + a)).length = o + a := by simp; omega
  rw [List.append_assoc, List.drop_append_of_le_length (by omega), e1, e2]
  obtain ⟨d, hd⟩ : ∃ d, d = l.drop o := ⟨_, rfl⟩
  rw [← hd]
  have hdl : N ≤ d.length := by rw [hd]; simp; omega
  have e4 : (d.take a).length = a := by simp; omega
  rw [List.take_take, Nat.min_eq_left (by omega), List.take_append, e4, List.take_of_length_le (l := d.take a) (by omega), List.take_append, hus, List.take_of_length_le (l := us) (by omega), List.drop_take, List.append_assoc, Nat.sub_sub]
/-- one element is written -/
theorem Ow.store {w : World} {base e : Nat} {g off n cap : Nat} {xs : List α} (h : Ow E base e w (.slice (some ⟨g, off, none⟩) n cap) xs) (i : Nat) (hi : i < xs.length) (x : α) :
    Ow E base e (w.setCells g (off + i * E.size) (E.cells x)) (.slice (some ⟨g, off, none⟩) n cap) (xs.set i x) := by
  obtain ⟨hn, ao', cap', he, hlc, hcm, hnone, hx⟩ := h
  obtain ⟨rfl, rfl, rfl⟩ : some ⟨g, off, none⟩ = ao' ∧ n = xs.length ∧ cap = cap' := by simpa using he
  obtain ⟨g', off', cur, hgo, hg, hh, hs, ht⟩ := hx _ rfl
  obtain ⟨rfl, rfl⟩ : g = g' ∧ off = off' := by simpa using hgo
  have h1 : (i + 1) * E.size ≤ xs.length * E.size := Nat.mul_le_mul_right _ hi
  have h2 : xs.length * E.size ≤ cap * E.size := Nat.mul_le_mul_right _ hlc
  rw [Nat.add_mul, Nat.one_mul] at h1
  obtain ⟨cur', c1, c2, c3⟩ := setCells_row (off := off + i * E.size) (E.cells x) hh (by rw [E.len]; omega)
  refine ⟨by simpa using hn, some ⟨g, off, none⟩, cap, by simp, by simpa using hlc, hcm, fun h => by simp at h, fun a ha => ⟨g, off, cur', by simpa using ha.symm, hg, c1, by omega, ?_⟩⟩
  rw [E.all_set _ _ _ hi, ← ht, c3, E.len, List.length_set]
  exact splice_take _ _ _ _ _ _ (by omega) (E.len x) (by simp; omega)
end

/-- a slice's value in parts -/
abbrev SV := Option Addr × Nat × Nat
def SV.val (p : SV) : Value := .slice p.1 p.2.1 p.2.2
def eSl : Enc SV := ⟨1, by omega, fun p => [p.val], fun _ => rfl, fun x u h => by simp at h; subst h; rfl⟩
theorem eSl_at (xs : List SV) (i : Nat) (h : i < xs.length) : (eSl.all xs)[i]? = some xs[i].val := by
  have := eSl.all_at xs i 0 h (by decide)
  simpa [eSl] using this
theorem Ow.sv {α : Type} {E : Enc α} {w : World} {base e : Nat} {v : Value} {xs : List α} (h : Ow E base e w v xs) : ∃ p : SV, v = p.val := by
  obtain ⟨_, ao, cap, rfl, _⟩ := h
  exact ⟨(ao, xs.length, cap), rfl⟩

/-- n lists, each in memory of its own -/
def Grid {α : Type} (E : Enc α) (base tyo tyi : Nat) (w : World) (v : Value) (n : Nat) (L : Nat → List α) : Prop :=
  ∃ vs : Nat → SV, Ow eSl base tyo w v ((List.range n).map vs) ∧ (∀ s, s < n → Ow E base tyi w (vs s).val (L s)) ∧
    ∀ s t, s < n → t < n → s ≠ t → (vs s).val.ownBlock = none ∨ (vs s).val.ownBlock ≠ (vs t).val.ownBlock

section
variable {α : Type} {E : Enc α} {base tyo tyi : Nat} {w : World} {v : Value} {n : Nat} {L : Nat → List α}
theorem Grid.grow {w' : World} (h : Grid E base tyo tyi w v n L) (hb : Below w.heap.size w w') : Grid E base tyo tyi w' v n L := by
  obtain ⟨vs, h1, h2, h3⟩ := h
  exact ⟨vs, h1.grow hb, fun s hs => (h2 s hs).grow hb, h3⟩
theorem Grid.mono {base' : Nat} (h : Grid E base tyo tyi w v n L) (hb : base' ≤ base) : Grid E base' tyo tyi w v n L := by
  obtain ⟨vs, h1, h2, h3⟩ := h
  exact ⟨vs, h1.mono hb, fun s hs => (h2 s hs).mono hb, h3⟩
/-- a list is read out of it -/
theorem Grid.at_ (h : Grid E base tyo tyi w v n L) {ao : Option Addr} {m cap : Nat} (hv : v = .slice ao m cap) : m = n ∧ ∀ s, s < n →
    ∃ g off, ∃ p : SV, ao = some ⟨g, off, none⟩ ∧ base ≤ g ∧ w.cell? ⟨g, off + s, none⟩ = some p.val ∧ w.frozen? ⟨g, off + s, none⟩ = false ∧ Ow E base tyi w p.val (L s) := by
  obtain ⟨vs, h1, h2, h3⟩ := h
  subst hv
  refine ⟨?_, fun s hs => ?_⟩
  · obtain ⟨_, _, _, he, _⟩ := h1
    have : m = ((List.range n).map vs).length := by simp at he; simp [he]
    simpa using this
  · obtain ⟨g, off, hao, hg, hc⟩ := h1.at_ s (by simpa using hs)
    have := hc 0 (by decide)
    refine ⟨g, off, vs s, hao, hg, ?_, ?_, h2 s hs⟩
    · simpa [eSl] using this.1
    · simpa [eSl] using this.2
theorem Grid.outer {g off m cap : Nat} {s : Nat} {p : SV} (hty : tyo ≠ tyi)
    (h : Grid E base tyo tyi w (.slice (some ⟨g, off, none⟩) m cap) n L) (hs : s < n) (hp : w.cell? ⟨g, off + s, none⟩ = some p.val) :
    some g ≠ p.val.ownBlock ∧ g < w.heap.size := by
  obtain ⟨vs, h1, h2, h3⟩ := h
  have hat : (vs s).val = p.val := by
    obtain ⟨g', off', hao, _, hc⟩ := h1.at_ s (by simpa using hs)
    obtain ⟨rfl, rfl⟩ : g = g' ∧ off = off' := by simpa using hao
    have := (hc 0 (by decide)).1
    simp [eSl] at this
    rw [hp] at this
    exact (Option.some.inj this).symm
  obtain ⟨curo, ho⟩ := h1.type (g := g) rfl
  refine ⟨fun e => ?_, (Array.getElem?_eq_some_iff.1 ho).1⟩
  rw [← hat] at e
  obtain ⟨c, hc⟩ := (h2 s hs).type e.symm
  rw [ho] at hc; simp at hc; exact hty hc.2
/-- a list in it has been replaced by what append made of it -/
theorem Grid.put {w2 : World} {g off m cap : Nat} {s : Nat} {p p' : SV} {l : List α} (hty : tyo ≠ tyi)
    (h : Grid E base tyo tyi w (.slice (some ⟨g, off, none⟩) m cap) n L) (hs : s < n)
    (hp : w.cell? ⟨g, off + s, none⟩ = some p.val) (h' : Ow E base tyi w2 p'.val l) (hg : w.grownBy w2 p.val.ownBlock)
    (hf : p'.val.ownBlock = p.val.ownBlock ∨ ∀ k, p'.val.ownBlock = some k → w.heap.size ≤ k) :
    Grid E base tyo tyi (w2.setCell ⟨g, off + s, none⟩ p'.val) (.slice (some ⟨g, off, none⟩) m cap) n (fun t => if t = s then l else L t) := by
  obtain ⟨vs, h1, h2, h3⟩ := h
  have hat : (vs s).val = p.val := by
    obtain ⟨g', off', hao, _, hc⟩ := h1.at_ s (by simpa using hs)
    obtain ⟨rfl, rfl⟩ : g = g' ∧ off = off' := by simpa using hao
    have := (hc 0 (by decide)).1
    simp [eSl] at this
    rw [hp] at this
    exact (Option.some.inj this).symm
  obtain ⟨curo, ho⟩ := h1.type (g := g) rfl
  have hgs : g < w.heap.size := (Array.getElem?_eq_some_iff.1 ho).1
  have hne : ∀ t, t < n → (vs t).val.ownBlock ≠ some g := by
    intro t ht e
    obtain ⟨c, hc⟩ := (h2 t ht).type e
    rw [ho] at hc; simp at hc; exact hty hc.2
  have h1' : Ow eSl base tyo w2 (.slice (some ⟨g, off, none⟩) m cap) ((List.range n).map vs) :=
    h1.grown hg (.inr (by rw [← hat]; exact fun e => hne s hs e.symm))
  have hne' : p'.val.ownBlock ≠ some g := by
    intro e
    rcases hf with hf | hf
    · rw [hf, ← hat] at e; exact hne s hs e
    · have := hf _ e; omega
  have hkeep : ∀ (q : Value) (xs : List α), Ow E base tyi w2 q xs → q.ownBlock ≠ some g → Ow E base tyi (w2.setCell ⟨g, off + s, none⟩ p'.val) q xs :=
    fun q xs hq hqg => hq.kept fun k hk => Below.heap_setCell _ _ _ _ (by rintro rfl; exact hqg hk)
  refine ⟨fun t => if t = s then p' else vs t, ?_, fun t ht => ?_, fun t u ht hu htu => ?_⟩
  · have := h1'.store s (by simpa using hs) p'
    have e : ((List.range n).map vs).set s p' = (List.range n).map fun t => if t = s then p' else vs t := by
      apply List.ext_getElem
      · simp
      · intro i hi1 hi2
        simp only [List.getElem_set, List.getElem_map, List.getElem_range]
        by_cases hi : s = i
        · subst hi; simp
        · rw [if_neg hi, if_neg (fun h => hi h.symm)]
    rw [e] at this
    simpa [eSl, World.setCells] using this
  · by_cases e : t = s
    · subst e; simp only [if_true]; exact hkeep _ _ h' hne'
    · simp only [if_neg e]
      exact hkeep _ _ ((h2 t ht).grown hg (by rw [← hat]; exact h3 t s ht hs e)) (hne t ht)
  · have hfr : ∀ t, t < n → t ≠ s → (vs t).val.ownBlock = none ∨ (vs t).val.ownBlock ≠ p'.val.ownBlock := by
      intro t ht e
      rcases hf with hf | hf
      · rw [hf, ← hat]; exact h3 t s ht hs e
      · cases hb : (vs t).val.ownBlock with
        | none => exact .inl rfl
        | some k =>
          right; intro e2
          have := hf k e2.symm
          have := ((h2 t ht).lt hb).2
          omega
    by_cases et : t = s
    · by_cases eu : u = s
      · omega
      · simp only [if_pos et, if_neg eu]
        rcases hfr u hu eu with h | h
        · cases hb : p'.val.ownBlock with
          | none => exact .inl rfl
          | some k => right; rw [h]; simp
        · exact .inr (fun e => h e.symm)
    · by_cases eu : u = s
      · simp only [if_neg et, if_pos eu]; exact hfr t ht et
      · simp only [if_neg et, if_neg eu]; exact h3 t u ht hu htu
/-- one list more -/
theorem grid_push {v' : Value} {w2 : World} (hty : tyo ≠ tyi) {vs : Nat → SV} (h1 : Ow eSl base tyo w v ((List.range n).map vs)) (h2 : ∀ s, s < n → Ow E base tyi w (vs s).val (L s))
    (h3 : ∀ s t, s < n → t < n → s ≠ t → (vs s).val.ownBlock = none ∨ (vs s).val.ownBlock ≠ (vs t).val.ownBlock)
    {p : SV} {l : List α} (hp : Ow E base tyi w p.val l) (hd : ∀ t, t < n → (vs t).val.ownBlock = none ∨ (vs t).val.ownBlock ≠ p.val.ownBlock)
    (h1' : Ow eSl base tyo w2 v' ((List.range n).map vs ++ [p])) (hg : w.grownBy w2 v.ownBlock) : Grid E base tyo tyi w2 v' (n + 1) (fun s => if s = n then l else L s) := by
  have hk : ∀ (q : Value) (xs : List α), Ow E base tyi w q xs → Ow E base tyi w2 q xs := by
    intro q xs hq
    refine hq.kept fun g hqg => hg.block g (hq.lt hqg).2 (fun e => ?_)
    obtain ⟨c1, e1⟩ := hq.type hqg
    obtain ⟨c2, e2⟩ := h1.type e.symm
    rw [e1] at e2; simp at e2; exact hty e2.2.symm
  refine ⟨fun s => if s = n then p else vs s, ?_, fun s hs => ?_, fun s t hs ht hst => ?_⟩
  · have e : (List.range (n + 1)).map (fun s => if s = n then p else vs s) = (List.range n).map vs ++ [p] := by
      rw [List.range_succ, List.map_append]
      congr 1
      · apply List.map_congr_left
        intro a ha
        rw [if_neg (by have := List.mem_range.1 ha; omega)]
      · simp
    rw [e]; exact h1'
  · by_cases e : s = n
    · simp only [if_pos e]; exact hk _ _ hp
    · simp only [if_neg e]; exact hk _ _ (h2 s (by omega))
  · by_cases es : s = n
    · by_cases et : t = n
      · omega
      · simp only [if_pos es, if_neg et]
        rcases hd t (by omega) with h | h
        · cases hb : p.val.ownBlock with
          | none => exact .inl rfl
          | some k => right; rw [h]; simp
        · exact .inr (fun e => h e.symm)
    · by_cases et : t = n
      · simp only [if_neg es, if_pos et]; exact hd s (by omega)
      · simp only [if_neg es, if_neg et]; exact h3 s t (by omega) (by omega) hst
/-- a list is read out of it, its value in parts -/
theorem Grid.get (h : Grid E base tyo tyi w v n L) {vo : Option Addr} {m cap : Nat} (hv : v = .slice vo m cap) {s : Nat} (hs : s < n) :
    ∃ g off ao c, vo = some ⟨g, off, none⟩ ∧ w.cell? ⟨g, off + s, none⟩ = some (.slice ao (L s).length c) ∧ w.frozen? ⟨g, off + s, none⟩ = false ∧ Ow E base tyi w (.slice ao (L s).length c) (L s) := by
  obtain ⟨g, off, p, h1, _, h2, h3, h4⟩ := (h.at_ hv).2 s hs
  have h4' := h4
  obtain ⟨_, ao, c, he, _⟩ := h4
  rw [he] at h2 h4'
  exact ⟨g, off, ao, c, h1, h2, h3, h4'⟩
/-- a place of a list in it is written -/
theorem Grid.storeAt {g off m cap : Nat} {s : Nat} {gi oi c : Nat} (hty : tyo ≠ tyi)
    (h : Grid E base tyo tyi w (.slice (some ⟨g, off, none⟩) m cap) n L) (hs : s < n)
    (hp : w.cell? ⟨g, off + s, none⟩ = some (.slice (some ⟨gi, oi, none⟩) (L s).length c)) (i : Nat) (hi : i < (L s).length) (x : α) :
    Grid E base tyo tyi (w.setCells gi (oi + i * E.size) (E.cells x)) (.slice (some ⟨g, off, none⟩) m cap) n (fun t => if t = s then (L s).set i x else L t) := by
  obtain ⟨vs, h1, h2, h3⟩ := h
  have hat : (vs s).val = .slice (some ⟨gi, oi, none⟩) (L s).length c := by
    obtain ⟨g', off', hao, _, hc⟩ := h1.at_ s (by simpa using hs)
    obtain ⟨rfl, rfl⟩ : g = g' ∧ off = off' := by simpa using hao
    have := (hc 0 (by decide)).1
    simp [eSl] at this
    rw [hp] at this
    exact (Option.some.inj this).symm
  have hob : (vs s).val.ownBlock = some gi := by rw [hat]; rfl
  obtain ⟨curo, ho⟩ := h1.type (g := g) rfl
  have hgi : gi ≠ g := by
    rintro rfl
    obtain ⟨c, hc⟩ := (h2 s hs).type hob
    rw [ho] at hc; simp at hc; exact hty hc.2
  have hgr := grownBy_setCells w gi (oi + i * E.size) (E.cells x)
  refine ⟨vs, h1.grown hgr (.inr (by intro e; exact hgi (Option.some.inj e).symm)), fun t ht => ?_, h3⟩
  by_cases e : t = s
  · subst e
    simp only [if_true]
    have := h2 t ht
    rw [hat] at this ⊢
    exact this.store i hi x
  · simp only [if_neg e]
    exact (h2 t ht).grown hgr (by rw [← hob]; exact h3 t s ht hs e)
end
end Go.Proofs.YtkocfgaajghggaaDoor
