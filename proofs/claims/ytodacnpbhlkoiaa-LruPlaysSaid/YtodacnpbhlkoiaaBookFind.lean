/- book: the comparer of find; slices.BinarySearchFunc over pairs; find. -/
import Derived.Test.YtodacnpbhlkoiaaInsert3
namespace Go.Proofs.Ytodacnpbhlkoiaa
open Go.RowKit
set_option linter.unusedVariables false
set_option linter.unusedSimpArgs false

def cmpK (a b : Int) : Int := if a < b then -1 else if b < a then 1 else 0
theorem cmp_any (p0 p1 k : Int) (c : Int) (hc : cmpK p0 k = c) (w : World) :
    Calls Try.prog 40 #[.agg #[.int .u64 p0, .int .u64 p1], .int .u64 k] w fun e w' => e = .returned (.int .i64 c) ∧ Only (fun _ => False) w w' := by
  subst hc
  by_cases h1 : p0 < k
  · have HC := Lib.hid (show cmpK p0 k = -1 from if_pos h1)
    go_enter Try.func40, Try.ntmps40
    go_wp2_with fail
    go_ret
    exact ⟨by rw [HC.out]; rfl, Only.alloc _ _ _⟩
  · by_cases h2 : k < p0
    · have HC := Lib.hid (show cmpK p0 k = 1 by unfold cmpK; rw [if_neg h1, if_pos h2])
      go_enter Try.func40, Try.ntmps40
      go_wp2_with fail
      go_ret
      exact ⟨by rw [HC.out]; rfl, Only.alloc _ _ _⟩
    · have HC := Lib.hid (show cmpK p0 k = 0 by unfold cmpK; rw [if_neg h1, if_neg h2])
      go_enter Try.func40, Try.ntmps40
      go_wp2_with fail
      go_ret
      exact ⟨by rw [HC.out]; rfl, Only.alloc _ _ _⟩

/-- the keys rise -/
def Rising (xs : List PairD) : Prop := ∀ (i j : Nat) (hi : i < xs.length) (hj : j < xs.length), i < j → xs[i].1 < xs[j].1
/-- the key's place -/
def posP (xs : List PairD) (k : Int) : Nat := xs.findIdx fun p => decide (k ≤ p.1)
def hasP (xs : List PairD) (k : Int) : Bool := xs.any fun p => p.1 == k
theorem posP_le (xs : List PairD) (k : Int) : posP xs k ≤ xs.length := List.findIdx_le_length
theorem posP_of {xs : List PairD} {k : Int} {i : Nat} (hi : i ≤ xs.length) (h1 : ∀ a (h : a < xs.length), a < i → xs[a].1 < k) (h2 : ∀ (h : i < xs.length), k ≤ xs[i].1) : posP xs k = i := by
  unfold posP
  by_cases hlt : i < xs.length
  · exact (List.findIdx_eq hlt).2 ⟨by simpa using h2 hlt, fun j hj => by have := h1 j (by omega) hj; simpa using this⟩
  · obtain rfl : i = xs.length := by omega
    rw [List.findIdx_eq_length]
    intro x hx
    obtain ⟨a, ha, rfl⟩ := List.getElem_of_mem hx
    have := h1 a ha ha
    simpa using this
theorem hasP_at {xs : List PairD} {k : Int} {i : Nat} (hr : Rising xs) (h1 : ∀ a (h : a < xs.length), a < i → xs[a].1 < k) (hlt : i < xs.length) (h2 : k ≤ xs[i].1) : hasP xs k = (xs[i].1 == k) := by
  rw [Bool.eq_iff_iff]
  unfold hasP
  rw [List.any_eq_true]
  constructor
  · rintro ⟨p, hp, he⟩
    obtain ⟨a, ha, rfl⟩ := List.getElem_of_mem hp
    have hk : xs[a].1 = k := by simpa using he
    by_cases hai : a < i
    · have := h1 a ha hai; omega
    · by_cases hia : i < a
      · have := hr i a hlt ha hia; omega
      · obtain rfl : a = i := by omega
        exact he
  · intro h; exact ⟨xs[i], List.getElem_mem _, h⟩
theorem hasP_end {xs : List PairD} {k : Int} (h1 : ∀ a (h : a < xs.length), xs[a].1 < k) : hasP xs k = false := by
  unfold hasP
  rw [List.any_eq_false]
  intro x hx
  obtain ⟨a, ha, rfl⟩ := List.getElem_of_mem hx
  have := h1 a ha
  simp; omega

theorem pair_cells {w : World} {b off : Nat} {xs : List PairD} (hc : ∀ j u, (ePair.all xs)[j]? = some u → w.cell? ⟨b, off + j, none⟩ = some u) (k : Nat) (h : k < xs.length) :
    w.cell? ⟨b, off + k * 2, none⟩ = some (.int .u64 xs[k].1) ∧ w.cell? ⟨b, off + k * 2 + 1, none⟩ = some (.int .u64 xs[k].2) := by
  refine ⟨?_, ?_⟩
  · have := hc (k * 2) _ ((ePair.all_at xs k 0 h (by decide)).trans rfl); exact this
  · have := hc (k * 2 + 1) _ ((ePair.all_at xs k 1 h (by decide)).trans rfl); rw [← Nat.add_assoc] at this; exact this
theorem Rd.only {α : Type} {E : Enc α} {w w' : World} {v : Value} {xs : List α} (h : Rd E w v xs) (ho : Only (fun _ => False) w w') : Rd E w' v xs := h.grow (ho.below (Nat.le_refl _) fun _ h => h.elim)
theorem cells_of_heap {w : World} {g : Nat} {cs : Array Value} {t : TypeId} {fr : Nat × Nat} (h : w.heap[g]? = some (.cells cs t fr)) (i : Nat) (v : Value) (hv : cs[i]? = some v) : w.cell? ⟨g, i, none⟩ = some v := by
  rw [cell_of_row w g i cs t fr h]; exact hv
def LowTo (xs : List PairD) (k : Int) (i : Nat) : Prop := ∀ a (h : a < xs.length), a < i → xs[a].1 < k
def HighFrom (xs : List PairD) (k : Int) (j : Nat) : Prop := ∀ a (h : a < xs.length), j ≤ a → k ≤ xs[a].1

set_option maxHeartbeats 2000000 in
theorem bsearch_any (xs : List PairD) (v : Value) (k : Int) (w : World) (hr : Rd ePair w v xs) (hs : Rising xs) (hn : xs.length ≤ 1000) :
    Calls Try.prog 39 #[v, .int .u64 k, .func (.func 40) #[] #[]] w fun e w' => e = .returned (.tuple #[.int .i64 (posP xs k : Nat), .bool (hasP xs k)]) ∧ Only (fun _ => False) w w' := by
  have HRd := Lib.hid hr
  have HS := Lib.hid hs
  obtain ⟨_, ao, cap, rfl, _, _, _⟩ := hr
  clear hs
  go_enter Try.func39, Try.ntmps39
  go_wp2_with fail
  go_loopw [9, 10, 11] (fun t9 t10 _ wr => ∃ i j : Nat, i ≤ j ∧ j ≤ xs.length ∧ t9 = .int .i64 i ∧ t10 = .int .i64 j ∧ LowTo xs k i ∧ HighFrom xs k j ∧ Only (fun _ => False) w wr) (fun t9 t10 _ _ => (intOf t10).toNat - (intOf t9).toNat)
  case atStart => exact ⟨0, xs.length, by omega, by omega, rfl, rfl, fun a _ h => by omega, fun a h1 h2 => by omega, Only.refl _ _⟩
  case round =>
    obtain ⟨i, j, hij, hj, rfl, rfl, hlow, hhigh, ho⟩ := hrel
    have HL := Lib.hid hlow
    have HH := Lib.hid hhigh
    have HO := Lib.hid ho
    clear hlow hhigh ho
    by_cases hlt : i < j
    · obtain ⟨h, hh⟩ : ∃ h, h = (i + j) / 2 := ⟨_, rfl⟩
      have hh1 : i ≤ h := by omega
      have hh2 : h < j := by omega
      obtain ⟨_, ao', cap', hao, _, _, hx⟩ := HRd.out.only HO.out
      obtain ⟨rfl, _, rfl⟩ : ao = ao' ∧ xs.length = xs.length ∧ cap = cap' := by simpa using hao
      obtain ⟨b, off, rfl, hc⟩ := hx (by omega)
      obtain ⟨p0, p1, HP0, c0', c1'⟩ : ∃ p0 p1, Hid (∀ hl : h < xs.length, xs[h].1 = p0) ∧ wr.cell? ⟨b, off + h * 2, none⟩ = some (.int .u64 p0) ∧ wr.cell? ⟨b, off + h * 2 + 1, none⟩ = some (.int .u64 p1) :=
        ⟨_, _, Lib.hid (fun _ => rfl), (pair_cells hc h (by omega)).1, (pair_cells hc h (by omega)).2⟩
      have c0 : wr.cell? ⟨b, off + (i + j) / 2 * 2, none⟩ = some (.int .u64 p0) := by rw [← hh]; exact c0'
      have c1 : wr.cell? ⟨b, off + (i + j) / 2 * 2 + 1, none⟩ = some (.int .u64 p1) := by rw [← hh]; exact c1'
      clear c0' c1'
      have HHH := Lib.hid hh
      have b1 : (0 : Int) ≤ ((i : Int) + (j : Int)) / 2 := by omega
      have b2 : ((i : Int) + (j : Int)) / 2 < (xs.length : Int) := by omega
      have b3 : (i + j) / 2 < xs.length := by omega
      clear hc hx hao hh
      by_cases hcmp : p0 < k
      · have HL2 := Lib.hid (show LowTo xs k (h + 1) from fun a ha hlt => by
          by_cases e : a = h
          · subst e; rw [HP0.out ha]; exact hcmp
          · have := HS.out a h ha (by omega) (by omega)
            rw [HP0.out (by omega)] at this; omega)
        have HC := Lib.hid (show cmpK p0 k = -1 from if_pos hcmp)
        go_wp2_with (go_at_call 40; refine (cmp_any p0 p1 k _ HC.out _).mono ?_; rintro e w2 ⟨rfl, ho2⟩)
        have HO2 := Lib.hid (HO.out.tr ho2)
        go_roundw
        case rel => exact ⟨h + 1, j, by omega, by omega, by rw [HHH.out]; go_num, rfl, HL2.out, HH.out, HO2.out⟩
        case measure => simp [intOf]; omega
      · have HH2 := Lib.hid (show HighFrom xs k h from fun a ha hle => by
          by_cases e : a = h
          · subst e; rw [HP0.out ha]; omega
          · have := HS.out h a (by omega) ha (by omega)
            rw [HP0.out (by omega)] at this; omega)
        obtain ⟨c, hc, hc0⟩ : ∃ c, cmpK p0 k = c ∧ ¬ c < 0 := ⟨_, rfl, by unfold cmpK; rw [if_neg hcmp]; split <;> omega⟩
        have HC := Lib.hid hc
        clear hc
        go_wp2_with (go_at_call 40; refine (cmp_any p0 p1 k _ HC.out _).mono ?_; rintro e w2 ⟨rfl, ho2⟩)
        have HO2 := Lib.hid (HO.out.tr ho2)
        go_roundw
        case rel => exact ⟨i, h, by omega, by omega, rfl, by rw [HHH.out]; go_num, HL.out, HH2.out, HO2.out⟩
        case measure => simp [intOf]; omega
    · obtain rfl : i = j := by omega
      have HPOS := Lib.hid (posP_of hj HL.out (fun hl => HH.out i hl (Nat.le_refl _)))
      by_cases hin : i < xs.length
      · obtain ⟨_, ao', cap', hao, _, _, hx⟩ := HRd.out.only HO.out
        obtain ⟨rfl, _, rfl⟩ : ao = ao' ∧ xs.length = xs.length ∧ cap = cap' := by simpa using hao
        obtain ⟨b, off, rfl, hc⟩ := hx (by omega)
        obtain ⟨c0, c1⟩ := pair_cells hc i hin
        have HHAS := Lib.hid (hasP_at HS.out HL.out hin (HH.out i hin (Nat.le_refl _)))
        have b1 : (0 : Int) ≤ (i : Int) := by omega
        have b2 : (i : Int) < (xs.length : Int) := by omega
        clear hc hx hao
        have hge := HH.out i hin (Nat.le_refl _)
        have HHA2 := Lib.hid (show hasP xs k = (xs[i].1 == k) from HHAS.out)
        clear HHAS
        generalize xs[i].1 = p0 at *
        generalize xs[i].2 = p1 at *
        by_cases hk : p0 = k
        · have HC := Lib.hid (show cmpK p0 k = 0 by unfold cmpK; rw [if_neg (by omega), if_neg (by omega)])
          have HE := Lib.hid (show hasP xs k = true by rw [HHA2.out]; simpa using hk)
          clear hk
          go_wp2_with (go_at_call 40; refine (cmp_any p0 p1 k _ HC.out _).mono ?_; rintro e w2 ⟨rfl, ho2⟩)
          go_ret2
          exact ⟨by rw [HPOS.out, HE.out]; rfl, HO.out.tr ho2⟩
        · have HC := Lib.hid (show cmpK p0 k = 1 by unfold cmpK; rw [if_neg (by omega), if_pos (by omega)])
          have HE := Lib.hid (show hasP xs k = false by rw [HHA2.out]; simpa using hk)
          clear hk
          go_wp2_with (go_at_call 40; refine (cmp_any p0 p1 k _ HC.out _).mono ?_; rintro e w2 ⟨rfl, ho2⟩)
          go_ret2
          exact ⟨by rw [HPOS.out, HE.out]; rfl, HO.out.tr ho2⟩
      · have HE := Lib.hid (hasP_end (xs := xs) (k := k) (fun a ha => HL.out a ha (by omega)))
        go_wp2_with fail
        go_ret2
        exact ⟨by rw [HPOS.out, HE.out]; rfl, HO.out⟩

/-- a book: its room, its pairs -/
def BookS (b : Nat) (cap : Int) (xs : List PairD) (S : Nat → Prop) (w : World) : Prop := Obj1 ePair 69 46 (fun v => #[.int .i64 cap, v]) b xs S w
theorem BookS.framed {b : Nat} {cap : Int} {xs : List PairD} : Framed (BookS b cap xs) := Obj1.framed
theorem find_any (b : Nat) (cap : Int) (xs : List PairD) (S : Nat → Prop) (k : Int) (w : World) (H : BookS b cap xs S w) (hs : Rising xs) (hn : xs.length ≤ 1000) :
    Calls Try.prog 30 #[.pointer (some ⟨b, 0, none⟩), .int .u64 k] w fun e w' => e = .returned (.tuple #[.int .i64 (posP xs k : Nat), .bool (hasP xs k)]) ∧ Only (fun _ => False) w w' := by
  obtain ⟨v, hg, hown, _, _⟩ := H
  have c1 := cells_of_heap hg 1 v rfl
  have HB := Lib.hid (bsearch_any xs v k w hown.rd hs hn)
  clear hg hown hs
  go_enter Try.func30, Try.ntmps30
  go_wp2_with fail
  refine HB.out.mono ?_
  rintro e w2 ⟨rfl, ho⟩
  go_wp2_with fail
  go_ret2
  exact ⟨rfl, ho⟩
end Go.Proofs.Ytodacnpbhlkoiaa
