/- the chapters below, merged: MC -/
import Derived.Test.YtdlkblklfoagbaaMB
import Derived.Deep.CutBlock
import Derived.Deep.RegionHeld
namespace Go.Proofs.Ytdlkblklfoagbaa
open Go.RowKit
set_option linter.unusedVariables false
set_option linter.unusedSimpArgs false

def cmpK (a b : Int) : Int := if a < b then -1 else if b < a then 1 else 0
theorem cmp_any (p0 p1 k : Int) (c : Int) (hc : cmpK p0 k = c) (w : World) :
    Calls Try.prog 64 #[.agg #[.int .u64 p0, .int .u64 p1], .int .u64 k] w fun e w' => e = .returned (.int .i64 c) ∧ Only (fun _ => False) w w' := by
  subst hc
  by_cases h1 : p0 < k
  · have HC := Lib.hid (show cmpK p0 k = -1 from if_pos h1)
    go_enter Try.func64, Try.ntmps64
    go_wp2_with fail
    go_ret
    exact ⟨by rw [HC.out]; rfl, Only.alloc _ _ _⟩
  · by_cases h2 : k < p0
    · have HC := Lib.hid (show cmpK p0 k = 1 by unfold cmpK; rw [if_neg h1, if_pos h2])
      go_enter Try.func64, Try.ntmps64
      go_wp2_with fail
      go_ret
      exact ⟨by rw [HC.out]; rfl, Only.alloc _ _ _⟩
    · have HC := Lib.hid (show cmpK p0 k = 0 by unfold cmpK; rw [if_neg h1, if_neg h2])
      go_enter Try.func64, Try.ntmps64
      go_wp2_with fail
      go_ret
      exact ⟨by rw [HC.out]; rfl, Only.alloc _ _ _⟩

/-- the keys rise -/
def Rising (xs : List PairD) : Prop := ∀ (i j : Nat) (hi : i < xs.length) (hj : j < xs.length), i < j → xs[i].1 < xs[j].1
/-- the key's place -/
def posP (xs : List PairD) (k : Int) : Nat := xs.findIdx fun p => decide (k ≤ p.1)
def hasP (xs : List PairD) (k : Int) : Bool := xs.any fun p => p.1 == k
theorem posP_le (xs : List PairD) (k : Int) : posP xs k ≤ xs.length := List.findIdx_le_length
theorem posP_of {xs : List PairD} {k : Int} {i : Nat} (hi : i ≤ xs.length) (h1 : ∀ a (h : a < xs.length), a < i → xs[a].1 < k) (h2 : ∀ (h : i < xs.length), k ≤ xs[i].1) : posP xs k = i := by
  unfold posP
  by_cases hlt : i < xs.length
  · exact (List.findIdx_eq hlt).2 ⟨by simpa using h2 hlt, fun j hj => by have := h1 j (by omega) hj; simpa using this⟩
  · obtain rfl : i = xs.length := by omega
    rw [List.findIdx_eq_length]
    intro x hx
    obtain ⟨a, ha, rfl⟩ := List.getElem_of_mem hx
    have := h1 a ha ha
    simpa using this
theorem hasP_at {xs : List PairD} {k : Int} {i : Nat} (hr : Rising xs) (h1 : ∀ a (h : a < xs.length), a < i → xs[a].1 < k) (hlt : i < xs.length) (h2 : k ≤ xs[i].1) : hasP xs k = (xs[i].1 == k) := by
  rw [Bool.eq_iff_iff]
  unfold hasP
  rw [List.any_eq_true]
  constructor
  · rintro ⟨p, hp, he⟩
    obtain ⟨a, ha, rfl⟩ := List.getElem_of_mem hp
    have hk : xs[a].1 = k := by simpa using he
    by_cases hai : a < i
    · have := h1 a ha hai; omega
    · by_cases hia : i < a
      · have := hr i a hlt ha hia; omega
      · obtain rfl : a = i := by omega
        exact he
  · intro h; exact ⟨xs[i], List.getElem_mem _, h⟩
theorem hasP_end {xs : List PairD} {k : Int} (h1 : ∀ a (h : a < xs.length), xs[a].1 < k) : hasP xs k = false := by
  unfold hasP
  rw [List.any_eq_false]
  intro x hx
  obtain ⟨a, ha, rfl⟩ := List.getElem_of_mem hx
  have := h1 a ha
  simp; omega

theorem pair_cells {w : World} {b off : Nat} {xs : List PairD} (hc : ∀ j u, (ePair.all xs)[j]? = some u → w.cell? ⟨b, off + j, none⟩ = some u) (k : Nat) (h : k < xs.length) :
    w.cell? ⟨b, off + k * 2, none⟩ = some (.int .u64 xs[k].1) ∧ w.cell? ⟨b, off + k * 2 + 1, none⟩ = some (.int .u64 xs[k].2) := by
  refine ⟨?_, ?_⟩
  · have := hc (k * 2) _ ((ePair.all_at xs k 0 h (by decide)).trans rfl); exact this
  · have := hc (k * 2 + 1) _ ((ePair.all_at xs k 1 h (by decide)).trans rfl); rw [← Nat.add_assoc] at this; exact this
theorem Rd.only {α : Type} {E : Enc α} {w w' : World} {v : Value} {xs : List α} (h : Rd E w v xs) (ho : Only (fun _ => False) w w') : Rd E w' v xs := h.grow (ho.below (Nat.le_refl _) fun _ h => h.elim)
theorem cells_of_heap {w : World} {g : Nat} {cs : Array Value} {t : TypeId} {fr : Nat × Nat} (h : w.heap[g]? = some (.cells cs t fr)) (i : Nat) (v : Value) (hv : cs[i]? = some v) : w.cell? ⟨g, i, none⟩ = some v := by
  rw [cell_of_row w g i cs t fr h]; exact hv
def LowTo (xs : List PairD) (k : Int) (i : Nat) : Prop := ∀ a (h : a < xs.length), a < i → xs[a].1 < k
def HighFrom (xs : List PairD) (k : Int) (j : Nat) : Prop := ∀ a (h : a < xs.length), j ≤ a → k ≤ xs[a].1

set_option maxHeartbeats 2000000 in
theorem bsearch_any (xs : List PairD) (v : Value) (k : Int) (w : World) (hr : Rd ePair w v xs) (hs : Rising xs) (hn : xs.length ≤ 1000) :
    Calls Try.prog 63 #[v, .int .u64 k, .func (.func 64) #[] #[]] w fun e w' => e = .returned (.tuple #[.int .i64 (posP xs k : Nat), .bool (hasP xs k)]) ∧ Only (fun _ => False) w w' := by
  have HRd := Lib.hid hr
  have HS := Lib.hid hs
  obtain ⟨_, ao, cap, rfl, _, _, _⟩ := hr
  clear hs
  go_enter Try.func63, Try.ntmps63
  go_wp2_with fail
  go_loopw [9, 10, 11] (fun t9 t10 _ wr => ∃ i j : Nat, i ≤ j ∧ j ≤ xs.length ∧ t9 = .int .i64 i ∧ t10 = .int .i64 j ∧ LowTo xs k i ∧ HighFrom xs k j ∧ Only (fun _ => False) w wr) (fun t9 t10 _ _ => (intOf t10).toNat - (intOf t9).toNat)
  case atStart => exact ⟨0, xs.length, by omega, by omega, rfl, rfl, fun a _ h => by omega, fun a h1 h2 => by omega, Only.refl _ _⟩
  case round =>
    obtain ⟨i, j, hij, hj, rfl, rfl, hlow, hhigh, ho⟩ := hrel
    have HL := Lib.hid hlow
    have HH := Lib.hid hhigh
    have HO := Lib.hid ho
    clear hlow hhigh ho
    by_cases hlt : i < j
    · obtain ⟨h, hh⟩ : ∃ h, h = (i + j) / 2 := ⟨_, rfl⟩
      have hh1 : i ≤ h := by omega
      have hh2 : h < j := by omega
      obtain ⟨_, ao', cap', hao, _, _, hx⟩ := HRd.out.only HO.out
      obtain ⟨rfl, _, rfl⟩ : ao = ao' ∧ xs.length = xs.length ∧ cap = cap' := by simpa using hao
      obtain ⟨b, off, rfl, hc⟩ := hx (by omega)
      obtain ⟨p0, p1, HP0, c0', c1'⟩ : ∃ p0 p1, Hid (∀ hl : h < xs.length, xs[h].1 = p0) ∧ wr.cell? ⟨b, off + h * 2, none⟩ = some (.int .u64 p0) ∧ wr.cell? ⟨b, off + h * 2 + 1, none⟩ = some (.int .u64 p1) :=
        ⟨_, _, Lib.hid (fun _ => rfl), (pair_cells hc h (by omega)).1, (pair_cells hc h (by omega)).2⟩
      have c0 : wr.cell? ⟨b, off + (i + j) / 2 * 2, none⟩ = some (.int .u64 p0) := by rw [← hh]; exact c0'
      have c1 : wr.cell? ⟨b, off + (i + j) / 2 * 2 + 1, none⟩ = some (.int .u64 p1) := by rw [← hh]; exact c1'
      clear c0' c1'
      have HHH := Lib.hid hh
      have b1 : (0 : Int) ≤ ((i : Int) + (j : Int)) / 2 := by omega
      have b2 : ((i : Int) + (j : Int)) / 2 < (xs.length : Int) := by omega
      have b3 : (i + j) / 2 < xs.length := by omega
      clear hc hx hao hh
      by_cases hcmp : p0 < k
      · have HL2 := Lib.hid (show LowTo xs k (h + 1) from fun a ha hlt => by
          by_cases e : a = h
          · subst e; rw [HP0.out ha]; exact hcmp
          · have := HS.out a h ha (by omega) (by omega)
            rw [HP0.out (by omega)] at this; omega)
        have HC := Lib.hid (show cmpK p0 k = -1 from if_pos hcmp)
        go_wp2_with (go_at_call 64; refine (cmp_any p0 p1 k _ HC.out _).mono ?_; rintro e w2 ⟨rfl, ho2⟩)
        have HO2 := Lib.hid (HO.out.tr ho2)
        go_roundw
        case rel => exact ⟨h + 1, j, by omega, by omega, by rw [HHH.out]; go_num, rfl, HL2.out, HH.out, HO2.out⟩
        case measure => simp [intOf]; omega
      · have HH2 := Lib.hid (show HighFrom xs k h from fun a ha hle => by
          by_cases e : a = h
          · subst e; rw [HP0.out ha]; omega
          · have := HS.out h a (by omega) ha (by omega)
            rw [HP0.out (by omega)] at this; omega)
        obtain ⟨c, hc, hc0⟩ : ∃ c, cmpK p0 k = c ∧ ¬ c < 0 := ⟨_, rfl, by unfold cmpK; rw [if_neg hcmp]; split <;> omega⟩
        have HC := Lib.hid hc
        clear hc
        go_wp2_with (go_at_call 64; refine (cmp_any p0 p1 k _ HC.out _).mono ?_; rintro e w2 ⟨rfl, ho2⟩)
        have HO2 := Lib.hid (HO.out.tr ho2)
        go_roundw
        case rel => exact ⟨i, h, by omega, by omega, rfl, by rw [HHH.out]; go_num, HL.out, HH2.out, HO2.out⟩
        case measure => simp [intOf]; omega
    · obtain rfl : i = j := by omega
      have HPOS := Lib.hid (posP_of hj HL.out (fun hl => HH.out i hl (Nat.le_refl _)))
      by_cases hin : i < xs.length
      · obtain ⟨_, ao', cap', hao, _, _, hx⟩ := HRd.out.only HO.out
        obtain ⟨rfl, _, rfl⟩ : ao = ao' ∧ xs.length = xs.length ∧ cap = cap' := by simpa using hao
        obtain ⟨b, off, rfl, hc⟩ := hx (by omega)
        obtain ⟨c0, c1⟩ := pair_cells hc i hin
        have HHAS := Lib.hid (hasP_at HS.out HL.out hin (HH.out i hin (Nat.le_refl _)))
        have b1 : (0 : Int) ≤ (i : Int) := by omega
        have b2 : (i : Int) < (xs.length : Int) := by omega
        clear hc hx hao
        have hge := HH.out i hin (Nat.le_refl _)
        have HHA2 := Lib.hid (show hasP xs k = (xs[i].1 == k) from HHAS.out)
        clear HHAS
        generalize xs[i].1 = p0 at *
        generalize xs[i].2 = p1 at *
        by_cases hk : p0 = k
        · have HC := Lib.hid (show cmpK p0 k = 0 by unfold cmpK; rw [if_neg (by omega), if_neg (by omega)])
          have HE := Lib.hid (show hasP xs k = true by rw [HHA2.out]; simpa using hk)
          clear hk
          go_wp2_with (go_at_call 64; refine (cmp_any p0 p1 k _ HC.out _).mono ?_; rintro e w2 ⟨rfl, ho2⟩)
          go_ret2
          exact ⟨by rw [HPOS.out, HE.out]; rfl, HO.out.tr ho2⟩
        · have HC := Lib.hid (show cmpK p0 k = 1 by unfold cmpK; rw [if_neg (by omega), if_pos (by omega)])
          have HE := Lib.hid (show hasP xs k = false by rw [HHA2.out]; simpa using hk)
          clear hk
          go_wp2_with (go_at_call 64; refine (cmp_any p0 p1 k _ HC.out _).mono ?_; rintro e w2 ⟨rfl, ho2⟩)
          go_ret2
          exact ⟨by rw [HPOS.out, HE.out]; rfl, HO.out.tr ho2⟩
      · have HE := Lib.hid (hasP_end (xs := xs) (k := k) (fun a ha => HL.out a ha (by omega)))
        go_wp2_with fail
        go_ret2
        exact ⟨by rw [HPOS.out, HE.out]; rfl, HO.out⟩

/-- a book: its room, its pairs -/
def BookS (b : Nat) (cap : Int) (xs : List PairD) (S : Nat → Prop) (w : World) : Prop := Obj1 ePair 110 50 (fun v => #[.int .i64 cap, v]) b xs S w
theorem BookS.framed {b : Nat} {cap : Int} {xs : List PairD} : Framed (BookS b cap xs) := Obj1.framed
theorem find_any (b : Nat) (cap : Int) (xs : List PairD) (S : Nat → Prop) (k : Int) (w : World) (H : BookS b cap xs S w) (hs : Rising xs) (hn : xs.length ≤ 1000) :
    Calls Try.prog 59 #[.pointer (some ⟨b, 0, none⟩), .int .u64 k] w fun e w' => e = .returned (.tuple #[.int .i64 (posP xs k : Nat), .bool (hasP xs k)]) ∧ Only (fun _ => False) w w' := by
  obtain ⟨v, hg, hown, _, _⟩ := H
  have c1 := cells_of_heap hg 1 v rfl
  have HB := Lib.hid (bsearch_any xs v k w hown.rd hs hn)
  clear hg hown hs
  go_enter Try.func59, Try.ntmps59
  go_wp2_with fail
  refine HB.out.mono ?_
  rintro e w2 ⟨rfl, ho⟩
  go_wp2_with fail
  go_ret2
  exact ⟨rfl, ho⟩

def oldP (xs : List PairD) (k : Int) : Int := if hasP xs k then (xs.getD (posP xs k) (0, 0)).2 else 0
def add64 (a b : Int) : Int := IntKind.u64.wrap (a + b)
def putP (xs : List PairD) (k v : Int) : List PairD := if hasP xs k then xs.set (posP xs k) (k, v) else xs.take (posP xs k) ++ (k, v) :: xs.drop (posP xs k)
def delP (xs : List PairD) (k : Int) : List PairD := if hasP xs k then xs.take (posP xs k) ++ xs.drop (posP xs k + 1) else xs
def full (cap : Int) (xs : List PairD) (k : Int) : Bool := !hasP xs k && decide ((xs.length : Int) = cap)
def resE (e : Int) : ResD := (e, false, 0, false, 0, 0)
def resF (f : Bool) (v : Int) : ResD := (0, f, v, false, 0, 0)
def doP (cap : Int) (xs : List PairD) (op k v : Int) : ResD × List PairD :=
  if op = 0 then (resF (hasP xs k) (oldP xs k), xs)
  else if op = 1 then (resF (hasP xs k) 0, xs)
  else if op = 3 then (resF (hasP xs k) (oldP xs k), delP xs k)
  else if op = 2 then if full cap xs k then (resE 40, xs) else (resF (hasP xs k) (oldP xs k), putP xs k v)
  else if op = 4 then if full cap xs k then (resE 40, xs) else (resF (hasP xs k) (add64 (oldP xs k) v), putP xs k (add64 (oldP xs k) v))
  else (resE 2, xs)
structure Good (cap : Int) (xs : List PairD) : Prop where
  lo : 1 ≤ cap
  hi : cap ≤ 16
  len : (xs.length : Int) ≤ cap
  rising : Rising xs

theorem posP_lt {xs : List PairD} {k : Int} (hr : Rising xs) (h : hasP xs k = true) : posP xs k < xs.length ∧ ∀ h, (xs[posP xs k]'h).1 = k := by
  unfold hasP at h
  rw [List.any_eq_true] at h
  obtain ⟨p, hp, he⟩ := h
  obtain ⟨a, ha, rfl⟩ := List.getElem_of_mem hp
  have hk : xs[a].1 = k := by simpa using he
  have : posP xs k = a := posP_of (by omega) (fun c hc hca => by have := hr c a hc ha hca; omega) (fun _ => by omega)
  exact ⟨by omega, fun h => by subst this; exact hk⟩
theorem posP_low {xs : List PairD} {k : Int} (a : Nat) (ha : a < xs.length) (h : a < posP xs k) : xs[a].1 < k := by
  have := List.not_of_lt_findIdx (p := fun (p : PairD) => decide (k ≤ p.1)) (xs := xs) (i := a) h
  simp at this; omega
theorem posP_high {xs : List PairD} {k : Int} (hr : Rising xs) (h : hasP xs k = false) (a : Nat) (ha : a < xs.length) (hle : posP xs k ≤ a) : k < xs[a].1 := by
  have hlt : posP xs k < xs.length := by omega
  have h1 : k ≤ (xs[posP xs k]'hlt).1 := by
    have := List.findIdx_getElem (p := fun (p : PairD) => decide (k ≤ p.1)) (xs := xs) (w := hlt)
    exact of_decide_eq_true this
  have h2 : (xs[a].1 == k) = false := by
    unfold hasP at h
    rw [List.any_eq_false] at h
    have := h xs[a] (List.getElem_mem _)
    simpa using this
  have h3 : xs[a].1 ≠ k := by simpa using h2
  by_cases e : posP xs k = a
  · have h4 : k ≤ xs[a].1 := by simpa [e] using h1
    omega
  · have := hr (posP xs k) a hlt ha (by omega)
    omega

theorem rising_cons {xs : List PairD} (p : PairD) (h : Rising xs) (hp : ∀ q ∈ xs, p.1 < q.1) : Rising (p :: xs) := by
  intro i j hi hj hij
  cases j with
  | zero => omega
  | succ j =>
    cases i with
    | zero => exact hp _ (List.getElem_mem _)
    | succ i => exact h i j (by simpa using hi) (by simpa using hj) (by omega)
theorem rising_pairwise {xs : List PairD} : Rising xs ↔ xs.Pairwise (fun p q => p.1 < q.1) := by
  rw [List.pairwise_iff_getElem]
  exact ⟨fun h i j hi hj hij => h i j hi hj hij, fun h i j hi hj hij => h i j hi hj hij⟩
theorem del_rising {xs : List PairD} (hr : Rising xs) (i : Nat) : Rising (xs.take i ++ xs.drop (i + 1)) := by
  rw [rising_pairwise] at *
  have h : (xs.take i ++ xs.drop (i + 1)).Sublist xs := by
    rw [← List.eraseIdx_eq_take_drop_succ]; exact List.eraseIdx_sublist ..
  exact hr.sublist h
theorem ins_rising {xs : List PairD} {k v : Int} (hr : Rising xs) (h : hasP xs k = false) : Rising (xs.take (posP xs k) ++ (k, v) :: xs.drop (posP xs k)) := by
  rw [rising_pairwise] at *
  rw [List.pairwise_append]
  refine ⟨hr.sublist (List.take_sublist ..), ?_, ?_⟩
  · rw [List.pairwise_cons]
    refine ⟨fun q hq => ?_, hr.sublist (List.drop_sublist ..)⟩
    obtain ⟨a, ha, rfl⟩ := List.getElem_of_mem hq
    rw [List.getElem_drop]
    exact posP_high (rising_pairwise.2 hr) h _ (by simp at ha; omega) (by omega)
  · intro p hp q hq
    obtain ⟨a, ha, rfl⟩ := List.getElem_of_mem hp
    rw [List.getElem_take]
    have ha' : a < posP xs k := by simp at ha; omega
    have h1 := posP_low (k := k) a (by simp at ha; omega) ha'
    rcases List.mem_cons.1 hq with rfl | hq
    · exact h1
    · obtain ⟨c, hc, rfl⟩ := List.getElem_of_mem hq
      rw [List.getElem_drop]
      have := posP_high (rising_pairwise.2 hr) h (posP xs k + c) (by simp at hc; omega) (by omega)
      omega
theorem set_rising {xs : List PairD} {k v : Int} (hr : Rising xs) (h : hasP xs k = true) : Rising (xs.set (posP xs k) (k, v)) := by
  obtain ⟨hlt, hk⟩ := posP_lt hr h
  have hk' := hk hlt
  have hkey : ∀ a (ha : a < (xs.set (posP xs k) (k, v)).length), ((xs.set (posP xs k) (k, v))[a]).1 = (xs[a]'(by simpa using ha)).1 := fun a ha => by
    rw [List.getElem_set]
    split
    · rename_i e; subst e; exact hk'.symm
    · rfl
  intro i j hi hj hij
  rw [hkey i hi, hkey j hj]
  exact hr i j _ _ hij
theorem put_good {cap : Int} {xs : List PairD} {k v : Int} (G : Good cap xs) (hf : full cap xs k = false) : Good cap (putP xs k v) := by
  unfold putP
  unfold full at hf
  cases h : hasP xs k
  · rw [h] at hf
    have hl : ¬ ((xs.length : Int) = cap) := by simpa using hf
    have := posP_le xs k
    refine ⟨G.lo, G.hi, ?_, ?_⟩
    · have := G.len; simp; omega
    · simpa using ins_rising G.rising h
  · exact ⟨G.lo, G.hi, by have := G.len; simpa using this, by simpa using set_rising G.rising h⟩
theorem del_good {cap : Int} {xs : List PairD} {k : Int} (G : Good cap xs) : Good cap (delP xs k) := by
  unfold delP
  split
  · exact ⟨G.lo, G.hi, by have := G.len; simp; omega, del_rising G.rising _⟩
  · exact G
theorem do_good {cap : Int} {xs : List PairD} {op k v : Int} (G : Good cap xs) : Good cap (doP cap xs op k v).2 := by
  unfold doP
  split
  · exact G
  split
  · exact G
  split
  · exact del_good G
  split
  · split
    · exact G
    · rename_i h; exact put_good G (by simpa using h)
  split
  · split
    · exact G
    · rename_i h; exact put_good G (by simpa using h)
  · exact G

theorem Only.drew_' {F : Nat → Prop} {w w' : World} (h : Only F w w') : Only F w w'.drew := ⟨h.os, h.tape, h.output, h.size, h.block⟩
def DoPost (b : Nat) (S : Nat → Prop) (cap : Int) (w : World) (r : ResD × List PairD) (e : Ending) (w' : World) : Prop :=
  e = .returned (.agg #[.int .i64 r.1.1, .bool r.1.2.1, .int .u64 r.1.2.2.1, .bool r.1.2.2.2.1, .int .u64 r.1.2.2.2.2.1, .int .u64 r.1.2.2.2.2.2]) ∧ BookS b cap r.2 (fun k => S k ∨ w.heap.size ≤ k) w' ∧ Only S w w'

set_option maxRecDepth 100000 in
set_option maxHeartbeats 1000000 in
theorem do_bad (b : Nat) (cap : Int) (xs : List PairD) (S : Nat → Prop) (op key val : Int) (w : World) (H : BookS b cap xs S w) (hop : op < 0 ∨ 5 ≤ op) :
    Calls Try.prog 56 #[.pointer (some ⟨b, 0, none⟩), .int .i64 op, .int .u64 key, .int .u64 val] w (DoPost b S cap w (resE 2, xs)) := by
  have HB := Lib.hid (BookS.framed.mono S (fun k => S k ∨ w.heap.size ≤ k) _ (BookS.framed.alloc H (.cells #[.int .i64 2, .bool false, .int .u64 0, .bool false, .int .u64 0, .int .u64 0] 41)) (fun _ _ h => .inl h))
  clear H
  by_cases h0 : op < 0
  all_goals
    have h5 : ¬ op < 0 → 5 ≤ op := fun h => by omega
    try have h5' := h5 h0
    clear h5 hop
    go_enter Try.func56, Try.ntmps56
    go_wp2_with fail
    try simp only [Exit.inBlock, Exit.then]
    refine bodyPost_ret (results_cell_row rfl _ _ w.heap.size _ _ _ _ rfl (heap_alloc_new w _) Try.underlying41 rfl (by kernel_rfl)) rfl ?_
    exact ⟨rfl, HB.out, Only.alloc _ _ _⟩

theorem res_one (a c e f : Int) (b d : Bool) : (#[Value.int .i64 a, .bool b, .int .u64 c, .bool d, .int .u64 e, .int .u64 f].all (·.oneCell')) = true := by simp [Value.oneCell']
theorem do_ro {b : Nat} {cap : Int} {xs : List PairD} {S : Nat → Prop} {w w' : World} (H : BookS b cap xs S w) (ho : Only (fun k => w.heap.size ≤ k) w w') : BookS b cap xs (fun k => S k ∨ w.heap.size ≤ k) w' ∧ Only S w w' :=
  ⟨BookS.framed.mono S _ _ (BookS.framed.only S _ w w' H ho fun k hk _ h => by omega) (fun _ _ h => .inl h), ho.mono fun k hk h => by omega⟩
theorem only_row {F : Nat → Prop} {w w' : World} (h : Only F w w') (g : Nat) (cs : Array Value) (hg : F g ∨ w.heap.size ≤ g) : Only F w (w'.setRow g cs) :=
  h.trans (only_setRow w' g cs) fun j hj e => by
    subst e
    rcases hg with hg | hg
    · exact hg
    · omega
theorem Only.wide {F : Nat → Prop} {w w' : World} (h : Only (fun _ => False) w w') : Only F w w' := h.mono fun _ _ h => h.elim

set_option maxRecDepth 100000 in
set_option maxHeartbeats 2000000 in
theorem do_has (b : Nat) (cap : Int) (xs : List PairD) (S : Nat → Prop) (key val : Int) (w : World) (H : BookS b cap xs S w) (G : Good cap xs) :
    Calls Try.prog 56 #[.pointer (some ⟨b, 0, none⟩), .int .i64 1, .int .u64 key, .int .u64 val] w (DoPost b S cap w (resF (hasP xs key) 0, xs)) := by
  obtain ⟨v, hg, hown, hS, hvS⟩ := H
  have HFind := Lib.hid (fun W (hW : BookS b cap xs S W) => find_any b cap xs S key W hW G.rising (by have := G.len; have := G.hi; omega))
  have H0 := Lib.hid (show BookS b cap xs S w from ⟨v, hg, hown, hS, hvS⟩)
  have HB := Lib.hid (BookS.framed.alloc H0.out (.cells #[.int .i64 0, .bool false, .int .u64 0, .bool false, .int .u64 0, .int .u64 0] 41))
  have HG := Lib.hid hg
  have HW := Lib.hid hown
  clear hg hown hS hvS G
  cases hf : hasP xs key
  all_goals
    have HFI := Lib.hid (HFind.out _ HB.out)
    rw [hf] at HFI
    clear hf
    go_enter Try.func56, Try.ntmps56
    go_wp2_with fail
    refine HFI.out.mono ?_
    rintro e w1 ⟨rfl, ho⟩
    have hr8 := ho.heap (heap_alloc_new w _) (fun h => h)
    have HR8 := Lib.hid hr8
    have HO := Lib.hid ((Only.alloc (fun _ => False) w _).tr ho)
    clear hr8 ho
    go_wp2_with (refine wpList_store_row rfl 41 (.tmp 8) (.tmp 105) rfl w.heap.size _ rfl rfl 41 _ (heap_alloc HR8.out) (by kernel_rfl) rfl (res_one _ _ _ _ _ _) ?_)
    refine bodyPost_ret (results_cell_row rfl _ _ w.heap.size _ _ _ _ rfl (setRow_heap _ _ _ _ _ _ (heap_alloc HR8.out)) Try.underlying41 rfl (by kernel_rfl)) rfl ?_
    exact ⟨rfl, do_ro H0.out (only_row (HO.out.tr (Only.alloc _ _ _)).wide _ _ (.inr (Nat.le_refl _)))⟩

set_option maxRecDepth 100000 in
set_option maxHeartbeats 2000000 in
theorem do_get_no (b : Nat) (cap : Int) (xs : List PairD) (S : Nat → Prop) (key val : Int) (w : World) (H : BookS b cap xs S w) (G : Good cap xs) (hf : hasP xs key = false) :
    Calls Try.prog 56 #[.pointer (some ⟨b, 0, none⟩), .int .i64 0, .int .u64 key, .int .u64 val] w (DoPost b S cap w (resF false 0, xs)) := by
  obtain ⟨v, hg, hown, hS, hvS⟩ := H
  have HFind := Lib.hid (fun W (hW : BookS b cap xs S W) => find_any b cap xs S key W hW G.rising (by have := G.len; have := G.hi; omega))
  have H0 := Lib.hid (show BookS b cap xs S w from ⟨v, hg, hown, hS, hvS⟩)
  have HB := Lib.hid (BookS.framed.alloc H0.out (.cells #[.int .i64 0, .bool false, .int .u64 0, .bool false, .int .u64 0, .int .u64 0] 41))
  have HG := Lib.hid hg
  have HW := Lib.hid hown
  clear hg hown hS hvS G
  skip
  all_goals
    have HFI := Lib.hid (HFind.out _ HB.out)
    rw [hf] at HFI
    clear hf
    go_enter Try.func56, Try.ntmps56
    go_wp2_with fail
    refine HFI.out.mono ?_
    rintro e w1 ⟨rfl, ho⟩
    have hr8 := ho.heap (heap_alloc_new w _) (fun h => h)
    have HR8 := Lib.hid hr8
    have HO := Lib.hid ((Only.alloc (fun _ => False) w _).tr ho)
    clear hr8 ho
    go_wp2_with (refine wpList_store_row rfl 41 (.tmp 8) (.tmp 105) rfl w.heap.size _ rfl rfl 41 _ (heap_alloc HR8.out) (by kernel_rfl) rfl (res_one _ _ _ _ _ _) ?_)
    refine bodyPost_ret (results_cell_row rfl _ _ w.heap.size _ _ _ _ rfl (setRow_heap _ _ _ _ _ _ (heap_alloc HR8.out)) Try.underlying41 rfl (by kernel_rfl)) rfl ?_
    exact ⟨rfl, do_ro H0.out (only_row (HO.out.tr (Only.alloc _ _ _)).wide _ _ (.inr (Nat.le_refl _)))⟩

set_option maxRecDepth 100000 in
set_option maxHeartbeats 2000000 in
theorem do_del_no (b : Nat) (cap : Int) (xs : List PairD) (S : Nat → Prop) (key val : Int) (w : World) (H : BookS b cap xs S w) (G : Good cap xs) (hf : hasP xs key = false) :
    Calls Try.prog 56 #[.pointer (some ⟨b, 0, none⟩), .int .i64 3, .int .u64 key, .int .u64 val] w (DoPost b S cap w (resF false 0, xs)) := by
  obtain ⟨v, hg, hown, hS, hvS⟩ := H
  have HFind := Lib.hid (fun W (hW : BookS b cap xs S W) => find_any b cap xs S key W hW G.rising (by have := G.len; have := G.hi; omega))
  have H0 := Lib.hid (show BookS b cap xs S w from ⟨v, hg, hown, hS, hvS⟩)
  have HB := Lib.hid (BookS.framed.alloc H0.out (.cells #[.int .i64 0, .bool false, .int .u64 0, .bool false, .int .u64 0, .int .u64 0] 41))
  have HG := Lib.hid hg
  have HW := Lib.hid hown
  clear hg hown hS hvS G
  skip
  all_goals
    have HFI := Lib.hid (HFind.out _ HB.out)
    rw [hf] at HFI
    clear hf
    go_enter Try.func56, Try.ntmps56
    go_wp2_with fail
    refine HFI.out.mono ?_
    rintro e w1 ⟨rfl, ho⟩
    have hr8 := ho.heap (heap_alloc_new w _) (fun h => h)
    have HR8 := Lib.hid hr8
    have HO := Lib.hid ((Only.alloc (fun _ => False) w _).tr ho)
    clear hr8 ho
    go_wp2_with (refine wpList_store_row rfl 41 (.tmp 8) (.tmp 105) rfl w.heap.size _ rfl rfl 41 _ (heap_alloc HR8.out) (by kernel_rfl) rfl (res_one _ _ _ _ _ _) ?_)
    refine bodyPost_ret (results_cell_row rfl _ _ w.heap.size _ _ _ _ rfl (setRow_heap _ _ _ _ _ _ (heap_alloc HR8.out)) Try.underlying41 rfl (by kernel_rfl)) rfl ?_
    exact ⟨rfl, do_ro H0.out (only_row (HO.out.tr (Only.alloc _ _ _)).wide _ _ (.inr (Nat.le_refl _)))⟩

/-- one field of a pair is set -/
theorem all_setVal (xs : List PairD) (i : Nat) (hi : i < xs.length) (u : Int) : ePair.all (xs.set i (xs[i].1, u)) = (ePair.all xs).set (i * 2 + 1) (.int .u64 u) := by
  refine List.ext_getElem? fun m => ?_
  by_cases hm : m < xs.length * 2
  · have hq : m / 2 < xs.length := by omega
    have hr : m % 2 < 2 := Nat.mod_lt _ (by omega)
    have he : m / 2 * 2 + m % 2 = m := by omega
    have h1 := ePair.all_at (xs.set i (xs[i].1, u)) (m / 2) (m % 2) (by simpa using hq) hr
    have h2 := ePair.all_at xs (m / 2) (m % 2) hq hr
    rw [show m / 2 * ePair.size + m % 2 = m from he] at h1 h2
    rw [h1, List.getElem?_set, h2, List.getElem_set]
    have hl : (ePair.all xs).length = xs.length * 2 := ePair.all_len xs
    by_cases e : i * 2 + 1 = m
    · have e1 : i = m / 2 := by omega
      have e2 : m % 2 = 1 := by omega
      rw [if_pos e, if_pos e1, if_pos (by rw [hl]; omega), e2]; rfl
    · rw [if_neg e]
      by_cases e1 : i = m / 2
      · have e2 : m % 2 = 0 := by omega
        rw [if_pos e1, e2]
        subst e1
        rfl
      · rw [if_neg e1]
  · have hl1 : (ePair.all (xs.set i (xs[i].1, u))).length = xs.length * 2 := by rw [ePair.all_len, List.length_set]
    have hl2 : ((ePair.all xs).set (i * 2 + 1) (.int .u64 u)).length = xs.length * 2 := by rw [List.length_set, ePair.all_len]
    rw [List.getElem?_eq_none (by omega), List.getElem?_eq_none (by omega)]
theorem Ow.setVal {w : World} {base e g off cap n : Nat} {xs : List PairD} (h : Ow ePair base e w (.slice (some ⟨g, off, none⟩) n cap) xs) (i : Nat) (hi : i < xs.length) (k u : Int) (hk : xs[i].1 = k) :
    Ow ePair base e (w.setCell ⟨g, off + i * 2 + 1, none⟩ (.int .u64 u)) (.slice (some ⟨g, off, none⟩) n cap) (xs.set i (k, u)) := by
  subst hk
  obtain ⟨hm, ao', cap', he, hlc, hcm, hnone, hx⟩ := h
  obtain ⟨rfl, rfl, rfl⟩ : some ⟨g, off, none⟩ = ao' ∧ n = xs.length ∧ cap = cap' := by simpa using he
  obtain ⟨g', off', cur, hgo, hg, hh, hs, ht⟩ := hx _ rfl
  obtain ⟨rfl, rfl⟩ : g = g' ∧ off = off' := by simpa using hgo
  refine ⟨by simpa using hm, some ⟨g, off, none⟩, cap, by simp, by simpa using hlc, hcm, fun h => by simp at h, fun a ha => ⟨g, off, cur.setIfInBounds (off + i * 2 + 1) (.int .u64 u), by simpa using ha.symm, hg, heap_setCell_same w g _ cur _ _ hh, by simpa using hs, ?_⟩⟩
  rw [List.length_set, all_setVal xs i hi u, ← ht, Array.toList_setIfInBounds, List.drop_set, if_neg (by omega), List.take_set]
  congr 1
  omega

/-- the slice of a book, and the place of a key that is there -/
structure At (b : Nat) (cap : Int) (xs : List PairD) (S : Nat → Prop) (key : Int) (w : World) (g off c : Nat) (old : Int) : Prop where
  hb : w.heap[b]? = some (.cells #[.int .i64 cap, .slice (some ⟨g, off, none⟩) xs.length c] 110 (0, 0))
  hw : Ow ePair 0 50 w (.slice (some ⟨g, off, none⟩) xs.length c) xs
  hS : S b
  hgS : S g
  hne : g ≠ b
  lt : posP xs key < xs.length
  kk : ∀ h, (xs[posP xs key]'h).1 = key
  oldv : oldP xs key = old
  val : w.cell? ⟨g, off + posP xs key * 2 + 1, none⟩ = some (.int .u64 old)
  frz : w.frozen? ⟨g, off + posP xs key * 2 + 1, none⟩ = false
theorem at_of {b : Nat} {cap : Int} {xs : List PairD} {S : Nat → Prop} {key : Int} {w : World} (H : BookS b cap xs S w) (hr : Rising xs) (hf : hasP xs key = true) : ∃ g off c old, At b cap xs S key w g off c old := by
  obtain ⟨v, hg, hown, hS, hvS⟩ := H
  obtain ⟨hlt, hk⟩ := posP_lt hr hf
  obtain ⟨g, off, c, rfl⟩ := hown.some_ (by omega)
  have hne := row_ne hg hown (by decide)
  obtain ⟨g', off', hgo, _, hat⟩ := hown.at_ (posP xs key) hlt
  obtain ⟨rfl, rfl⟩ : g = g' ∧ off = off' := by simpa using hgo
  have hv := (hat 1 (by decide)).1
  have hz := (hat 1 (by decide)).2
  rw [← Nat.add_assoc] at hv hz
  refine ⟨g, off, c, (xs[posP xs key]'hlt).2, hg, hown, hS, hvS g rfl, fun h => hne (by simp [Value.ownBlock, h]), hlt, hk, ?_, hv, hz⟩
  unfold oldP; rw [hf, if_pos rfl, List.getD_eq_getElem?_getD, List.getElem?_eq_getElem hlt]; rfl
theorem At.on {b : Nat} {cap : Int} {xs : List PairD} {S : Nat → Prop} {key : Int} {w w' : World} {g off c : Nat} {old : Int} (A : At b cap xs S key w g off c old) (ho : Only (fun _ => False) w w') : At b cap xs S key w' g off c old :=
  ⟨ho.heap A.hb (fun h => h), A.hw.only ho (fun _ _ h => h), A.hS, A.hgS, A.hne, A.lt, A.kk, A.oldv,
    ((ho.below (Nat.le_refl _) (fun _ h => h.elim)).cell (p := ⟨g, off + posP xs key * 2 + 1, none⟩) (World.block_lt_of_cell? w _ A.val)).trans A.val,
    ((ho.below (Nat.le_refl _) (fun _ h => h.elim)).frozen (p := ⟨g, off + posP xs key * 2 + 1, none⟩) (World.block_lt_of_cell? w _ A.val)).trans A.frz⟩

set_option maxRecDepth 100000 in
set_option maxHeartbeats 2000000 in
theorem do_get_yes (b : Nat) (cap : Int) (xs : List PairD) (S : Nat → Prop) (key val : Int) (w : World) (H : BookS b cap xs S w) (G : Good cap xs) (hf : hasP xs key = true) :
    Calls Try.prog 56 #[.pointer (some ⟨b, 0, none⟩), .int .i64 0, .int .u64 key, .int .u64 val] w (DoPost b S cap w (resF true (oldP xs key), xs)) := by
  obtain ⟨g, off, c, old, A⟩ := at_of H G.rising hf
  have H0 := Lib.hid H
  have HB := Lib.hid (BookS.framed.alloc H0.out (.cells #[.int .i64 0, .bool false, .int .u64 0, .bool false, .int .u64 0, .int .u64 0] 41))
  have HFI := Lib.hid (find_any b cap xs S key _ HB.out G.rising (by have := G.len; have := G.hi; omega))
  rw [hf] at HFI
  rw [A.oldv]
  have HA := Lib.hid A
  clear H G hf A
  go_enter Try.func56, Try.ntmps56
  go_wp2_with fail
  refine HFI.out.mono ?_
  rintro e w1 ⟨rfl, ho⟩
  have HR8 := Lib.hid (ho.heap (heap_alloc_new w _) (fun h => h))
  have HO := Lib.hid ((Only.alloc (fun _ => False) w _).tr ho)
  have A1 := HA.out.on HO.out
  have c1 := cells_of_heap A1.hb 1 (.slice (some ⟨g, off, none⟩) xs.length c) rfl
  have c2 := A1.val
  have hp := A1.lt
  have hlb := heap_lt A1.hb
  have hlg := World.block_lt_of_cell? w1 _ A1.val
  dsimp only at hlg
  clear ho A1
  generalize posP xs key = p at *
  have hi0 : (0 : Int) ≤ (p : Int) := by omega
  have hi1 : (p : Int) < (xs.length : Int) := by omega
  go_wp2_with (refine wpList_store_row rfl 41 (.tmp 8) (.tmp 105) rfl w.heap.size _ rfl rfl 41 _ (heap_alloc HR8.out) (by kernel_rfl) rfl (res_one _ _ _ _ _ _) ?_)
  refine bodyPost_ret (results_cell_row rfl _ _ w.heap.size _ _ _ _ rfl (setRow_heap _ _ _ _ _ _ (heap_alloc HR8.out)) Try.underlying41 rfl (by kernel_rfl)) rfl ?_
  exact ⟨rfl, do_ro H0.out (only_row (HO.out.tr (Only.alloc _ _ _)).wide _ _ (.inr (Nat.le_refl _)))⟩

theorem OwS.shape {α : Type} {E : Enc α} {ty : Nat} {S : Nat → Prop} {w : World} {v : Value} {xs : List α} (h : OwS E ty S w v xs) : ∃ a n c, v = .slice a n c := by
  obtain ⟨⟨_, ao, cap, rfl, _⟩, _⟩ := h; exact ⟨_, _, _, rfl⟩
theorem do_fin {b : Nat} {cap : Int} {S : Nat → Prop} {w w2 : World} {u v' : Value} {ys : List PairD} {m : Nat} (hb2 : w2.heap[b]? = some (.cells #[.int .i64 cap, u] 110 (0, 0))) (hSb : S b) (hbl : b < w.heap.size)
    (how : OwS ePair 50 (fun k => (S k ∧ k < w.heap.size) ∨ m ≤ k) w2 v' ys) (hm : w.heap.size < m) (ho : Only (fun k => (S k ∧ k < w.heap.size) ∨ w.heap.size ≤ k) w w2) (cs : Array Value) :
    BookS b cap ys (fun k => S k ∨ w.heap.size ≤ k) ((w2.setCell ⟨b, 1, none⟩ v').setRow w.heap.size cs) ∧ Only S w ((w2.setCell ⟨b, 1, none⟩ v').setRow w.heap.size cs) := by
  obtain ⟨B2, o2⟩ := Obj1.setSlice' (E := ePair) (ety := 50) (cells := fun v => #[.int .i64 cap, v]) (S := fun k => (S k ∧ k < w.heap.size) ∨ m ≤ k) hb2 (.inl ⟨hSb, hbl⟩) (by decide) 1 v' how (fun _ _ => rfl)
  have o3 := only_setRow (w2.setCell ⟨b, 1, none⟩ v') w.heap.size cs
  refine ⟨BookS.framed.mono _ _ _ (BookS.framed.only _ _ _ _ B2 o3 fun k _ h e => by omega) fun k _ h => ?_, ?_⟩
  · rcases h with h | h
    · exact .inl h.1
    · exact .inr (by omega)
  · refine ((ho.trans o2 (fun j hj e => by subst e; exact .inl ⟨hSb, hbl⟩)).trans o3 (fun j hj e => .inr (by omega))).mono fun k hk h => ?_
    rcases h with h | h
    · exact h.1
    · omega

set_option maxRecDepth 100000 in
set_option maxHeartbeats 2000000 in
theorem do_del_yes (b : Nat) (cap : Int) (xs : List PairD) (S : Nat → Prop) (key val : Int) (w : World) (H : BookS b cap xs S w) (G : Good cap xs) (hf : hasP xs key = true) :
    Calls Try.prog 56 #[.pointer (some ⟨b, 0, none⟩), .int .i64 3, .int .u64 key, .int .u64 val] w (DoPost b S cap w (resF true (oldP xs key), xs.take (posP xs key) ++ xs.drop (posP xs key + 1))) := by
  obtain ⟨g, off, c, old, A⟩ := at_of H G.rising hf
  have HB := Lib.hid (BookS.framed.alloc H (.cells #[.int .i64 0, .bool false, .int .u64 0, .bool false, .int .u64 0, .int .u64 0] 41))
  have HFI := Lib.hid (find_any b cap xs S key _ HB.out G.rising (by have := G.len; have := G.hi; omega))
  rw [hf] at HFI
  rw [A.oldv]
  have HA := Lib.hid A
  have hlen : xs.length ≤ 1000 := by have := G.len; have := G.hi; omega
  clear H G hf A
  go_enter Try.func56, Try.ntmps56
  go_wp2_with fail
  refine HFI.out.mono ?_
  rintro e w1 ⟨rfl, ho⟩
  have HR8 := Lib.hid (ho.heap (heap_alloc_new w _) (fun h => h))
  have HO := Lib.hid ((Only.alloc (fun _ => False) w _).tr ho)
  have A1 := HA.out.on HO.out
  have c1 := cells_of_heap A1.hb 1 (.slice (some ⟨g, off, none⟩) xs.length c) rfl
  have c2 := A1.val
  have hp := A1.lt
  have hlb := heap_lt A1.hb
  have hlg := World.block_lt_of_cell? w1 _ A1.val
  dsimp only at hlg
  have hgb : ¬ g = b := A1.hne
  have HA1 := Lib.hid A1
  have hl8 := heap_lt HR8.out
  have hg0 := World.block_lt_of_cell? w _ HA.out.val
  dsimp only at hg0
  have hb0 := heap_lt HA.out.hb
  clear ho A1
  obtain ⟨p, hpe⟩ : ∃ p, p = posP xs key := ⟨_, rfl⟩
  rw [← hpe] at c2 hp ⊢
  have HPE := Lib.hid hpe
  clear HFI hpe
  have hi0 : (0 : Int) ≤ (p : Int) := by omega
  have hi1 : (p : Int) < (xs.length : Int) := by omega
  go_wp2_with fail
  refine (delete_any (fun k => k = g) _ xs p _ ⟨(HA1.out.on (Only.alloc _ _ _)).hw, fun k hk => by simpa [Value.ownBlock] using hk.symm⟩ hp).mono ?_
  rintro e w2 ⟨v', rfl, how2, ho2⟩
  obtain ⟨a2, n2, cp2, rfl⟩ := how2.shape
  have hb2 := ho2.heap (heap_alloc HA1.out.hb) (fun h => hgb h.symm)
  have hr11 := ho2.heap (heap_alloc_new w1 _) (fun h => by omega)
  have hr8 := ho2.heap (heap_alloc HR8.out) (fun h => by omega)
  have d1 := cells_of_heap hb2 1 (.slice (some ⟨g, off, none⟩) xs.length c) rfl
  have z1 := frozen_of_row w2 b 1 _ _ hb2
  have HFIN := Lib.hid (do_fin (S := S) (w := w) (m := w1.heap.size + 1) hb2 HA.out.hS hb0 (OwS.framed.mono _ _ _ how2 (fun k _ h => by
    rcases h with h | h
    · exact .inl ⟨by rw [h]; exact HA.out.hgS, by omega⟩
    · exact .inr (by simpa using h))) (by omega) ((HO.out.wide.tr (Only.alloc _ _ _)).trans ho2 (fun k hk e => .inl ⟨by rw [e]; exact HA.out.hgS, by omega⟩)))
  have HR11 := Lib.hid hr11
  have HR8' := Lib.hid hr8
  have HZ := Lib.hid (show w.heap.size ≠ b ∧ w1.heap.size ≠ b from ⟨by omega, by omega⟩)
  clear c1 c2 hb2 hr11 hr8 how2 ho2
  go_upto_region 21 with (fail)
  obtain ⟨W3, hW3⟩ : ∃ W3, W3 = w2.setCell ⟨b, 1, none⟩ (.slice a2 n2 cp2) := ⟨_, rfl⟩
  have hr11 : W3.heap[w1.heap.size]? = some (.cells #[.int .i64 0, .bool true, .int .u64 old, .bool false, .int .u64 0, .int .u64 0] 41 (0, 0)) := by rw [hW3]; exact heap_setCell_far HR11.out _ _ _ HZ.out.2
  have hr8 : W3.heap[w.heap.size]? = some (.cells #[.int .i64 0, .bool false, .int .u64 0, .bool false, .int .u64 0, .int .u64 0] 41 (0, 0)) := by rw [hW3]; exact heap_setCell_far HR8'.out _ _ _ HZ.out.1
  have HF2 := HFIN.out
  rw [← hW3] at HF2
  have HF3 := Lib.hid HF2
  simp only [← hW3]
  have e0 := cells_of_heap hr11 0 (.int .i64 0) rfl
  have e1 := cells_of_heap hr11 1 (.bool true) rfl
  have e2 := cells_of_heap hr11 2 (.int .u64 old) rfl
  have e3 := cells_of_heap hr11 3 (.bool false) rfl
  have e4 := cells_of_heap hr11 4 (.int .u64 0) rfl
  have e5 := cells_of_heap hr11 5 (.int .u64 0) rfl
  have HR83 := Lib.hid hr8
  clear hW3 HF2 HFIN hr11 hr8 d1 z1
  go_wp2_with (refine wpList_store_row rfl 41 (.tmp 8) (.tmp 105) rfl w.heap.size _ rfl rfl 41 _ HR83.out (by kernel_rfl) rfl (res_one _ _ _ _ _ _) ?_)
  refine bodyPost_ret (results_cell_row rfl _ _ w.heap.size _ _ _ _ rfl (setRow_heap _ _ _ _ _ _ HR83.out) Try.underlying41 rfl (by kernel_rfl)) rfl ?_
  exact ⟨rfl, by have h := HF3.out #[.int .i64 0, .bool true, .int .u64 old, .bool false, .int .u64 0, .int .u64 0]; rw [HPE.out] at h; exact h⟩

theorem do_fin2 {b : Nat} {cap : Int} {S : Nat → Prop} {w w2 : World} {v' : Value} {ys : List PairD} {m : Nat} (hb2 : w2.heap[b]? = some (.cells #[.int .i64 cap, v'] 110 (0, 0))) (hSb : S b) (hbl : b < w.heap.size)
    (how : OwS ePair 50 (fun k => (S k ∧ k < w.heap.size) ∨ m ≤ k) w2 v' ys) (hm : w.heap.size < m) (ho : Only (fun k => (S k ∧ k < w.heap.size) ∨ w.heap.size ≤ k) w w2) (cs : Array Value) :
    BookS b cap ys (fun k => S k ∨ w.heap.size ≤ k) (w2.setRow w.heap.size cs) ∧ Only S w (w2.setRow w.heap.size cs) := by
  have B2 : BookS b cap ys (fun k => (S k ∧ k < w.heap.size) ∨ m ≤ k) w2 := ⟨v', hb2, how.1, .inl ⟨hSb, hbl⟩, how.2⟩
  have o3 := only_setRow w2 w.heap.size cs
  refine ⟨BookS.framed.mono _ _ _ (BookS.framed.only _ _ _ _ B2 o3 fun k _ h e => by omega) fun k _ h => ?_, ?_⟩
  · rcases h with h | h
    · exact .inl h.1
    · exact .inr (by omega)
  · refine (ho.trans o3 (fun j hj e => .inr (by omega))).mono fun k hk h => ?_
    rcases h with h | h
    · exact h.1
    · omega

theorem setval_fin {b : Nat} {cap : Int} {xs : List PairD} {S : Nat → Prop} {key : Int} {w w1 W2 : World} {g off c : Nat} {old : Int} (A : At b cap xs S key w g off c old) (HO : Only (fun _ => False) w w1) (o2 : Only (fun k => w1.heap.size ≤ k) w1 W2) (hl8 : w.heap.size < w1.heap.size) (nv : Int) (cs : Array Value) :
    BookS b cap (xs.set (posP xs key) (key, nv)) (fun k => S k ∨ w.heap.size ≤ k) ((W2.setCell ⟨g, off + posP xs key * 2 + 1, none⟩ (.int .u64 nv)).setRow w.heap.size cs) ∧ Only S w ((W2.setCell ⟨g, off + posP xs key * 2 + 1, none⟩ (.int .u64 nv)).setRow w.heap.size cs) := by
  have hg0 := World.block_lt_of_cell? w _ A.val
  dsimp only at hg0
  have hb0 := heap_lt A.hb
  have hb2 := heap_setCell_far (o2.heap (HO.heap A.hb (fun h => h)) (fun h => by omega)) g (off + posP xs key * 2 + 1) (.int .u64 nv) (fun h => A.hne h.symm)
  have hw2 := ((A.hw.only HO (fun _ _ h => h)).only o2 (fun k hk h => by
    obtain rfl : g = k := by simpa [Value.ownBlock] using hk
    omega)).setVal (posP xs key) A.lt key nv (A.kk A.lt)
  refine do_fin2 (S := S) (m := w.heap.size + 1) hb2 A.hS hb0 ⟨hw2, fun k hk => .inl ?_⟩ (by omega) ?_ cs
  · obtain rfl : g = k := by simpa [Value.ownBlock] using hk
    exact ⟨A.hgS, hg0⟩
  · exact (HO.wide.trans o2 (fun k hk h => by have := HO.size; omega)).trans (Only.setCell (fun k => k = g) W2 g _ _ rfl) fun k hk e => .inl ⟨by rw [e]; exact A.hgS, by omega⟩

set_option maxRecDepth 100000 in
set_option maxHeartbeats 2000000 in
theorem do_full (b : Nat) (cap : Int) (xs : List PairD) (S : Nat → Prop) (op key val : Int) (w : World) (H : BookS b cap xs S w) (G : Good cap xs) (hop : op = 2 ∨ op = 4) (hf : hasP xs key = false) (hlen : (xs.length : Int) = cap) :
    Calls Try.prog 56 #[.pointer (some ⟨b, 0, none⟩), .int .i64 op, .int .u64 key, .int .u64 val] w (DoPost b S cap w (resE 40, xs)) := by
  have H0 := Lib.hid H
  have HB := Lib.hid (BookS.framed.alloc H0.out (.cells #[.int .i64 0, .bool false, .int .u64 0, .bool false, .int .u64 0, .int .u64 0] 41))
  have HFI := Lib.hid (find_any b cap xs S key _ HB.out G.rising (by have := G.len; have := G.hi; omega))
  rw [hf] at HFI
  obtain ⟨v, hg, hown, hS, hvS⟩ := H
  obtain ⟨_, ao, c, rfl, _⟩ := hown
  have HG := Lib.hid hg
  have hb0 := heap_lt hg
  have he : ((xs.length : Int) == cap) = true := by simpa using hlen
  clear hf hg hvS hlen G
  rcases hop with rfl | rfl
  all_goals
    go_enter Try.func56, Try.ntmps56
    go_wp2_with fail
    refine HFI.out.mono ?_
    rintro e w1 ⟨rfl, ho⟩
    have HR8 := Lib.hid (ho.heap (heap_alloc_new w _) (fun h => h))
    have HO := Lib.hid ((Only.alloc (fun _ => False) w _).tr ho)
    have hg1 := HO.out.heap HG.out (fun h => h)
    have c0 := cells_of_heap hg1 0 (.int .i64 cap) rfl
    have c1 := cells_of_heap hg1 1 (.slice ao xs.length c) rfl
    have hlb := heap_lt hg1
    clear ho hg1
    go_wp2_with fail
    go_quiet (fail)
    go_wp2_with (refine wpList_store_row rfl 41 (.tmp 8) (.tmp 73) rfl w.heap.size _ rfl rfl 41 _ (heap_alloc (w := w1) HR8.out) (by kernel_rfl) rfl (res_one _ _ _ _ _ _) ?_)
    refine bodyPost_ret (results_cell_row rfl _ _ w.heap.size _ _ _ _ rfl (setRow_heap _ _ _ _ _ _ (heap_alloc (w := w1) HR8.out)) Try.underlying41 rfl (by kernel_rfl)) rfl ?_
    exact ⟨rfl, do_ro H0.out (only_row ((HO.out.tr (Only.alloc _ _ _)).drewN _).wide _ _ (.inr (Nat.le_refl _)))⟩

set_option maxRecDepth 100000 in
set_option maxHeartbeats 2000000 in
theorem do_add_yes (b : Nat) (cap : Int) (xs : List PairD) (S : Nat → Prop) (key val : Int) (w : World) (H : BookS b cap xs S w) (G : Good cap xs) (hf : hasP xs key = true) :
    Calls Try.prog 56 #[.pointer (some ⟨b, 0, none⟩), .int .i64 4, .int .u64 key, .int .u64 val] w (DoPost b S cap w (resF true (add64 (oldP xs key) val), xs.set (posP xs key) (key, add64 (oldP xs key) val))) := by
  obtain ⟨g, off, c, old, A⟩ := at_of H G.rising hf
  have HB := Lib.hid (BookS.framed.alloc H (.cells #[.int .i64 0, .bool false, .int .u64 0, .bool false, .int .u64 0, .int .u64 0] 41))
  have HFI := Lib.hid (find_any b cap xs S key _ HB.out G.rising (by have := G.len; have := G.hi; omega))
  rw [hf] at HFI
  rw [A.oldv]
  have HA := Lib.hid A
  have hlen : xs.length ≤ 1000 := by have := G.len; have := G.hi; omega
  clear H G hf A
  go_enter Try.func56, Try.ntmps56
  go_wp2_with fail
  refine HFI.out.mono ?_
  rintro e w1 ⟨rfl, ho⟩
  have HR8 := Lib.hid (ho.heap (heap_alloc_new w _) (fun h => h))
  have HO := Lib.hid ((Only.alloc (fun _ => False) w _).tr ho)
  have A1 := HA.out.on HO.out
  have c1 := cells_of_heap A1.hb 1 (.slice (some ⟨g, off, none⟩) xs.length c) rfl
  have c2 := A1.val
  have hp := A1.lt
  have hlb := heap_lt A1.hb
  have hlg := World.block_lt_of_cell? w1 _ A1.val
  dsimp only at hlg
  have hgb : ¬ g = b := A1.hne
  have HA1 := Lib.hid A1
  have hl8 := heap_lt HR8.out
  have hg0 := World.block_lt_of_cell? w _ HA.out.val
  dsimp only at hg0
  have hb0 := heap_lt HA.out.hb
  have fz := A1.frz
  clear ho A1
  obtain ⟨p, hpe⟩ : ∃ p, p = posP xs key := ⟨_, rfl⟩
  rw [← hpe] at c2 hp fz ⊢
  clear HFI
  have HPE := Lib.hid hpe
  clear hpe
  have hi0 : (0 : Int) ≤ (p : Int) := by omega
  have hi1 : (p : Int) < (xs.length : Int) := by omega
  go_wp2_with fail
  go_quiet (fail)
  go_upto_region 21 with (fail)
  obtain ⟨W2, hW2⟩ : ∃ W2, W2 = ((w1.alloc (.cells #[.int .i64 0, .bool true, .int .u64 old, .bool false, .int .u64 0, .int .u64 0] 41)).drewN nq).setCell ⟨w1.heap.size, 2, none⟩ (.int .u64 (IntKind.u64.wrap (old + val))) := ⟨_, rfl⟩
  have hr11' : W2.heap[w1.heap.size]? = some (.cells #[.int .i64 0, .bool true, .int .u64 (IntKind.u64.wrap (old + val)), .bool false, .int .u64 0, .int .u64 0] 41 (0, 0)) := by
    rw [hW2]; exact heap_setCell_same ((w1.alloc (.cells #[.int .i64 0, .bool true, .int .u64 old, .bool false, .int .u64 0, .int .u64 0] 41)).drewN nq) w1.heap.size 2 _ _ _ (heap_alloc_new w1 _)
  have hr8' : W2.heap[w.heap.size]? = some (.cells #[.int .i64 0, .bool false, .int .u64 0, .bool false, .int .u64 0, .int .u64 0] 41 (0, 0)) := by
    rw [hW2]; exact heap_setCell_far (w := (w1.alloc (.cells #[.int .i64 0, .bool true, .int .u64 old, .bool false, .int .u64 0, .int .u64 0] 41)).drewN nq) (heap_alloc (w := w1) HR8.out) _ _ _ (by omega)
  have o2 : Only (fun k => w1.heap.size ≤ k) w1 W2 := by
    rw [hW2]; exact ((Only.alloc _ _ _).drewN nq).tr (Only.setCell _ _ _ _ _ (Nat.le_refl _))
  have hfin := fun cs => setval_fin HA.out HO.out o2 hl8 (IntKind.u64.wrap (old + val)) cs
  rw [← HPE.out] at hfin
  obtain ⟨W3, hW3⟩ : ∃ W3, W3 = W2.setCell ⟨g, off + p * 2 + 1, none⟩ (.int .u64 (IntKind.u64.wrap (old + val))) := ⟨_, rfl⟩
  have hr11 := heap_setCell_far hr11' g (off + p * 2 + 1) (.int .u64 (IntKind.u64.wrap (old + val))) (by omega)
  have hr8 := heap_setCell_far hr8' g (off + p * 2 + 1) (.int .u64 (IntKind.u64.wrap (old + val))) (by omega)
  rw [← hW3] at hr11 hr8 hfin
  rw [← hW2, ← hW3]
  have e0 := cells_of_heap hr11 0 (.int .i64 0) rfl
  have e1 := cells_of_heap hr11 1 (.bool true) rfl
  have e2 := cells_of_heap hr11 2 (.int .u64 (IntKind.u64.wrap (old + val))) rfl
  have e3 := cells_of_heap hr11 3 (.bool false) rfl
  have e4 := cells_of_heap hr11 4 (.int .u64 0) rfl
  have e5 := cells_of_heap hr11 5 (.int .u64 0) rfl
  have HF3 := Lib.hid hfin
  have HR83 := Lib.hid hr8
  clear hW2 hW3 hr11 hr8 hr11' hr8' hfin o2 c1 c2 fz
  go_wp2_with (refine wpList_store_row rfl 41 (.tmp 8) (.tmp 105) rfl w.heap.size _ rfl rfl 41 _ HR83.out (by kernel_rfl) rfl (res_one _ _ _ _ _ _) ?_)
  refine bodyPost_ret (results_cell_row rfl _ _ w.heap.size _ _ _ _ rfl (setRow_heap _ _ _ _ _ _ HR83.out) Try.underlying41 rfl (by kernel_rfl)) rfl ?_
  exact ⟨rfl, by have h := HF3.out #[.int .i64 0, .bool true, .int .u64 (IntKind.u64.wrap (old + val)), .bool false, .int .u64 0, .int .u64 0]; rw [HPE.out] at h; exact h⟩

set_option maxRecDepth 100000 in
set_option maxHeartbeats 2000000 in
theorem do_put_yes (b : Nat) (cap : Int) (xs : List PairD) (S : Nat → Prop) (key val : Int) (w : World) (H : BookS b cap xs S w) (G : Good cap xs) (hf : hasP xs key = true) :
    Calls Try.prog 56 #[.pointer (some ⟨b, 0, none⟩), .int .i64 2, .int .u64 key, .int .u64 val] w (DoPost b S cap w (resF true (oldP xs key), xs.set (posP xs key) (key, val))) := by
  obtain ⟨g, off, c, old, A⟩ := at_of H G.rising hf
  have HB := Lib.hid (BookS.framed.alloc H (.cells #[.int .i64 0, .bool false, .int .u64 0, .bool false, .int .u64 0, .int .u64 0] 41))
  have HFI := Lib.hid (find_any b cap xs S key _ HB.out G.rising (by have := G.len; have := G.hi; omega))
  rw [hf] at HFI
  rw [A.oldv]
  have HA := Lib.hid A
  have hlen : xs.length ≤ 1000 := by have := G.len; have := G.hi; omega
  clear H G hf A
  go_enter Try.func56, Try.ntmps56
  go_wp2_with fail
  refine HFI.out.mono ?_
  rintro e w1 ⟨rfl, ho⟩
  have HR8 := Lib.hid (ho.heap (heap_alloc_new w _) (fun h => h))
  have HO := Lib.hid ((Only.alloc (fun _ => False) w _).tr ho)
  have A1 := HA.out.on HO.out
  have c1 := cells_of_heap A1.hb 1 (.slice (some ⟨g, off, none⟩) xs.length c) rfl
  have c2 := A1.val
  have hp := A1.lt
  have hlb := heap_lt A1.hb
  have hlg := World.block_lt_of_cell? w1 _ A1.val
  dsimp only at hlg
  have hgb : ¬ g = b := A1.hne
  have HA1 := Lib.hid A1
  have hl8 := heap_lt HR8.out
  have hg0 := World.block_lt_of_cell? w _ HA.out.val
  dsimp only at hg0
  have hb0 := heap_lt HA.out.hb
  have fz := A1.frz
  clear ho A1
  obtain ⟨p, hpe⟩ : ∃ p, p = posP xs key := ⟨_, rfl⟩
  rw [← hpe] at c2 hp fz ⊢
  clear HFI
  have HPE := Lib.hid hpe
  clear hpe
  have hi0 : (0 : Int) ≤ (p : Int) := by omega
  have hi1 : (p : Int) < (xs.length : Int) := by omega
  go_wp2_with fail
  go_quiet (fail)
  go_upto_region 21 with (fail)
  obtain ⟨W2, hW2⟩ : ∃ W2, W2 = (w1.alloc (.cells #[.int .i64 0, .bool true, .int .u64 old, .bool false, .int .u64 0, .int .u64 0] 41)).drewN nq := ⟨_, rfl⟩
  have hr11' : W2.heap[w1.heap.size]? = some (.cells #[.int .i64 0, .bool true, .int .u64 (old), .bool false, .int .u64 0, .int .u64 0] 41 (0, 0)) := by
    rw [hW2]; exact heap_alloc_new w1 _
  have hr8' : W2.heap[w.heap.size]? = some (.cells #[.int .i64 0, .bool false, .int .u64 0, .bool false, .int .u64 0, .int .u64 0] 41 (0, 0)) := by
    rw [hW2]; exact heap_alloc (w := w1) HR8.out
  have o2 : Only (fun k => w1.heap.size ≤ k) w1 W2 := by
    rw [hW2]; exact (Only.alloc _ _ _).drewN nq
  have hfin := fun cs => setval_fin HA.out HO.out o2 hl8 (val) cs
  rw [← HPE.out] at hfin
  obtain ⟨W3, hW3⟩ : ∃ W3, W3 = W2.setCell ⟨g, off + p * 2 + 1, none⟩ (.int .u64 (val)) := ⟨_, rfl⟩
  have hr11 := heap_setCell_far hr11' g (off + p * 2 + 1) (.int .u64 (val)) (by omega)
  have hr8 := heap_setCell_far hr8' g (off + p * 2 + 1) (.int .u64 (val)) (by omega)
  rw [← hW3] at hr11 hr8 hfin
  rw [← hW2, ← hW3]
  have e0 := cells_of_heap hr11 0 (.int .i64 0) rfl
  have e1 := cells_of_heap hr11 1 (.bool true) rfl
  have e2 := cells_of_heap hr11 2 (.int .u64 (old)) rfl
  have e3 := cells_of_heap hr11 3 (.bool false) rfl
  have e4 := cells_of_heap hr11 4 (.int .u64 0) rfl
  have e5 := cells_of_heap hr11 5 (.int .u64 0) rfl
  have HF3 := Lib.hid hfin
  have HR83 := Lib.hid hr8
  clear hW2 hW3 hr11 hr8 hr11' hr8' hfin o2 c1 c2 fz
  go_wp2_with (refine wpList_store_row rfl 41 (.tmp 8) (.tmp 105) rfl w.heap.size _ rfl rfl 41 _ HR83.out (by kernel_rfl) rfl (res_one _ _ _ _ _ _) ?_)
  refine bodyPost_ret (results_cell_row rfl _ _ w.heap.size _ _ _ _ rfl (setRow_heap _ _ _ _ _ _ HR83.out) Try.underlying41 rfl (by kernel_rfl)) rfl ?_
  exact ⟨rfl, by have h := HF3.out #[.int .i64 0, .bool true, .int .u64 (old), .bool false, .int .u64 0, .int .u64 0]; rw [HPE.out] at h; exact h⟩

theorem ins_fin {b : Nat} {cap : Int} {S : Nat → Prop} {w w2 W : World} {u : Value} {zs : List PairD} {m g2 off2 n c2 r : Nat} (hb2 : w2.heap[b]? = some (.cells #[.int .i64 cap, u] 110 (0, 0))) (hSb : S b) (hbl : b < w.heap.size)
    (how : OwS ePair 50 (fun k => (S k ∧ k < w.heap.size) ∨ m ≤ k) w2 (.slice (some ⟨g2, off2, none⟩) n c2) zs) (hm : w.heap.size < m) (ho : Only (fun k => (S k ∧ k < w.heap.size) ∨ w.heap.size ≤ k) w w2)
    (o3 : Only (fun k => k = r) (w2.setCell ⟨b, 1, none⟩ (.slice (some ⟨g2, off2, none⟩) n c2)) W) (hr : w.heap.size ≤ r) (hrg : g2 ≠ r) (p : Nat) (hp : p < zs.length) (key nv : Int) (hk : zs[p].1 = key) (cs : Array Value) :
    BookS b cap (zs.set p (key, nv)) (fun k => S k ∨ w.heap.size ≤ k) ((W.setCell ⟨g2, off2 + p * 2 + 1, none⟩ (.int .u64 nv)).setRow w.heap.size cs) ∧ Only S w ((W.setCell ⟨g2, off2 + p * 2 + 1, none⟩ (.int .u64 nv)).setRow w.heap.size cs) := by
  have hgb : g2 ≠ b := fun h => row_ne hb2 how.1 (by decide) (by simp [Value.ownBlock, h])
  have hgS := how.2 g2 rfl
  have o1 := Only.setCell (fun k => k = b) w2 b 1 (.slice (some ⟨g2, off2, none⟩) n c2) rfl
  have hb3 := o3.heap (blk_set hb2 1 (.slice (some ⟨g2, off2, none⟩) n c2)) (fun h => by omega)
  have hb4 := heap_setCell_far hb3 g2 (off2 + p * 2 + 1) (.int .u64 nv) (fun h => hgb h.symm)
  have hw := (((how.1.only o1 (fun k hk h => by
    obtain rfl : g2 = k := by simpa [Value.ownBlock] using hk
    exact hgb h)).only o3 (fun k hk h => by
    obtain rfl : g2 = k := by simpa [Value.ownBlock] using hk
    exact hrg h))).setVal p hp key nv hk
  refine do_fin2 (S := S) (m := m) hb4 hSb hbl ⟨hw, fun k hk => ?_⟩ hm ?_ cs
  · obtain rfl : g2 = k := by simpa [Value.ownBlock] using hk
    exact hgS
  · refine ((ho.trans o1 (fun k hk e => by subst e; exact .inl ⟨hSb, hbl⟩)).trans o3 (fun k hk e => by omega)).trans (Only.setCell (fun k => k = g2) W g2 _ _ rfl) fun k hk e => ?_
    subst e
    rcases hgS with h | h
    · exact .inl h
    · omega
theorem ins_set (xs : List PairD) (p : Nat) (hp : p ≤ xs.length) (k v : Int) : (xs.take p ++ (k, 0) :: xs.drop p).set p (k, v) = xs.take p ++ (k, v) :: xs.drop p := by
  have hl : (xs.take p).length = p := by simp; omega
  conv => lhs; rw [show p = (xs.take p).length from hl.symm]
  rw [List.set_append_right _ _ (by simp)]
  simp [hl]
theorem ins_at (xs : List PairD) (p : Nat) (hp : p ≤ xs.length) (k : Int) : ∃ h : p < (xs.take p ++ ((k, 0) : PairD) :: xs.drop p).length, (xs.take p ++ ((k, 0) : PairD) :: xs.drop p)[p] = (k, 0) := by
  have hl : (xs.take p).length = p := by simp; omega
  refine ⟨by simp; omega, ?_⟩
  rw [List.getElem_append_right (by omega)]
  simp [hl]

set_option maxRecDepth 100000 in
set_option maxHeartbeats 4000000 in
theorem do_put_no (b : Nat) (cap : Int) (xs : List PairD) (S : Nat → Prop) (key val : Int) (w : World) (H : BookS b cap xs S w) (G : Good cap xs) (hf : hasP xs key = false) (hlen : ¬ (xs.length : Int) = cap) :
    Calls Try.prog 56 #[.pointer (some ⟨b, 0, none⟩), .int .i64 2, .int .u64 key, .int .u64 val] w (DoPost b S cap w (resF false (0), xs.take (posP xs key) ++ (key, val) :: xs.drop (posP xs key))) := by
  have HB := Lib.hid (BookS.framed.alloc H (.cells #[.int .i64 0, .bool false, .int .u64 0, .bool false, .int .u64 0, .int .u64 0] 41))
  have HFI := Lib.hid (find_any b cap xs S key _ HB.out G.rising (by have := G.len; have := G.hi; omega))
  rw [hf] at HFI
  obtain ⟨v, hg, hown, hS, hvS⟩ := H
  have hvb := row_ne hg hown (by decide)
  have HW := Lib.hid hown
  have HVS := Lib.hid hvS
  have HVB := Lib.hid hvb
  obtain ⟨_, ao, c, rfl, _⟩ := hown
  have HG := Lib.hid hg
  have hb0 := heap_lt hg
  have he : ((xs.length : Int) == cap) = false := by simpa using hlen
  have hn1 : xs.length ≤ 1000 := by have := G.len; have := G.hi; omega
  have hp := posP_le xs key
  clear hf hg hvS hvb hlen G
  go_enter Try.func56, Try.ntmps56
  go_wp2_with fail
  refine HFI.out.mono ?_
  rintro e w1 ⟨rfl, ho⟩
  have HR8 := Lib.hid (ho.heap (heap_alloc_new w _) (fun h => h))
  have HO := Lib.hid ((Only.alloc (fun _ => False) w _).tr ho)
  have hg1 := HO.out.heap HG.out (fun h => h)
  have HG1 := Lib.hid hg1
  have HW1 := Lib.hid (HW.out.only HO.out (fun _ _ h => h))
  have c0 := cells_of_heap hg1 0 (.int .i64 cap) rfl
  have c1 := cells_of_heap hg1 1 (.slice ao xs.length c) rfl
  have hlb := heap_lt hg1
  have hl8 := heap_lt HR8.out
  clear ho hg1
  obtain ⟨p, hpe⟩ : ∃ p, p = posP xs key := ⟨_, rfl⟩
  rw [← hpe] at hp ⊢
  clear HFI
  have HPE := Lib.hid hpe
  clear hpe
  have hi0 : (0 : Int) ≤ (p : Int) := by omega
  go_wp2_with fail
  go_quiet (fail)
  go_wp2_with fail
  have HOW := Lib.hid (show Only (fun _ => False) w1 (((w1.alloc (.cells #[.int .i64 0, .bool false, .int .u64 0, .bool false, .int .u64 0, .int .u64 0] 41)).alloc (.cells #[.int .u64 key, .int .u64 0] 50)).drewN nq) from ((Only.alloc _ _ _).tr (Only.alloc _ _ _)).drewN nq)
  have hvb1 : (((w1.alloc (.cells #[.int .i64 0, .bool false, .int .u64 0, .bool false, .int .u64 0, .int .u64 0] 41)).alloc (.cells #[.int .u64 key, .int .u64 0] 50)).drewN nq).heap[w1.heap.size + 1]? = some (.cells #[.int .u64 (((key, 0) : PairD).1), .int .u64 (((key, 0) : PairD).2)] 50 (0, 0)) := heap_alloc2_new w1 _ _
  have hr111 : (((w1.alloc (.cells #[.int .i64 0, .bool false, .int .u64 0, .bool false, .int .u64 0, .int .u64 0] 41)).alloc (.cells #[.int .u64 key, .int .u64 0] 50)).drewN nq).heap[w1.heap.size]? = some (.cells #[.int .i64 0, .bool false, .int .u64 0, .bool false, .int .u64 0, .int .u64 0] 41 (0, 0)) := heap_alloc2_old w1 _ _
  have hsz : (((w1.alloc (.cells #[.int .i64 0, .bool false, .int .u64 0, .bool false, .int .u64 0, .int .u64 0] 41)).alloc (.cells #[.int .u64 key, .int .u64 0] 50)).drewN nq).heap.size = w1.heap.size + 2 := by
    show ((w1.alloc _).alloc _).heap.size = _
    simp
  refine (insert_any (fun k => (Value.slice ao xs.length c).ownBlock = some k) _ xs (key, 0) p _ (w1.heap.size + 1) ⟨HW1.out.only HOW.out (fun _ _ h => h), fun k hk => hk⟩ hp hn1 hvb1 (fun h => by have := (HW1.out.lt h).2; omega)).mono ?_
  rintro e w2 ⟨v', rfl, how2, ho2⟩
  have hvlt : ∀ k, (Value.slice ao xs.length c).ownBlock = some k → S k ∧ k < w.heap.size := fun k h => ⟨HVS.out k h, (HW.out.lt h).2⟩
  have hb2 := ho2.heap (HOW.out.heap HG1.out (fun h => h)) (fun h => HVB.out h)
  have hr11 := ho2.heap hr111 (fun h => by have := (hvlt _ h).2; omega)
  have hr8 := ho2.heap (HOW.out.heap HR8.out (fun h => h)) (fun h => by have := (hvlt _ h).2; omega)
  obtain ⟨hpl, hpat⟩ := ins_at xs p hp key
  have hzl : (xs.take p ++ ((key, 0) : PairD) :: xs.drop p).length = xs.length + 1 := by simp; omega
  obtain ⟨g2, off2, c2, rfl⟩ := how2.1.some_ (by omega)
  obtain ⟨g2', off2', hgo, _, hat⟩ := how2.1.at_ p hpl
  obtain ⟨rfl, rfl⟩ : g2 = g2' ∧ off2 = off2' := by simpa using hgo
  have hq : w2.cell? ⟨g2, off2 + p * 2 + 1, none⟩ = some (.int .u64 0) := by
    have h := (hat 1 (by decide)).1
    rw [hpat, ← Nat.add_assoc] at h
    exact h
  have hqz : w2.frozen? ⟨g2, off2 + p * 2 + 1, none⟩ = false := by
    have h := (hat 1 (by decide)).2
    rw [← Nat.add_assoc] at h
    exact h
  have hgb : g2 ≠ b := fun h => row_ne hb2 how2.1 (by decide) (by simp [Value.ownBlock, h])
  have hgr : g2 ≠ w1.heap.size := fun h => by
    rcases how2.2 g2 rfl with h2 | h2
    · have := (hvlt _ h2).2; omega
    · rw [hsz] at h2; omega
  have HGN := Lib.hid (show w.heap.size ≠ g2 from fun h => by
    rcases how2.2 g2 rfl with h2 | h2
    · have := (hvlt _ h2).2; omega
    · rw [hsz] at h2; omega)
  have HFIN := Lib.hid (fun W (o3 : Only (fun k => k = w1.heap.size) (w2.setCell ⟨b, 1, none⟩ (.slice (some ⟨g2, off2, none⟩) (xs.take p ++ ((key, 0) : PairD) :: xs.drop p).length c2)) W) cs =>
    ins_fin (S := S) (w := w) (m := w1.heap.size + 1) hb2 hS hb0 (OwS.framed.mono _ _ _ how2 (fun k _ h => by
      rcases h with h | h
      · exact .inl (hvlt k h)
      · rw [hsz] at h; exact .inr (by omega))) (by omega) (((HO.out.tr HOW.out).wide).trans ho2 (fun k hk e => .inl (hvlt k e))) o3 (by omega) hgr p hpl key (val) (by rw [hpat]) cs)
  have d1 := cells_of_heap hb2 1 (.slice ao xs.length c) rfl
  have z1 := frozen_of_row w2 b 1 _ _ hb2
  have HR11 := Lib.hid hr11
  have HR8' := Lib.hid hr8
  have HB2 := Lib.hid hb2
  have HQ := Lib.hid hq
  have HQZ := Lib.hid hqz
  rw [hzl] at HFIN ⊢
  clear c0 c1 hb2 hr11 hr8 how2 ho2 hat hgo hpat hpl hvlt hzl hq hqz hvb1 hr111 hsz
  go_upto_region 17 with (fail)
  obtain ⟨W3, hW3⟩ : ∃ W3, W3 = w2.setCell ⟨b, 1, none⟩ (.slice (some ⟨g2, off2, none⟩) (xs.length + 1) c2) := ⟨_, rfl⟩
  have hfin := HFIN.out
  rw [← hW3] at hfin
  have HF2 := Lib.hid hfin
  have kb : W3.heap[b]? = some (.cells #[.int .i64 cap, .slice (some ⟨g2, off2, none⟩) (xs.length + 1) c2] 110 (0, 0)) := by rw [hW3]; exact blk_set HB2.out 1 _
  have kr : W3.heap[w1.heap.size]? = some (.cells #[.int .i64 0, .bool false, .int .u64 0, .bool false, .int .u64 0, .int .u64 0] 41 (0, 0)) := by rw [hW3]; exact heap_setCell_far HR11.out _ _ _ (by omega)
  have k8 : W3.heap[w.heap.size]? = some (.cells #[.int .i64 0, .bool false, .int .u64 0, .bool false, .int .u64 0, .int .u64 0] 41 (0, 0)) := by rw [hW3]; exact heap_setCell_far HR8'.out _ _ _ (by omega)
  have hq3 : W3.cell? ⟨g2, off2 + p * 2 + 1, none⟩ = some (.int .u64 0) := by rw [hW3]; exact (World.cell?_setCell_far _ _ _ _ (fun h => hgb h.symm)).trans HQ.out
  have hz3 : W3.frozen? ⟨g2, off2 + p * 2 + 1, none⟩ = false := by rw [hW3]; simpa using HQZ.out
  simp only [← hW3]
  have f1 := cells_of_heap kb 1 (.slice (some ⟨g2, off2, none⟩) (xs.length + 1) c2) rfl
  have KR := Lib.hid kr
  have K8 := Lib.hid k8
  have f2 := cells_of_heap kr 2 (.int .u64 0) rfl
  have zr := frozen_of_row W3 w1.heap.size 2 _ _ kr
  have n1 : ¬ w1.heap.size = b := by omega
  have n2 : ¬ b = w1.heap.size := by omega
  have n3 : ¬ w1.heap.size = g2 := fun h => hgr h.symm
  have n4 : ¬ g2 = w1.heap.size := hgr
  have hi1 : (p : Int) < (xs.length : Int) + 1 := by omega
  have hi2 : p < xs.length + 1 := by omega
  clear hW3 hfin HFIN kb kr k8 d1 z1
  go_upto_region 21 with (fail)
  obtain ⟨W4, hW4⟩ : ∃ W4, W4 = W3 := ⟨_, rfl⟩
  have kr4 : W4.heap[w1.heap.size]? = some (.cells #[.int .i64 0, .bool false, .int .u64 (0), .bool false, .int .u64 0, .int .u64 0] 41 (0, 0)) := by rw [hW4]; exact KR.out
  have k84 : W4.heap[w.heap.size]? = some (.cells #[.int .i64 0, .bool false, .int .u64 0, .bool false, .int .u64 0, .int .u64 0] 41 (0, 0)) := by rw [hW4]; exact K8.out
  have o4 : Only (fun k => k = w1.heap.size) W3 W4 := by rw [hW4]; exact Only.refl _ _
  have hfin := HF2.out W4 o4
  rw [ins_set xs p hp] at hfin
  obtain ⟨W5, hW5⟩ : ∃ W5, W5 = W4.setCell ⟨g2, off2 + p * 2 + 1, none⟩ (.int .u64 (val)) := ⟨_, rfl⟩
  have hr11 := heap_setCell_far kr4 g2 (off2 + p * 2 + 1) (.int .u64 (val)) n3
  have hr8 := heap_setCell_far k84 g2 (off2 + p * 2 + 1) (.int .u64 (val)) HGN.out
  rw [← hW5] at hr11 hr8 hfin
  rw [← hW4, ← hW5]
  have e0 := cells_of_heap hr11 0 (.int .i64 0) rfl
  have e1 := cells_of_heap hr11 1 (.bool false) rfl
  have e2 := cells_of_heap hr11 2 (.int .u64 (0)) rfl
  have e3 := cells_of_heap hr11 3 (.bool false) rfl
  have e4 := cells_of_heap hr11 4 (.int .u64 0) rfl
  have e5 := cells_of_heap hr11 5 (.int .u64 0) rfl
  have HF3 := Lib.hid hfin
  have HR83 := Lib.hid hr8
  clear hW4 hW5 hr11 hr8 kr4 k84 hfin o4 f1 f2 zr hq3 hz3
  go_wp2_with (refine wpList_store_row rfl 41 (.tmp 8) (.tmp 105) rfl w.heap.size _ rfl rfl 41 _ HR83.out (by kernel_rfl) rfl (res_one _ _ _ _ _ _) ?_)
  refine bodyPost_ret (results_cell_row rfl _ _ w.heap.size _ _ _ _ rfl (setRow_heap _ _ _ _ _ _ HR83.out) Try.underlying41 rfl (by kernel_rfl)) rfl ?_
  refine ⟨rfl, ?_⟩
  have h := HF3.out #[.int .i64 0, .bool false, .int .u64 (0), .bool false, .int .u64 0, .int .u64 0]
  rw [HPE.out] at h
  exact h

set_option maxRecDepth 100000 in
set_option maxHeartbeats 4000000 in
theorem do_add_no (b : Nat) (cap : Int) (xs : List PairD) (S : Nat → Prop) (key val : Int) (w : World) (H : BookS b cap xs S w) (G : Good cap xs) (hf : hasP xs key = false) (hlen : ¬ (xs.length : Int) = cap) :
    Calls Try.prog 56 #[.pointer (some ⟨b, 0, none⟩), .int .i64 4, .int .u64 key, .int .u64 val] w (DoPost b S cap w (resF false (add64 0 val), xs.take (posP xs key) ++ (key, add64 0 val) :: xs.drop (posP xs key))) := by
  have HB := Lib.hid (BookS.framed.alloc H (.cells #[.int .i64 0, .bool false, .int .u64 0, .bool false, .int .u64 0, .int .u64 0] 41))
  have HFI := Lib.hid (find_any b cap xs S key _ HB.out G.rising (by have := G.len; have := G.hi; omega))
  rw [hf] at HFI
  obtain ⟨v, hg, hown, hS, hvS⟩ := H
  have hvb := row_ne hg hown (by decide)
  have HW := Lib.hid hown
  have HVS := Lib.hid hvS
  have HVB := Lib.hid hvb
  obtain ⟨_, ao, c, rfl, _⟩ := hown
  have HG := Lib.hid hg
  have hb0 := heap_lt hg
  have he : ((xs.length : Int) == cap) = false := by simpa using hlen
  have hn1 : xs.length ≤ 1000 := by have := G.len; have := G.hi; omega
  have hp := posP_le xs key
  clear hf hg hvS hvb hlen G
  go_enter Try.func56, Try.ntmps56
  go_wp2_with fail
  refine HFI.out.mono ?_
  rintro e w1 ⟨rfl, ho⟩
  have HR8 := Lib.hid (ho.heap (heap_alloc_new w _) (fun h => h))
  have HO := Lib.hid ((Only.alloc (fun _ => False) w _).tr ho)
  have hg1 := HO.out.heap HG.out (fun h => h)
  have HG1 := Lib.hid hg1
  have HW1 := Lib.hid (HW.out.only HO.out (fun _ _ h => h))
  have c0 := cells_of_heap hg1 0 (.int .i64 cap) rfl
  have c1 := cells_of_heap hg1 1 (.slice ao xs.length c) rfl
  have hlb := heap_lt hg1
  have hl8 := heap_lt HR8.out
  clear ho hg1
  obtain ⟨p, hpe⟩ : ∃ p, p = posP xs key := ⟨_, rfl⟩
  rw [← hpe] at hp ⊢
  clear HFI
  have HPE := Lib.hid hpe
  clear hpe
  have hi0 : (0 : Int) ≤ (p : Int) := by omega
  go_wp2_with fail
  go_quiet (fail)
  go_wp2_with fail
  have HOW := Lib.hid (show Only (fun _ => False) w1 (((w1.alloc (.cells #[.int .i64 0, .bool false, .int .u64 0, .bool false, .int .u64 0, .int .u64 0] 41)).alloc (.cells #[.int .u64 key, .int .u64 0] 50)).drewN nq) from ((Only.alloc _ _ _).tr (Only.alloc _ _ _)).drewN nq)
  have hvb1 : (((w1.alloc (.cells #[.int .i64 0, .bool false, .int .u64 0, .bool false, .int .u64 0, .int .u64 0] 41)).alloc (.cells #[.int .u64 key, .int .u64 0] 50)).drewN nq).heap[w1.heap.size + 1]? = some (.cells #[.int .u64 (((key, 0) : PairD).1), .int .u64 (((key, 0) : PairD).2)] 50 (0, 0)) := heap_alloc2_new w1 _ _
  have hr111 : (((w1.alloc (.cells #[.int .i64 0, .bool false, .int .u64 0, .bool false, .int .u64 0, .int .u64 0] 41)).alloc (.cells #[.int .u64 key, .int .u64 0] 50)).drewN nq).heap[w1.heap.size]? = some (.cells #[.int .i64 0, .bool false, .int .u64 0, .bool false, .int .u64 0, .int .u64 0] 41 (0, 0)) := heap_alloc2_old w1 _ _
  have hsz : (((w1.alloc (.cells #[.int .i64 0, .bool false, .int .u64 0, .bool false, .int .u64 0, .int .u64 0] 41)).alloc (.cells #[.int .u64 key, .int .u64 0] 50)).drewN nq).heap.size = w1.heap.size + 2 := by
    show ((w1.alloc _).alloc _).heap.size = _
    simp
  refine (insert_any (fun k => (Value.slice ao xs.length c).ownBlock = some k) _ xs (key, 0) p _ (w1.heap.size + 1) ⟨HW1.out.only HOW.out (fun _ _ h => h), fun k hk => hk⟩ hp hn1 hvb1 (fun h => by have := (HW1.out.lt h).2; omega)).mono ?_
  rintro e w2 ⟨v', rfl, how2, ho2⟩
  have hvlt : ∀ k, (Value.slice ao xs.length c).ownBlock = some k → S k ∧ k < w.heap.size := fun k h => ⟨HVS.out k h, (HW.out.lt h).2⟩
  have hb2 := ho2.heap (HOW.out.heap HG1.out (fun h => h)) (fun h => HVB.out h)
  have hr11 := ho2.heap hr111 (fun h => by have := (hvlt _ h).2; omega)
  have hr8 := ho2.heap (HOW.out.heap HR8.out (fun h => h)) (fun h => by have := (hvlt _ h).2; omega)
  obtain ⟨hpl, hpat⟩ := ins_at xs p hp key
  have hzl : (xs.take p ++ ((key, 0) : PairD) :: xs.drop p).length = xs.length + 1 := by simp; omega
  obtain ⟨g2, off2, c2, rfl⟩ := how2.1.some_ (by omega)
  obtain ⟨g2', off2', hgo, _, hat⟩ := how2.1.at_ p hpl
  obtain ⟨rfl, rfl⟩ : g2 = g2' ∧ off2 = off2' := by simpa using hgo
  have hq : w2.cell? ⟨g2, off2 + p * 2 + 1, none⟩ = some (.int .u64 0) := by
    have h := (hat 1 (by decide)).1
    rw [hpat, ← Nat.add_assoc] at h
    exact h
  have hqz : w2.frozen? ⟨g2, off2 + p * 2 + 1, none⟩ = false := by
    have h := (hat 1 (by decide)).2
    rw [← Nat.add_assoc] at h
    exact h
  have hgb : g2 ≠ b := fun h => row_ne hb2 how2.1 (by decide) (by simp [Value.ownBlock, h])
  have hgr : g2 ≠ w1.heap.size := fun h => by
    rcases how2.2 g2 rfl with h2 | h2
    · have := (hvlt _ h2).2; omega
    · rw [hsz] at h2; omega
  have HGN := Lib.hid (show w.heap.size ≠ g2 from fun h => by
    rcases how2.2 g2 rfl with h2 | h2
    · have := (hvlt _ h2).2; omega
    · rw [hsz] at h2; omega)
  have HFIN := Lib.hid (fun W (o3 : Only (fun k => k = w1.heap.size) (w2.setCell ⟨b, 1, none⟩ (.slice (some ⟨g2, off2, none⟩) (xs.take p ++ ((key, 0) : PairD) :: xs.drop p).length c2)) W) cs =>
    ins_fin (S := S) (w := w) (m := w1.heap.size + 1) hb2 hS hb0 (OwS.framed.mono _ _ _ how2 (fun k _ h => by
      rcases h with h | h
      · exact .inl (hvlt k h)
      · rw [hsz] at h; exact .inr (by omega))) (by omega) (((HO.out.tr HOW.out).wide).trans ho2 (fun k hk e => .inl (hvlt k e))) o3 (by omega) hgr p hpl key (IntKind.u64.wrap val) (by rw [hpat]) cs)
  have d1 := cells_of_heap hb2 1 (.slice ao xs.length c) rfl
  have z1 := frozen_of_row w2 b 1 _ _ hb2
  have HR11 := Lib.hid hr11
  have HR8' := Lib.hid hr8
  have HB2 := Lib.hid hb2
  have HQ := Lib.hid hq
  have HQZ := Lib.hid hqz
  rw [hzl] at HFIN ⊢
  clear c0 c1 hb2 hr11 hr8 how2 ho2 hat hgo hpat hpl hvlt hzl hq hqz hvb1 hr111 hsz
  go_upto_region 17 with (fail)
  obtain ⟨W3, hW3⟩ : ∃ W3, W3 = w2.setCell ⟨b, 1, none⟩ (.slice (some ⟨g2, off2, none⟩) (xs.length + 1) c2) := ⟨_, rfl⟩
  have hfin := HFIN.out
  rw [← hW3] at hfin
  have HF2 := Lib.hid hfin
  have kb : W3.heap[b]? = some (.cells #[.int .i64 cap, .slice (some ⟨g2, off2, none⟩) (xs.length + 1) c2] 110 (0, 0)) := by rw [hW3]; exact blk_set HB2.out 1 _
  have kr : W3.heap[w1.heap.size]? = some (.cells #[.int .i64 0, .bool false, .int .u64 0, .bool false, .int .u64 0, .int .u64 0] 41 (0, 0)) := by rw [hW3]; exact heap_setCell_far HR11.out _ _ _ (by omega)
  have k8 : W3.heap[w.heap.size]? = some (.cells #[.int .i64 0, .bool false, .int .u64 0, .bool false, .int .u64 0, .int .u64 0] 41 (0, 0)) := by rw [hW3]; exact heap_setCell_far HR8'.out _ _ _ (by omega)
  have hq3 : W3.cell? ⟨g2, off2 + p * 2 + 1, none⟩ = some (.int .u64 0) := by rw [hW3]; exact (World.cell?_setCell_far _ _ _ _ (fun h => hgb h.symm)).trans HQ.out
  have hz3 : W3.frozen? ⟨g2, off2 + p * 2 + 1, none⟩ = false := by rw [hW3]; simpa using HQZ.out
  simp only [← hW3]
  have f1 := cells_of_heap kb 1 (.slice (some ⟨g2, off2, none⟩) (xs.length + 1) c2) rfl
  have KR := Lib.hid kr
  have K8 := Lib.hid k8
  have f2 := cells_of_heap kr 2 (.int .u64 0) rfl
  have zr := frozen_of_row W3 w1.heap.size 2 _ _ kr
  have n1 : ¬ w1.heap.size = b := by omega
  have n2 : ¬ b = w1.heap.size := by omega
  have n3 : ¬ w1.heap.size = g2 := fun h => hgr h.symm
  have n4 : ¬ g2 = w1.heap.size := hgr
  have hi1 : (p : Int) < (xs.length : Int) + 1 := by omega
  have hi2 : p < xs.length + 1 := by omega
  clear hW3 hfin HFIN kb kr k8 d1 z1
  go_upto_region 21 with (fail)
  obtain ⟨W4, hW4⟩ : ∃ W4, W4 = W3.setCell ⟨w1.heap.size, 2, none⟩ (.int .u64 (IntKind.u64.wrap val)) := ⟨_, rfl⟩
  have kr4 : W4.heap[w1.heap.size]? = some (.cells #[.int .i64 0, .bool false, .int .u64 (IntKind.u64.wrap val), .bool false, .int .u64 0, .int .u64 0] 41 (0, 0)) := by rw [hW4]; exact heap_setCell_same W3 w1.heap.size 2 _ _ _ KR.out
  have k84 : W4.heap[w.heap.size]? = some (.cells #[.int .i64 0, .bool false, .int .u64 0, .bool false, .int .u64 0, .int .u64 0] 41 (0, 0)) := by rw [hW4]; exact heap_setCell_far K8.out _ _ _ (by omega)
  have o4 : Only (fun k => k = w1.heap.size) W3 W4 := by rw [hW4]; exact Only.setCell _ _ _ _ _ rfl
  have hfin := HF2.out W4 o4
  rw [ins_set xs p hp] at hfin
  obtain ⟨W5, hW5⟩ : ∃ W5, W5 = W4.setCell ⟨g2, off2 + p * 2 + 1, none⟩ (.int .u64 (IntKind.u64.wrap val)) := ⟨_, rfl⟩
  have hr11 := heap_setCell_far kr4 g2 (off2 + p * 2 + 1) (.int .u64 (IntKind.u64.wrap val)) n3
  have hr8 := heap_setCell_far k84 g2 (off2 + p * 2 + 1) (.int .u64 (IntKind.u64.wrap val)) HGN.out
  rw [← hW5] at hr11 hr8 hfin
  rw [← hW4, ← hW5]
  have e0 := cells_of_heap hr11 0 (.int .i64 0) rfl
  have e1 := cells_of_heap hr11 1 (.bool false) rfl
  have e2 := cells_of_heap hr11 2 (.int .u64 (IntKind.u64.wrap val)) rfl
  have e3 := cells_of_heap hr11 3 (.bool false) rfl
  have e4 := cells_of_heap hr11 4 (.int .u64 0) rfl
  have e5 := cells_of_heap hr11 5 (.int .u64 0) rfl
  have HF3 := Lib.hid hfin
  have HR83 := Lib.hid hr8
  clear hW4 hW5 hr11 hr8 kr4 k84 hfin o4 f1 f2 zr hq3 hz3
  go_wp2_with (refine wpList_store_row rfl 41 (.tmp 8) (.tmp 105) rfl w.heap.size _ rfl rfl 41 _ HR83.out (by kernel_rfl) rfl (res_one _ _ _ _ _ _) ?_)
  refine bodyPost_ret (results_cell_row rfl _ _ w.heap.size _ _ _ _ rfl (setRow_heap _ _ _ _ _ _ HR83.out) Try.underlying41 rfl (by kernel_rfl)) rfl ?_
  refine ⟨by simp [resF, add64], ?_⟩
  have h := HF3.out #[.int .i64 0, .bool false, .int .u64 (IntKind.u64.wrap val), .bool false, .int .u64 0, .int .u64 0]
  rw [HPE.out] at h
  simpa [add64] using h

def ResD.val (r : ResD) : Value := .agg #[.int .i64 r.1, .bool r.2.1, .int .u64 r.2.2.1, .bool r.2.2.2.1, .int .u64 r.2.2.2.2.1, .int .u64 r.2.2.2.2.2]
theorem do_any (b : Nat) (cap : Int) (xs : List PairD) (S : Nat → Prop) (op key val : Int) (w : World) (H : BookS b cap xs S w) (G : Good cap xs) :
    Calls Try.prog 56 #[.pointer (some ⟨b, 0, none⟩), .int .i64 op, .int .u64 key, .int .u64 val] w (DoPost b S cap w (doP cap xs op key val)) := by
  unfold doP
  by_cases h0 : op = 0
  · subst h0
    rw [if_pos rfl]
    cases hf : hasP xs key
    · have := do_get_no b cap xs S key val w H G hf
      rwa [show oldP xs key = 0 by unfold oldP; rw [hf]; rfl]
    · exact do_get_yes b cap xs S key val w H G hf
  rw [if_neg h0]
  by_cases h1 : op = 1
  · subst h1
    rw [if_pos rfl]
    exact do_has b cap xs S key val w H G
  rw [if_neg h1]
  by_cases h3 : op = 3
  · subst h3
    rw [if_pos rfl]
    unfold delP
    cases hf : hasP xs key
    · have := do_del_no b cap xs S key val w H G hf
      rwa [show oldP xs key = 0 by unfold oldP; rw [hf]; rfl]
    · exact do_del_yes b cap xs S key val w H G hf
  rw [if_neg h3]
  by_cases h2 : op = 2
  · subst h2
    rw [if_pos rfl]
    cases hf : hasP xs key
    · by_cases hl : (xs.length : Int) = cap
      · rw [if_pos (by unfold full; rw [hf]; simpa using hl)]
        exact do_full b cap xs S 2 key val w H G (.inl rfl) hf hl
      · rw [if_neg (by unfold full; rw [hf]; simpa using hl)]
        have := do_put_no b cap xs S key val w H G hf hl
        rw [show oldP xs key = 0 by unfold oldP; rw [hf]; rfl]
        unfold putP
        rw [hf]
        exact this
    · rw [if_neg (by unfold full; rw [hf]; simp)]
      unfold putP
      rw [hf]
      exact do_put_yes b cap xs S key val w H G hf
  rw [if_neg h2]
  by_cases h4 : op = 4
  · subst h4
    rw [if_pos rfl]
    cases hf : hasP xs key
    · by_cases hl : (xs.length : Int) = cap
      · rw [if_pos (by unfold full; rw [hf]; simpa using hl)]
        exact do_full b cap xs S 4 key val w H G (.inr rfl) hf hl
      · rw [if_neg (by unfold full; rw [hf]; simpa using hl)]
        have := do_add_no b cap xs S key val w H G hf hl
        rw [show oldP xs key = 0 by unfold oldP; rw [hf]; rfl]
        unfold putP
        rw [hf]
        exact this
    · rw [if_neg (by unfold full; rw [hf]; simp)]
      unfold putP
      rw [hf]
      exact do_add_yes b cap xs S key val w H G hf
  rw [if_neg h4]
  exact do_bad b cap xs S op key val w H (by omega)

theorem new_bad (cap : Int) (w : World) (h : cap < 1 ∨ 16 < cap) :
    Calls Try.prog 31 #[.int .i64 cap] w fun e w' => e = .returned (.tuple #[.pointer none, .int .i64 2]) ∧ Only (fun _ => False) w w' := by
  by_cases h1 : cap < 1
  · clear h
    go_enter Try.func31, Try.ntmps31
    go_wp2_with fail
    go_ret2
    exact ⟨rfl, Only.refl _ _⟩
  · have h2 : 16 < cap := by omega
    clear h
    go_enter Try.func31, Try.ntmps31
    go_wp2_with fail
    go_ret2
    exact ⟨rfl, Only.refl _ _⟩
theorem new_ok (cap : Int) (w : World) (h1 : 1 ≤ cap) (h2 : cap ≤ 16) :
    Calls Try.prog 31 #[.int .i64 cap] w fun e w' => ∃ b, e = .returned (.tuple #[.pointer (some ⟨b, 0, none⟩), .int .i64 0]) ∧ BookS b cap [] (fun k => w.heap.size ≤ k) w' ∧ Only (fun _ => False) w w' := by
  go_enter Try.func31, Try.ntmps31
  go_wp2_with fail
  go_ret2
  exact ⟨w.heap.size, rfl, ⟨_, heap_alloc_new w _, Ow.nil _ _ _, Nat.le_refl _, fun k hk => by simp [Value.ownBlock] at hk⟩, Only.alloc _ _ _⟩
end Go.Proofs.Ytdlkblklfoagbaa
