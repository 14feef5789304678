/- slices.Insert of one pair, wherever. -/
import Derived.Test.YtodacnpbhlkoiaaInsert2
namespace Go.Proofs.Ytodacnpbhlkoiaa
open Go.RowKit
set_option linter.unusedVariables false
set_option linter.unusedSimpArgs false

def SliceIs (S : Nat → Prop) (ys : List PairD) (w : World) (e : Ending) (w' : World) : Prop :=
  ∃ v', e = .returned v' ∧ OwS ePair 46 (fun k => S k ∨ w.heap.size ≤ k) w' v' ys ∧ Only S w w'

set_option maxHeartbeats 400000 in
set_option maxRecDepth 100000 in
theorem insert_end (S : Nat → Prop) (v : Value) (xs : List PairD) (x : PairD) (w : World) (vb : Nat) (hown : OwS ePair 46 S w v xs) (hn1 : xs.length ≤ 1000)
    (hvb : w.heap[vb]? = some (.cells #[.int .u64 x.1, .int .u64 x.2] 46 (0, 0))) :
    Calls Try.prog 32 #[v, .int .i64 (xs.length : Int), .slice (some ⟨vb, 0, none⟩) 1 1] w (SliceIs S (xs ++ [x]) w) := by
  have HW := Lib.hid hown
  obtain ⟨⟨_, ao, cap, rfl, hlc, hcm, _, _⟩, _⟩ := hown
  have hrd : Rd ePair w (.slice (some ⟨vb, 0, none⟩) 1 1) [x] := ⟨by simp [maxLen], _, 1, rfl, by simp, fun h => by simp at h, fun _ => ⟨vb, 0, rfl, fun j u hj => by
    rw [cell_of_row w vb _ _ _ _ hvb, Nat.zero_add]
    simpa [Enc.all] using hj⟩⟩
  have HRD := Lib.hid hrd
  unfold maxLen at hcm
  clear hvb hrd
  have hnn : (0 : Int) ≤ (xs.length : Int) := by omega
  have heq : ((xs.length : Int) == (xs.length : Int)) = true := by simp
  by_cases hcn : cap = xs.length
  all_goals
   go_enter Try.func32, Try.ntmps32
   go_wp2_with (at_builtin; refine wl_appendS (E := ePair) rfl _ (.tmp 24) _ rfl 46 16 ePair_slice S _ xs rfl HW.out _ [x] rfl HRD.out (by simp; omega) (by unfold maxLen; simp; omega) ?_)
   intro v2 w2 h2 ho2
   go_wp2_with fail
   go_ret
   exact ⟨_, rfl, h2, ho2⟩

theorem insert_any (S : Nat → Prop) (v : Value) (xs : List PairD) (x : PairD) (i : Nat) (w : World) (vb : Nat) (hown : OwS ePair 46 S w v xs) (hi : i ≤ xs.length) (hn1 : xs.length ≤ 1000)
    (hvb : w.heap[vb]? = some (.cells #[.int .u64 x.1, .int .u64 x.2] 46 (0, 0))) (hS : ¬ S vb) :
    Calls Try.prog 32 #[v, .int .i64 (i : Int), .slice (some ⟨vb, 0, none⟩) 1 1] w (SliceIs S (xs.take i ++ x :: xs.drop i) w) := by
  by_cases h : i = xs.length
  · subst h
    have := insert_end S v xs x w vb hown hn1 hvb
    simpa using this
  · obtain ⟨g, off, cap, rfl⟩ := hown.1.some_ (by omega)
    obtain ⟨⟨hm, ao', cap', he, hlc, hcm, _, hx⟩, hSg⟩ := hown
    obtain ⟨rfl, _, rfl⟩ : some ⟨g, off, none⟩ = ao' ∧ xs.length = xs.length ∧ cap = cap' := by simpa using he
    obtain ⟨g', off', cur, hgo, _, hh, hs, ht⟩ := hx _ rfl
    obtain ⟨rfl, rfl⟩ : g = g' ∧ off = off' := by simpa using hgo
    have hgS : S g := hSg g rfl
    have hlen : (xs.take i ++ x :: xs.drop i).length = xs.length + 1 := by simp; omega
    have hne : vb ≠ g := fun h => hS (h ▸ hgS)
    by_cases hroom : xs.length + 1 ≤ cap
    · refine (insert_room g off cap i vb cur xs x w (by omega) hroom (by unfold maxLen at hcm; omega) hh hs ht hvb hne).mono ?_
      rintro e w' ⟨rfl, ⟨cur', h1, h2, h3⟩, ho⟩
      refine ⟨_, rfl, ⟨⟨by rw [hlen]; unfold maxLen; omega, some ⟨g, off, none⟩, cap, by rw [hlen], by rw [hlen]; exact hroom, hcm, fun h => by simp at h, fun a ha => ⟨g, off, cur', by simpa using ha.symm, Nat.zero_le _, h1, by rw [h2]; exact hs, by rw [hlen]; exact h3⟩⟩, fun k hk => .inl (by
        obtain rfl : g = k := by simpa [Value.ownBlock] using hk
        exact hgS)⟩, ho.mono fun k _ e => by subst e; exact hgS⟩
    · obtain rfl : cap = xs.length := by omega
      refine (insert_grow g off i vb cur xs x w (by omega) hn1 hh hs ht hvb).mono ?_
      rintro e w' ⟨c2, rfl, hc1, hc2, ⟨cur', h1, h2, h3⟩, ho⟩
      refine ⟨_, rfl, ⟨⟨by rw [hlen]; unfold maxLen; omega, some ⟨w.heap.size, 0, none⟩, c2, by rw [hlen], by rw [hlen]; exact hc1, hc2, fun h => by simp at h, fun a ha => ⟨w.heap.size, 0, cur', by simpa using ha.symm, Nat.zero_le _, h1, by rw [Nat.zero_add]; exact h2, by rw [hlen, List.drop_zero]; exact h3⟩⟩, fun k hk => .inr (by
        obtain rfl : w.heap.size = k := by simpa [Value.ownBlock] using hk
        exact Nat.le_refl _)⟩, ho.mono fun k _ h => h.elim⟩
end Go.Proofs.Ytodacnpbhlkoiaa
