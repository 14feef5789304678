/- book: the document's book: New, place. -/
import Derived.Test.YthekjeghodpcoaaBookKey
namespace Go.Proofs.Ythekjeghodpcoaa
open Go.RowKit
set_option linter.unusedVariables false
set_option linter.unusedSimpArgs false

/-- the document's book: its room, its pairs as they came -/
def RefS (x : Nat) (cap : Int) (L : List PairD) (S : Nat → Prop) (w : World) : Prop := Obj1 ePair 47 39 (fun v => #[.int .i64 cap, v]) x L S w
theorem RefS.framed {x : Nat} {cap : Int} {L : List PairD} : Framed (RefS x cap L) := Obj1.framed
def placeP (L : List PairD) (k : Int) : Int := if hasP L k then ((L.findIdx fun p => p.1 == k : Nat) : Int) else -1
theorem place_at {L : List PairD} {k : Int} {i : Nat} (hi : i < L.length) (h1 : ∀ a (h : a < L.length), a < i → L[a].1 ≠ k) (h2 : L[i].1 = k) : placeP L k = i ∧ hasP L k = true := by
  have hh : hasP L k = true := mem_has.2 ⟨L[i].2, by rw [← h2]; exact List.getElem_mem _⟩
  refine ⟨?_, hh⟩
  unfold placeP
  rw [hh, if_pos rfl]
  have : L.findIdx (fun p => p.1 == k) = i := (List.findIdx_eq hi).2 ⟨by simpa using h2, fun j hj => by have := h1 j (by omega) hj; simpa using this⟩
  rw [this]
theorem place_none {L : List PairD} {k : Int} (h1 : ∀ a (h : a < L.length), L[a].1 ≠ k) : placeP L k = -1 ∧ hasP L k = false := by
  have hh : hasP L k = false := by
    unfold hasP
    rw [List.any_eq_false]
    intro p hp
    obtain ⟨a, ha, rfl⟩ := List.getElem_of_mem hp
    have := h1 a ha
    simpa using this
  refine ⟨?_, hh⟩
  unfold placeP
  rw [hh]; rfl
def NoneTo (L : List PairD) (k : Int) (i : Nat) : Prop := ∀ a (h : a < L.length), a < i → L[a].1 ≠ k

theorem refNew_bad (cap : Int) (w : World) (h : cap < 1 ∨ 16 < cap) :
    Calls Try.prog 13 #[.int .i64 cap] w fun e w' => e = .returned (.tuple #[.pointer none, .int .i64 2]) ∧ Only (fun _ => False) w w' := by
  by_cases h1 : cap < 1
  · clear h
    go_enter Try.func13, Try.ntmps13
    go_wp2_with fail
    go_ret2
    exact ⟨rfl, Only.refl _ _⟩
  · have h2 : 16 < cap := by omega
    clear h
    go_enter Try.func13, Try.ntmps13
    go_wp2_with fail
    go_ret2
    exact ⟨rfl, Only.refl _ _⟩
theorem refNew_ok (cap : Int) (w : World) (h1 : 1 ≤ cap) (h2 : cap ≤ 16) :
    Calls Try.prog 13 #[.int .i64 cap] w fun e w' => ∃ b, e = .returned (.tuple #[.pointer (some ⟨b, 0, none⟩), .int .i64 0]) ∧ RefS b cap [] (fun k => w.heap.size ≤ k) w' ∧ Only (fun _ => False) w w' := by
  go_enter Try.func13, Try.ntmps13
  go_wp2_with fail
  go_ret2
  exact ⟨w.heap.size, rfl, ⟨_, heap_alloc_new w _, Ow.nil _ _ _, Nat.le_refl _, fun k hk => by simp [Value.ownBlock] at hk⟩, Only.alloc _ _ _⟩

set_option maxHeartbeats 1000000 in
theorem place_any (x : Nat) (cap : Int) (L : List PairD) (S : Nat → Prop) (key : Int) (w : World) (H : RefS x cap L S w) (hL : L.length ≤ 16) :
    Calls Try.prog 22 #[.pointer (some ⟨x, 0, none⟩), .int .u64 key] w fun e w' => e = .returned (.int .i64 (placeP L key)) ∧ Only (fun _ => False) w w' := by
  obtain ⟨v, hg, hown, hS, hvS⟩ := H
  have hrd := hown.rd
  have HRD := Lib.hid hrd
  obtain ⟨_, ao, cap2, rfl, _, _, _⟩ := id hrd
  have c1 := cells_of_heap hg 1 _ rfl
  clear hg hown hrd hS hvS
  go_enter Try.func22, Try.ntmps22
  go_wp2_with fail
  go_loopw [5] (fun t5 wr => ∃ i q : Nat, i ≤ L.length ∧ t5 = .int .i64 i ∧ wr = w.drewN q ∧ Hid (NoneTo L key i)) (fun t5 _ => L.length - (intOf t5).toNat)
  case atStart => exact ⟨0, 0, Nat.zero_le _, rfl, rfl, fun a _ h => by omega⟩
  case round =>
    obtain ⟨i, q, hi, rfl, rfl, HN⟩ := hrel
    by_cases hlt : i < L.length
    · obtain ⟨_, ao', cap', hao, _, _, hx⟩ := HRD.out
      obtain ⟨rfl, _, rfl⟩ : ao = ao' ∧ L.length = L.length ∧ cap2 = cap' := by simpa using hao
      obtain ⟨sb, off, rfl, hc⟩ := hx (by omega)
      obtain ⟨d0, _⟩ := pair_cells hc i hlt
      have hi0 : (0 : Int) ≤ (i : Int) := by omega
      have hi1 : (i : Int) < (L.length : Int) := by omega
      clear hc hx hao
      by_cases hk : L[i].1 = key
      · have HP := Lib.hid (place_at hlt HN.out hk).1
        rw [hk] at d0
        clear hk
        go_wp2_with fail
        go_ret
        rw [HP.out]
        exact ⟨rfl, (Only.refl _ _).drewN _⟩
      · have HN2 := Lib.hid (show NoneTo L key (i + 1) from fun a ha hlt' => by
          by_cases e : a = i
          · subst e; exact hk
          · exact HN.out a ha (by omega))
        generalize L[i].1 = p0 at *
        go_wp2_with fail
        go_roundw
        case rel => exact ⟨i + 1, q, by omega, by go_num, rfl, HN2⟩
        case measure => simp [intOf]; omega
    · have HP := Lib.hid (place_none (L := L) (k := key) fun a ha => HN.out a ha (by omega)).1
      go_wp2_with fail
      go_ret
      rw [HP.out]
      exact ⟨rfl, (Only.refl _ _).drewN _⟩
end Go.Proofs.Ythekjeghodpcoaa
