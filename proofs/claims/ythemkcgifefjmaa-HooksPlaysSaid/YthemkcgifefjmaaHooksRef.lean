/- Layer 19: the document's table. -/
import Derived.Test.YthemkcgifefjmaaHooksMany
import Derived.IntWalk
namespace Go.Proofs.Ythemkcgifefjmaa
open Go.RowKit
set_option linter.unusedVariables false

abbrev RefV (x : Nat) (n last : Int) (v : Value) (st : List StepD) : (Nat → Prop) → World → Prop :=
  Obj1v eStep 49 62 (fun v => #[.int .i64 n, .int .i64 last, v]) x v st
def RefS (x : Nat) (n last : Int) (st : List StepD) (S : Nat → Prop) (w : World) : Prop := ∃ v, RefV x n last v st S w
theorem RefS.framed {x : Nat} {n last : Int} {st : List StepD} : Framed (RefS x n last st) := Framed.ex fun v => Obj1v.framed

/-- the last step of a hook -/
def refCur (st : List StepD) (h : Int) : Int × Int × Bool := match st.reverse.find? (fun s => s.1 == h) with
  | some s => (s.2.2, s.2.1, decide (0 < s.2.2))
  | none => (0, 0, false)
theorem refCur_snoc (st : List StepD) (s : StepD) (h : Int) : refCur (st ++ [s]) h = if s.1 = h then (s.2.2, s.2.1, decide (0 < s.2.2)) else refCur st h := by
  unfold refCur
  rw [List.reverse_append, List.reverse_singleton, List.singleton_append, List.find?_cons]
  by_cases e : s.1 = h
  · simp [e]
  · have : (s.1 == h) = false := by simpa using e
    rw [this, if_neg e]
theorem refCur_at {st : List StepD} {h : Int} {i : Nat} (hi : i < st.length) (hh : st[i].1 = h) (hn : ∀ j (hj : j < st.length), i < j → st[j].1 ≠ h) : refCur st h = (st[i].2.2, st[i].2.1, decide (0 < st[i].2.2)) := by
  have hd : ∀ s ∈ st.drop (i + 1), s.1 ≠ h := fun s hs => by
    obtain ⟨j, hj, rfl⟩ := List.getElem_of_mem hs
    rw [List.getElem_drop]
    exact hn _ (by simp at hj; omega) (by omega)
  have he : st = st.take i ++ (st[i] :: st.drop (i + 1)) := by rw [← List.drop_eq_getElem_cons hi, List.take_append_drop]
  have h1 : (st.drop (i + 1)).reverse.find? (fun s => s.1 == h) = none := by
    rw [List.find?_eq_none]
    intro s hs
    simpa using hd s (List.mem_reverse.1 hs)
  unfold refCur
  generalize st[i] = s at *
  rw [he, List.reverse_append, List.reverse_cons, List.append_assoc, List.find?_append, h1]
  simp [hh]
theorem refCur_none {st : List StepD} {h : Int} (hn : ∀ j (hj : j < st.length), st[j].1 ≠ h) : refCur st h = (0, 0, false) := by
  unfold refCur
  rw [List.find?_eq_none.2]
  intro s hs
  obtain ⟨j, hj, rfl⟩ := List.getElem_of_mem (List.mem_reverse.1 hs)
  simpa using hn j hj

set_option maxRecDepth 100000 in
set_option maxHeartbeats 4000000 in
theorem refCurrent_any (x : Nat) (n last : Int) (st : List StepD) (h : Int) (S : Nat → Prop) (w : World) (H : RefS x n last st S w) (hl : st.length ≤ 100000) :
    Calls Try.prog 16 #[.pointer (some ⟨x, 0, none⟩), .int .i64 h] w fun e w' => e = .returned (.tuple #[.int .i64 (refCur st h).1, .int .i64 (refCur st h).2.1, .bool (refCur st h).2.2]) ∧ ∃ q, w' = w.drewN q := by
  obtain ⟨v, hg, hown, hS, hv⟩ := H
  have hr := hown.rd
  obtain ⟨_, ao, cap, rfl, hcap, _, hx⟩ := id hr
  have c2 : w.cell? ⟨x, 2, none⟩ = some (.slice ao st.length cap) := blk_cell hg 2
  obtain ⟨L, hL⟩ : ∃ L, L = st.length := ⟨_, rfl⟩
  have HL := Lib.hid hL
  rw [← hL] at c2 hl hcap
  clear hg hown hv hr hL
  have HX := Lib.hid hx
  clear hx
  go_enter Try.func16, Try.ntmps16
  go_wp2_with fail
  go_loop [7] (fun iv => ∃ i : Nat, i ≤ L ∧ iv = .int .i64 ((i : Int) - 1) ∧ Hid (∀ j (hj : j < st.length), i ≤ j → st[j].1 ≠ h)) (fun iv => (intOf iv + 1).toNat)
  case atStart => exact ⟨L, Nat.le_refl _, rfl, fun j hj hij => by have := HL.out; omega⟩
  case round =>
    obtain ⟨i, hi, rfl, hno⟩ := hrel
    cases i with
    | zero =>
      have e1 := refCur_none (st := st) (h := h) (fun j hj => hno.out j hj (by omega))
      have E1 := Lib.hid e1
      clear e1
      have hge : decide ((0 : Int) ≤ ((0 : Nat) : Int) - 1) = false := by decide
      go_wp2_with fail
      go_ret3
      rw [E1.out]
      exact ⟨rfl, 0, rfl⟩
    | succ i =>
      have hist : i < st.length := by have := HL.out; omega
      obtain ⟨b, off, rfl, hc⟩ := HX.out (by omega)
      have x0 : w.cell? ⟨b, off + i * 3, none⟩ = some (.int .i64 st[i].1) := hc (i * 3) _ ((eStep.all_at st i 0 hist (by decide)).trans rfl)
      have x1 : w.cell? ⟨b, off + i * 3 + 1, none⟩ = some (.int .i64 st[i].2.1) := by have := hc (i * 3 + 1) _ ((eStep.all_at st i 1 hist (by decide)).trans rfl); rw [← Nat.add_assoc] at this; exact this
      have x2 : w.cell? ⟨b, off + i * 3 + 2, none⟩ = some (.int .i64 st[i].2.2) := by have := hc (i * 3 + 2) _ ((eStep.all_at st i 2 hist (by decide)).trans rfl); rw [← Nat.add_assoc] at this; exact this
      have hat := fun hh => refCur_at (st := st) (h := h) hist hh (fun j hj hij => hno.out j hj (by omega))
      have hst : st[i].1 ≠ h → ∀ j (hj : j < st.length), i ≤ j → st[j].1 ≠ h := fun hne j hj hij => by
        by_cases e : i = j
        · subst e; exact hne
        · exact hno.out j hj (by omega)
      have HA := Lib.hid hat
      have HS := Lib.hid hst
      clear hc hat hst hno
      generalize st[i] = s at *
      have hi0 : (0 : Int) ≤ (i : Int) := by omega
      have hi1 : (i : Int) < (L : Int) := by omega
      rw [show (((i + 1 : Nat) : Int) - 1) = (i : Int) by omega]
      by_cases hh : s.1 = h
      · have hb : (s.1 == h) = true := by simp [hh]
        have E1 := Lib.hid (HA.out hh)
        clear hh HA HS
        go_wp2_with fail
        go_quiet (fail)
        go_wp2_with fail
        go_ret3
        rw [E1.out]
        exact ⟨rfl, _, rfl⟩
      · have hb : (s.1 == h) = false := by simp [hh]
        have HS2 : Hid (∀ j (hj : j < st.length), i ≤ j → st[j].1 ≠ h) := HS.out hh
        clear hh HA HS
        go_wp2_with fail
        go_round
        case rel => exact ⟨i, by omega, rfl, HS2⟩
        case measure => simp [intOf]
end Go.Proofs.Ythemkcgifefjmaa
