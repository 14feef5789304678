/- ops: Right of many; Source. -/
import Derived.Test.YtkocfgaajghggaaDoorOpsRight2
namespace Go.Proofs.YtkocfgaajghggaaDoor
open Go.RowKit
set_option linter.unusedVariables false
set_option linter.unusedSimpArgs false

def In.of (x : InstD) : In := ⟨x.1, x.2.1, x.2.2.1, x.2.2.2.1, x.2.2.2.2⟩
def allP (xs : List InstD) : Bool := xs.all fun x => rightP (In.of x)
def AllTo (xs : List InstD) (k : Nat) : Prop := ∀ j (h : j < xs.length), j < k → rightP (In.of xs[j]) = true
theorem allP_no {xs : List InstD} {k : Nat} (h : k < xs.length) (e : rightP (In.of xs[k]) = false) : false = allP xs := by
  symm; unfold allP; rw [List.all_eq_false]
  exact ⟨xs[k], List.getElem_mem _, by rw [e]; simp⟩
theorem allP_yes {xs : List InstD} {k : Nat} (h : AllTo xs k) (hk : xs.length ≤ k) : true = allP xs := by
  symm; unfold allP; rw [List.all_eq_true]
  intro x hx
  obtain ⟨j, hj, rfl⟩ := List.getElem_of_mem hx
  exact h j hj (by omega)

/-- an element of a slice of instructions, cell by cell -/
theorem inst_cells {w : World} {b off : Nat} {xs : List InstD} (hc : ∀ j u, (eInst.all xs)[j]? = some u → w.cell? ⟨b, off + j, none⟩ = some u) (k : Nat) (h : k < xs.length) :
    w.cell? ⟨b, off + k * 5, none⟩ = some (.int .i64 (In.of xs[k]).op) ∧ w.cell? ⟨b, off + k * 5 + 1, none⟩ = some (.int .i64 (In.of xs[k]).d) ∧ w.cell? ⟨b, off + k * 5 + 2, none⟩ = some (.int .i64 (In.of xs[k]).a) ∧
      w.cell? ⟨b, off + k * 5 + 3, none⟩ = some (.int .i64 (In.of xs[k]).b) ∧ w.cell? ⟨b, off + k * 5 + 4, none⟩ = some (.int .i64 (In.of xs[k]).imm) := by
  refine ⟨?_, ?_, ?_, ?_, ?_⟩
  · have := hc (k * 5) _ ((eInst.all_at xs k 0 h (by decide)).trans rfl); exact this
  · have := hc (k * 5 + 1) _ ((eInst.all_at xs k 1 h (by decide)).trans rfl); rw [← Nat.add_assoc] at this; exact this
  · have := hc (k * 5 + 2) _ ((eInst.all_at xs k 2 h (by decide)).trans rfl); rw [← Nat.add_assoc] at this; exact this
  · have := hc (k * 5 + 3) _ ((eInst.all_at xs k 3 h (by decide)).trans rfl); rw [← Nat.add_assoc] at this; exact this
  · have := hc (k * 5 + 4) _ ((eInst.all_at xs k 4 h (by decide)).trans rfl); rw [← Nat.add_assoc] at this; exact this

theorem Forms.only {w w' : World} (h : Forms w) (ho : Only (fun _ => False) w w') : Forms w' := by
  have h0 : 0 < w.heap.size := by
    obtain ⟨nb, fb, hr, _⟩ := row_of 0 (by decide)
    exact World.block_lt_of_cell? w _ (h 0 nb fb hr).1
  exact h.below (ho.below (Nat.le_refl _) (fun _ h => h.elim)) h0
theorem Rd.only {α : Type} {E : Enc α} {w w' : World} {v : Value} {xs : List α} (h : Rd E w v xs) (ho : Only (fun _ => False) w w') : Rd E w' v xs := h.grow (ho.below (Nat.le_refl _) fun _ h => h.elim)

set_option maxHeartbeats 1000000 in
theorem rightAll_any (xs : List InstD) (v : Value) (w : World) (hr : Rd eInst w v xs) (hF : Forms w) :
    Calls Tryd.prog 21 #[v] w fun e w' => e = .returned (.bool (allP xs)) ∧ Only (fun _ => False) w w' := by
  have HRd := Lib.hid hr
  have HF := Lib.hid hF
  obtain ⟨hmax, ao, cap, rfl, _, _, _⟩ := hr
  unfold maxLen at hmax
  clear hF
  go_enter Tryd.func21, Tryd.ntmps21
  go_wp2_with fail
  go_loopw [4, 7] (fun _ t wr => ∃ k : Nat, k ≤ xs.length ∧ t = .int .i64 k ∧ AllTo xs k ∧ Only (fun _ => False) w wr) (fun _ t _ => xs.length - (intOf t).toNat)
  case atStart => exact ⟨0, by omega, rfl, fun j _ h => by omega, Only.refl _ _⟩
  case round =>
    obtain ⟨k, hk, rfl, ha, ho⟩ := hrel
    have HA := Lib.hid ha
    have HO := Lib.hid ho
    have hR := HRd.out.only ho
    have hFr := Lib.hid (HF.out.only ho)
    clear ha ho
    by_cases hlt : k < xs.length
    · obtain ⟨_, ao', cap', hao, _, _, hx⟩ := hR
      obtain ⟨rfl, _, rfl⟩ : ao = ao' ∧ xs.length = xs.length ∧ cap = cap' := by simpa using hao
      obtain ⟨b, off, rfl, hc⟩ := hx (by omega)
      obtain ⟨c0, c1, c2, c3, c4⟩ := inst_cells hc k hlt
      have hi0 : (0 : Int) ≤ (k : Int) := by omega
      have hi1 : (k : Int) < (xs.length : Int) := by omega
      have HL := Lib.hid hlt
      clear hc hx hao
      obtain ⟨i, hi⟩ : ∃ i, i = In.of (xs[k]'HL.out) := ⟨_, rfl⟩
      rw [← hi] at c0 c1 c2 c3 c4
      have HI := Lib.hid hi
      clear hi
      cases hb : rightP i
      · have HB := Lib.hid (show false = allP xs from allP_no HL.out (by rw [← HI.out]; exact hb))
        have hcall := fun W h => right_any i W h
        simp only [hb] at hcall
        have HC := Lib.hid hcall
        clear hb hcall
        go_wp2_with fail
        refine (HC.out _ (hFr.out.only (Only.alloc _ _ _))).mono ?_
        rintro e w2 ⟨rfl, ho2⟩
        go_wp2_with fail
        go_ret
        exact ⟨ret_b HB.out, (HO.out.tr (Only.alloc _ _ _)).tr ho2⟩
      · have HB := Lib.hid (show AllTo xs (k + 1) from fun j h hj => by
          by_cases hjk : j < k
          · exact HA.out j h hjk
          · obtain rfl : j = k := by omega
            rw [← HI.out]; exact hb)
        have hcall := fun W h => right_any i W h
        simp only [hb] at hcall
        have HC := Lib.hid hcall
        clear hb hcall
        go_wp2_with fail
        refine (HC.out _ (hFr.out.only (Only.alloc _ _ _))).mono ?_
        rintro e w2 ⟨rfl, ho2⟩
        go_wp2_with fail
        go_roundw
        case rel => exact ⟨k + 1, by omega, by go_num, HB.out, (HO.out.tr (Only.alloc _ _ _)).tr ho2⟩
        case measure => simp [intOf]; omega
    · have HB := Lib.hid (allP_yes HA.out (by omega : xs.length ≤ k))
      clear hR
      go_wp2_with fail
      go_ret
      exact ⟨ret_b HB.out, HO.out⟩
end Go.Proofs.YtkocfgaajghggaaDoor
