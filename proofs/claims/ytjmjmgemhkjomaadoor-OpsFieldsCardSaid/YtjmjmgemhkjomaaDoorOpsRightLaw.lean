/- ops: the law OpsRight, walked. -/
import Derived.Test.YtjmjmgemhkjomaaDoorOpsRefRest
import Derived.Test.YtjmjmgemhkjomaaDoorOpsAwake
import Derived.Test.YtjmjmgemhkjomaaDoorOpsDec
import Derived.Deep.RegionHeld3
namespace Go.Proofs.YtjmjmgemhkjomaaDoor
open Go.RowKit
set_option linter.unusedVariables false
set_option linter.unusedSimpArgs false

theorem keepO5 {w w' : World} {b o : Nat} {v0 v1 v2 v3 v4 : Value} (h : Only (fun _ => False) w w') (c0 : w.cell? ⟨b, o, none⟩ = some v0) (c1 : w.cell? ⟨b, o + 1, none⟩ = some v1) (c2 : w.cell? ⟨b, o + 2, none⟩ = some v2) (c3 : w.cell? ⟨b, o + 3, none⟩ = some v3) (c4 : w.cell? ⟨b, o + 4, none⟩ = some v4) :
    Only (fun _ => False) w w' ∧ w'.cell? ⟨b, o, none⟩ = some v0 ∧ w'.cell? ⟨b, o + 1, none⟩ = some v1 ∧ w'.cell? ⟨b, o + 2, none⟩ = some v2 ∧ w'.cell? ⟨b, o + 3, none⟩ = some v3 ∧ w'.cell? ⟨b, o + 4, none⟩ = some v4 := by
  have hB := h.below (Nat.le_refl _) fun _ h => h.elim
  have hl := World.block_lt_of_cell? w _ c0
  exact ⟨h, (hB.cell (p := ⟨b, o, none⟩) hl).trans c0, (hB.cell (p := ⟨b, o + 1, none⟩) hl).trans c1, (hB.cell (p := ⟨b, o + 2, none⟩) hl).trans c2, (hB.cell (p := ⟨b, o + 3, none⟩) hl).trans c3, (hB.cell (p := ⟨b, o + 4, none⟩) hl).trans c4⟩
theorem one_b (i : In) (b : Bool) (h : rightR i = b) (v : Value) (w : World) (hr : Rd eInst w v [(i.op, i.d, i.a, i.b, i.imm)]) (hF : Forms w) :
    Calls Tryd.prog 13 #[v] w fun e w' => e = .returned (.bool b) ∧ Only (fun _ => False) w w' := by
  have := rightAll_any _ v w hr hF
  rw [show allP [(i.op, i.d, i.a, i.b, i.imm)] = b by simp [allP, In.of]; rw [right_eq]; exact h] at this
  exact this
theorem source_b (i : In) (b : Bool) (h : sourceR i = b) (w : World) (hF : Forms w) :
    Calls Tryd.prog 14 #[i.v] w fun e w' => e = .returned (.bool b) ∧ Only (fun _ => False) w w' := by
  have := source_any i w hF
  rw [source_eq, h] at this
  exact this
theorem refSource_b (i : In) (b : Bool) (h : sourceR i = b) (w : World) :
    Calls Tryd.prog 15 #[i.v] w fun e w' => e = .returned (.bool b) ∧ Only (fun _ => False) w w' := by
  have := refSource_any i w
  rw [h] at this
  exact this
theorem refRight_b (i : In) (b : Bool) (h : rightR i = b) (w : World) :
    Calls Tryd.prog 12 #[i.v] w fun e w' => e = .returned (.bool b) ∧ Only (fun _ => False) w w' := by
  have := refRight_any i w
  rw [h] at this
  exact this

/-- all of the first k are right -/
def AllTo2 (xs : List InstD) (k : Nat) (b : Bool) : Prop := b = (xs.take k).all fun x => rightR (In.of x)
theorem AllTo2.next {xs : List InstD} {k : Nat} {b : Bool} (h : AllTo2 xs k b) (hk : k < xs.length) (r : Bool) (hr : rightR (In.of xs[k]) = r) : AllTo2 xs (k + 1) (b && r) := by
  unfold AllTo2 at *
  rw [List.take_succ_eq_append_getElem hk, List.all_append, ← h]; simp [hr]
theorem AllTo2.done {xs : List InstD} {k : Nat} {b : Bool} (h : AllTo2 xs k b) (hk : xs.length ≤ k) : allP xs = b := by
  unfold AllTo2 at h
  rw [List.take_of_length_le hk] at h
  rw [h]; unfold allP; congr 1; funext x; rw [right_eq]

theorem Only.fresh0 {w w' : World} (h : Only (fun k => w.heap.size ≤ k) w w') : Only (fun _ => False) w w' := h.mono fun k hk h => by omega
set_option maxRecDepth 100000 in
set_option maxHeartbeats 8000000 in
theorem opsRight_any (xs : List InstD) (v : Value) (w : World) (hr : Rd eInst w v xs) (hlen : xs.length * 40 ≤ 140737488351232) (hok : ∀ x ∈ xs, InstD.ok x) (hF : FormsB w) :
    Calls Tryd.prog 4 #[v] w fun e w' => e = .returned (.bool true) ∧ Below w.heap.size w w' := by
  have HRd := Lib.hid hr
  have HF := Lib.hid hF
  obtain ⟨hmax, ao, cap, rfl, _, _, _⟩ := hr
  unfold maxLen at hmax
  clear hF hok
  go_enter Tryd.func4, Tryd.ntmps4
  go_wp2_with fail
  refine (awake_any _ HF.out).mono ?_
  rintro e w1 ⟨rfl, ho⟩
  have HO1 := Lib.hid ho
  clear ho
  go_wp2_with fail
  go_loopw [3, 4, 5] (fun t3 t4 _ wr => ∃ (k : Nat) (b : Bool), k ≤ xs.length ∧ t4 = .int .i64 k ∧ t3 = .bool b ∧ AllTo2 xs k b ∧ Only (fun _ => False) w wr) (fun _ t _ _ => xs.length - (intOf t).toNat)
  case atStart => exact ⟨0, true, by omega, rfl, rfl, rfl, HO1.out⟩
  case round =>
    obtain ⟨k, bb, hk, rfl, rfl, ha, ho⟩ := hrel
    have HA := Lib.hid ha
    have HO := Lib.hid ho
    have hR := HRd.out.only ho
    have hFr := Lib.hid (HF.out.only ho).forms
    clear ha ho
    by_cases hlt : k < xs.length
    · obtain ⟨_, ao', cap', hao, _, _, hx⟩ := hR
      obtain ⟨rfl, _, rfl⟩ : ao = ao' ∧ xs.length = xs.length ∧ cap = cap' := by simpa using hao
      obtain ⟨b, off, rfl, hc⟩ := hx (by omega)
      obtain ⟨c0, c1, c2, c3, c4⟩ := inst_cells hc k hlt
      have hi0 : (0 : Int) ≤ (k : Int) := by omega
      have hi1 : (k : Int) < (xs.length : Int) := by omega
      have HL := Lib.hid hlt
      clear hc hx hao
      cases hb : rightR (In.of (xs[k]'HL.out)) <;> cases hs : sourceR (In.of (xs[k]'HL.out)) <;> cases bb
      all_goals
        have HN := Lib.hid (HA.out.next HL.out _ hb)
        obtain ⟨i, hi⟩ : ∃ i, i = In.of (xs[k]'HL.out) := ⟨_, rfl⟩
        rw [← hi] at c0 c1 c2 c3 c4 hb hs
        have HB := Lib.hid hb
        have HS := Lib.hid hs
        clear hi hb hs HA
        go_wp2_with fail
        refine (refRight_b i _ HB.out _).mono ?_
        rintro e w2 ⟨rfl, ho2⟩
        have HO2 := Lib.hid (HO.out.tr ho2)
        have HF2 := Lib.hid (hFr.out.only ho2)
        obtain ⟨_, d0, d1, d2, d3, d4⟩ := keepO5 ho2 c0 c1 c2 c3 c4
        clear ho2 c0 c1 c2 c3 c4
        go_wp2_with fail
        go_region_held3 (fun w' => Only (fun _ => False) w2 w' ∧ w'.cell? ⟨b, off + k * 5, none⟩ = some (.int .i64 i.op) ∧ w'.cell? ⟨b, off + k * 5 + 1, none⟩ = some (.int .i64 i.d) ∧ w'.cell? ⟨b, off + k * 5 + 2, none⟩ = some (.int .i64 i.a) ∧ w'.cell? ⟨b, off + k * 5 + 3, none⟩ = some (.int .i64 i.b) ∧ w'.cell? ⟨b, off + k * 5 + 4, none⟩ = some (.int .i64 i.imm))
          ((refine keepO5 ?_ d0 d1 d2 d3 d4; first | exact (Only.refl _ _).drew_ | exact (Only.alloc _ _ _).drew_ | exact hoi | exact hoj | exact hok))
          (first
            | (go_at_call 13; refine (one_b i _ HB.out _ _ ((Rd.lit w2 #[.int .i64 i.op, .int .i64 i.d, .int .i64 i.a, .int .i64 i.b, .int .i64 i.imm] 34 (0, 0) 1 1 [(i.op, i.d, i.a, i.b, i.imm)] rfl rfl (by simp) (by simp [maxLen])).drew) (HF2.out.only (Only.alloc _ _ _).drew_)).mono ?_; rintro e wi ⟨rfl, ho3⟩; have hoi : Only (fun _ => False) w2 wi := (Only.alloc _ _ _).drew_.tr ho3)
            | (go_at_call 14; refine (source_b i _ HS.out _ (HF2.out.only hoi)).mono ?_; rintro e wj ⟨rfl, ho4⟩; have hoj : Only (fun _ => False) w2 wj := hoi.tr ho4)
            | (go_at_call 15; refine (refSource_b i _ HS.out _).mono ?_; rintro e wk ⟨rfl, ho5⟩; have hok : Only (fun _ => False) w2 wk := hoj.tr ho5))
        have HO3 := Lib.hid (HO2.out.tr hok)
        clear hok hoj hoi ho3 ho4 ho5
        go_wp2_with fail
        go_roundw
        case rel => exact ⟨k + 1, _, by omega, by go_num, rfl, HN.out, HO3.out⟩
        case measure => simp [intOf]; omega
    · have HP := Lib.hid (HA.out.done (by omega : xs.length ≤ k))
      clear HA hR
      have hrd : Rd eInst (wr.alloc (.cells #[] 34)) (.slice ao xs.length cap) xs := (HRd.out.only HO.out).alloc _
      have hE0 : OwS eInst 34 (fun k => wr.heap.size ≤ k) (wr.alloc (.cells #[] 34)) (.slice (some ⟨wr.heap.size, 0, none⟩) 0 0) [] := OwS.of_ow (Ow.lit wr _ #[] 34 0 [] (by simp [Enc.all]) rfl (by simp) (Nat.le_refl _))
      go_wp2_with (at_builtin; refine wl_appendS (E := eInst) rfl _ (.tmp 47) _ rfl 34 40 eInst_slice _ _ [] rfl hE0 _ xs rfl hrd (by simp; omega) (by unfold maxLen; simp; omega) ?_)
      intro v2 w2 how hO2
      have ho2 : Only (fun _ => False) wr w2 := ((Only.alloc (fun k => wr.heap.size ≤ k) _ _).tr hO2).fresh0
      have HO2 := Lib.hid (HO.out.tr ho2)
      have HW := Lib.hid how.1
      have hrall := fun W h1 h2 => rightAll_any xs v2 W h1 h2
      rw [HP.out] at hrall
      have HRA := Lib.hid hrall
      clear hrd hE0 how hO2 ho2 hrall
      have HF3 := Lib.hid (HF.out.only HO2.out).forms
      obtain ⟨_, ao2, cap2, rfl, _⟩ := HW.out
      cases bb
      all_goals
        go_wp2_with fail
        refine (HRA.out _ HW.out.rd HF3.out).mono ?_
        rintro e w3 ⟨rfl, ho3⟩
        have HO3 := Lib.hid (HO2.out.tr ho3)
        have HW3 := Lib.hid (HW.out.only ho3 (fun _ _ h => h))
        clear ho3
        go_wp2_with fail
        refine (rightAll_any [] _ _ (Rd.nil _) (HF.out.only HO3.out).forms).mono ?_
        rintro e w4 ⟨rfl, ho4⟩
        have HO4 := Lib.hid (HO3.out.tr ho4)
        have HW4 := Lib.hid (HW3.out.only ho4 (fun _ _ h => h)).rd
        clear ho4
        rw [show allP [] = true from rfl]
        go_wp2_with fail
        go_loopw [7] (fun t w' => ∃ (k : Nat), k ≤ xs.length ∧ t = .int .i64 k ∧ Only (fun _ => False) w4 w') (fun t _ => xs.length - (intOf t).toNat)
        case atStart => exact ⟨0, by omega, rfl, Only.refl _ _⟩
        case round =>
          obtain ⟨k2, hk2, rfl, ho5⟩ := hrel
          have HO5 := Lib.hid ho5
          clear ho5
          by_cases hlt2 : k2 < xs.length
          · obtain ⟨_, ao', cap', hao, _, _, hx⟩ := (HRd.out.only HO4.out).only HO5.out
            obtain ⟨rfl, _, rfl⟩ : ao = ao' ∧ xs.length = xs.length ∧ cap = cap' := by simpa using hao
            obtain ⟨b, off, rfl, hc⟩ := hx (by omega)
            obtain ⟨c0, c1, c2, c3, c4⟩ := inst_cells hc k2 hlt2
            obtain ⟨_, ao', cap', hao', _, _, hx'⟩ := HW4.out.only HO5.out
            obtain ⟨rfl, _, rfl⟩ : ao2 = ao' ∧ xs.length = xs.length ∧ cap2 = cap' := by simpa using hao'
            obtain ⟨b2, off2, rfl, hc'⟩ := hx' (by omega)
            obtain ⟨d0, d1, d2, d3, d4⟩ := inst_cells hc' k2 hlt2
            have hi0 : (0 : Int) ≤ (k2 : Int) := by omega
            have hi1 : (k2 : Int) < (xs.length : Int) := by omega
            have hne : ∀ W, _ := fun W => eInst_neq xs[k2] xs[k2] W
            simp only [decide_true, Bool.not_true] at hne
            clear hc hx hao hc' hx' hao'
            unfold In.of at c0 c1 c2 c3 c4 d0 d1 d2 d3 d4
            dsimp only at c0 c1 c2 c3 c4 d0 d1 d2 d3 d4
            generalize xs[k2].1 = i0 at *
            generalize xs[k2].2.1 = i1 at *
            generalize xs[k2].2.2.1 = i2 at *
            generalize xs[k2].2.2.2.1 = i3 at *
            generalize xs[k2].2.2.2.2 = i4 at *
            go_wp2_with fail
            go_quiet (fail)
            go_wp2_with fail
            go_roundw
            case rel => exact ⟨k2 + 1, by omega, by go_num, HO5.out.drewN _⟩
            case measure => simp [intOf]; omega
          · go_wp2_with fail
            go_ret
            exact ⟨rfl, (HO4.out.tr HO5.out).below (Nat.le_refl _) fun _ h => h.elim⟩
end Go.Proofs.YtjmjmgemhkjomaaDoor
