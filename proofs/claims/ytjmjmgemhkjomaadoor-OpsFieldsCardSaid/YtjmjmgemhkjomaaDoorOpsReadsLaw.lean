/- ops: the law OpsReads, walked. -/
import Derived.Test.YtjmjmgemhkjomaaDoorOpsInts
import Derived.Test.YtjmjmgemhkjomaaDoorOpsAwake
import Derived.Test.YtjmjmgemhkjomaaDoorGrid
import Derived.Test.YtjmjmgemhkjomaaDoorOpsDecI
namespace Go.Proofs.YtjmjmgemhkjomaaDoor
open Go.RowKit
set_option linter.unusedVariables false
set_option linter.unusedSimpArgs false

theorem reads_len (i : In) : (readsP i).length ≤ 2 := by
  have h : ∀ (a b : Int), (if a < b then [a, b] else [b, a]).length ≤ 2 := fun a b => by split <;> simp
  unfold readsP; split
  · split
    · split
      · exact h _ _
      · simp
    · split <;> simp
  · simp
theorem FormsB.onlyF {F : Nat → Prop} {w w' : World} (h : FormsB w) (ho : Only F w w') (h0 : ¬ F 0) : FormsB w' := by
  obtain ⟨cs, ty, fr, hb, hr⟩ := h
  exact ⟨cs, ty, fr, ho.heap hb h0, hr⟩
theorem reads_ow (i : In) (xs : List Int) (hx : readsP i = xs) (w : World) (hF : Forms w) :
    Calls Tryd.prog 16 #[i.v] w fun e w' => ∃ v, e = .returned v ∧ Ow (eInt .i64) w.heap.size 3 w' v xs ∧ Only (fun _ => False) w w' := hx ▸ reads_any i w hF
theorem refReads_ow (i : In) (xs : List Int) (hx : readsR i = xs) (w : World) :
    Calls Tryd.prog 17 #[i.v] w fun e w' => ∃ v, e = .returned v ∧ Ow (eInt .i64) w.heap.size 3 w' v xs ∧ Only (fun _ => False) w w' := hx ▸ refReads_any i w
theorem writes_b (i : In) (d : Int) (b : Bool) (hx : writesR i = (d, b)) (w : World) (hF : Forms w) :
    Calls Tryd.prog 19 #[i.v] w fun e w' => e = .returned (.tuple #[.int .i64 d, .bool b]) ∧ Only (fun _ => False) w w' := by
  have := writes_any i w hF
  rw [writes_eq, hx] at this
  exact this
theorem refWrites_b (i : In) (d : Int) (b : Bool) (hx : writesR i = (d, b)) (w : World) :
    Calls Tryd.prog 20 #[i.v] w fun e w' => e = .returned (.tuple #[.int .i64 d, .bool b]) ∧ Only (fun _ => False) w w' := by
  have := refWrites_any i w
  rw [hx] at this
  exact this
theorem ints_only (xs : List Int) (va vb : Value) (w : World) (ha : Rd (eInt .i64) w va xs) (hb : Rd (eInt .i64) w vb xs) :
    Calls Tryd.prog 18 #[va, vb] w fun e w' => e = .returned (.bool true) ∧ Only (fun _ => False) w w' :=
  (ints_eq xs va vb w ha hb).mono fun _ _ ⟨h1, n, h2⟩ => ⟨h1, by rw [h2]; exact (Only.refl _ _).drewN n⟩

set_option maxRecDepth 100000 in
set_option maxHeartbeats 8000000 in
theorem opsReads_any (i : In) (w : World) (hok : InstD.ok (i.op, i.d, i.a, i.b, i.imm)) (hF : FormsB w) :
    Calls Tryd.prog 6 #[i.v] w fun e w' => e = .returned (.bool true) ∧ Below w.heap.size w w' := by
  clear hok
  have hlen := reads_len i
  obtain ⟨xs, hx⟩ : ∃ xs, readsP i = xs := ⟨_, rfl⟩
  obtain ⟨wd, wb, hwr⟩ : ∃ d b, writesR i = (d, b) := ⟨_, _, rfl⟩
  rw [hx] at hlen
  have HX := Lib.hid hx
  have HXR := Lib.hid (show readsR i = xs by rw [← reads_eq]; exact hx)
  have HWR := Lib.hid hwr
  clear hx hwr
  obtain ⟨op, d, a, b, imm⟩ := i
  have HF1 := Lib.hid (hF.only (Only.alloc _ w (.cells #[.int .i64 op, .int .i64 d, .int .i64 a, .int .i64 b, .int .i64 imm] 34)))
  clear hF
  go_enter Tryd.func6, Tryd.ntmps6
  go_wp2_with fail
  refine (awake_any _ HF1.out).mono ?_
  rintro e w1 ⟨rfl, ho⟩
  have hb := ho.heap (heap_alloc_new w _) (fun h => h)
  have c0 := cells_of_heap hb 0 (.int .i64 op) rfl
  have c1 := cells_of_heap hb 1 (.int .i64 d) rfl
  have c2 := cells_of_heap hb 2 (.int .i64 a) rfl
  have c3 := cells_of_heap hb 3 (.int .i64 b) rfl
  have c4 := cells_of_heap hb 4 (.int .i64 imm) rfl
  have HB1 := Lib.hid hb
  have HO1 := Lib.hid ((Only.alloc _ w _).tr ho)
  have HF2 := Lib.hid (HF1.out.only ho)
  clear hb ho
  go_wp2_with fail
  refine (reads_ow _ xs HX.out _ HF2.out.forms).mono ?_
  rintro e w2 ⟨va, rfl, how, ho⟩
  have hb := ho.heap HB1.out (fun h => h)
  have d0 := cells_of_heap hb 0 (.int .i64 op) rfl
  have d1 := cells_of_heap hb 1 (.int .i64 d) rfl
  have d2 := cells_of_heap hb 2 (.int .i64 a) rfl
  have d3 := cells_of_heap hb 3 (.int .i64 b) rfl
  have d4 := cells_of_heap hb 4 (.int .i64 imm) rfl
  have HB2 := Lib.hid hb
  have HA2 := Lib.hid how
  have HO2 := Lib.hid ho
  have HF3 := Lib.hid (HF2.out.only ho)
  clear hb ho how c0 c1 c2 c3 c4
  go_wp2_with fail
  refine (reads_ow _ xs HX.out _ HF3.out.forms).mono ?_
  rintro e w3 ⟨vb, rfl, how, ho⟩
  have hb := ho.heap HB2.out (fun h => h)
  have c0 := cells_of_heap hb 0 (.int .i64 op) rfl
  have c1 := cells_of_heap hb 1 (.int .i64 d) rfl
  have c2 := cells_of_heap hb 2 (.int .i64 a) rfl
  have c3 := cells_of_heap hb 3 (.int .i64 b) rfl
  have c4 := cells_of_heap hb 4 (.int .i64 imm) rfl
  have HB3 := Lib.hid hb
  have HA3 := Lib.hid (HA2.out.only ho (fun _ _ h => h))
  have HV3 := Lib.hid how
  have HO3 := Lib.hid (HO2.out.tr ho)
  have HF4 := Lib.hid (HF3.out.only ho)
  have hz3 := HO2.out.size
  have hz4 := ho.size
  clear hb ho how d0 d1 d2 d3 d4
  go_wp2_with fail
  refine (refReads_ow _ xs HXR.out _).mono ?_
  rintro e w4 ⟨vw, rfl, how, ho⟩
  have HB4 := Lib.hid (ho.heap HB3.out (fun h => h))
  have HA4 := Lib.hid (HA3.out.only ho (fun _ _ h => h))
  have HV4 := Lib.hid (HV3.out.only ho (fun _ _ h => h))
  have HW4 := Lib.hid how
  have HO4 := Lib.hid (HO3.out.tr ho)
  have HF5 := Lib.hid (HF4.out.only ho)
  have hz5 := ho.size
  clear ho how c0 c1 c2 c3 c4
  go_wp2_with fail
  refine (ints_only xs _ _ _ HA4.out.rd HW4.out.rd).mono ?_
  rintro e w5 ⟨rfl, ho5⟩
  have HO5 := Lib.hid ho5
  clear ho5
  go_wp2_with fail
  refine (ints_only xs _ _ _ (HV4.out.only HO5.out (fun _ _ h => h)).rd (HW4.out.only HO5.out (fun _ _ h => h)).rd).mono ?_
  rintro e w6 ⟨rfl, ho6⟩
  have HO6 := Lib.hid (HO5.out.tr ho6)
  have HA6 := Lib.hid (HA4.out.only HO6.out (fun _ _ h => h))
  have hz6 := HO6.out.size
  obtain ⟨_, ao, cap, rfl, _⟩ := HA4.out
  clear ho6
  go_wp2_with fail
  go_loopw [6] (fun t wr => ∃ (k : Nat) (ys : List Int), k ≤ xs.length ∧ t = .int .i64 k ∧ ys.length = xs.length ∧ Ow (eInt .i64) w1.heap.size 3 wr (.slice ao xs.length cap) ys ∧ Only (fun k => w1.heap.size ≤ k ∧ k < w2.heap.size) w6 wr) (fun t _ => xs.length - (intOf t).toNat)
  case atStart => exact ⟨0, xs, by omega, rfl, rfl, HA6.out, Only.refl _ _⟩
  case round =>
    obtain ⟨k, ys, hk, rfl, hyl, how, ho⟩ := hrel
    by_cases hlt : k < xs.length
    · obtain ⟨g, off, rfl, hg, hat⟩ := how.at_ k (by omega)
      have fz : wr.frozen? ⟨g, off + k, none⟩ = false := by
        have h := (hat 0 (by decide)).2
        rw [show k * (eInt .i64).size + 0 = k from by show k * 1 + 0 = k; omega] at h
        exact h
      obtain ⟨y, q⟩ : ∃ y, wr.cell? ⟨g, off + k, none⟩ = some (.int .i64 y) := by
        have h := (hat 0 (by decide)).1
        rw [show k * (eInt .i64).size + 0 = k from by show k * 1 + 0 = k; omega] at h
        exact ⟨_, h⟩
      have hgl := (HA2.out.lt (g := g) rfl).2
      have HS := Lib.hid (show Ow (eInt .i64) w1.heap.size 3 (wr.setCell ⟨g, off + k, none⟩ (.int .i64 (-7))) (.slice (some ⟨g, off, none⟩) xs.length cap) (ys.set k (-7)) from by
        have h := how.store k (by omega) (-7)
        rw [show k * (eInt .i64).size = k from by show k * 1 = k; omega] at h
        exact h)
      have HO7 := Lib.hid (ho.tr (Only.setCell (fun k => w1.heap.size ≤ k ∧ k < w2.heap.size) wr g (off + k) (.int .i64 (-7)) ⟨hg, hgl⟩))
      have HY := Lib.hid hyl
      have hi0 : (0 : Int) ≤ (k : Int) := by omega
      have hi1 : (k : Int) < (xs.length : Int) := by omega
      clear how ho hat hyl
      go_wp2_with fail
      go_roundw
      case rel => exact ⟨k + 1, ys.set k (-7), by omega, by go_num, by rw [List.length_set]; exact HY.out, HS.out, HO7.out⟩
      case measure => simp [intOf]; omega
    · have hF := (HF5.out.only HO6.out).onlyF ho (by have := heap_lt HB1.out; omega)
      have hb := ho.heap (HO6.out.heap HB4.out (fun h => h)) (fun h => by have := heap_lt HB1.out; omega)
      have HB7 := Lib.hid hb
      have HV7 := Lib.hid ((HV4.out.only HO6.out (fun _ _ h => h)).only ho (fun j hj h => by have := (HV4.out.lt hj).1; omega))
      have HW7 := Lib.hid ((HW4.out.only HO6.out (fun _ _ h => h)).only ho (fun j hj h => by have := (HW4.out.lt hj).1; omega))
      have HO7 := Lib.hid (((HO1.out.tr HO4.out).tr HO6.out).trans ho (fun j hj h => by have := HO1.out.size; omega))
      have HF7 := Lib.hid hF
      have c0 := cells_of_heap hb 0 (.int .i64 op) rfl
      have c1 := cells_of_heap hb 1 (.int .i64 d) rfl
      have c2 := cells_of_heap hb 2 (.int .i64 a) rfl
      have c3 := cells_of_heap hb 3 (.int .i64 b) rfl
      have c4 := cells_of_heap hb 4 (.int .i64 imm) rfl
      clear hb ho hF how
      go_wp2_with fail
      refine (writes_b _ _ _ HWR.out _ HF7.out.forms).mono ?_
      rintro e w8 ⟨rfl, ho8⟩
      have hb := ho8.heap HB7.out (fun h => h)
      have d0 := cells_of_heap hb 0 (.int .i64 op) rfl
      have d1 := cells_of_heap hb 1 (.int .i64 d) rfl
      have d2 := cells_of_heap hb 2 (.int .i64 a) rfl
      have d3 := cells_of_heap hb 3 (.int .i64 b) rfl
      have d4 := cells_of_heap hb 4 (.int .i64 imm) rfl
      have HO8 := Lib.hid ho8
      clear hb ho8 c0 c1 c2 c3 c4
      go_wp2_with fail
      refine (refWrites_b _ _ _ HWR.out _).mono ?_
      rintro e w9 ⟨rfl, ho9⟩
      have HO9 := Lib.hid (HO8.out.tr ho9)
      clear ho9 d0 d1 d2 d3 d4
      go_wp2_with fail
      refine (ints_only xs _ _ _ (HV7.out.only HO9.out (fun _ _ h => h)).rd (HW7.out.only HO9.out (fun _ _ h => h)).rd).mono ?_
      rintro e w10 ⟨rfl, ho10⟩
      have HO10 := Lib.hid (HO9.out.tr ho10)
      clear ho10
      have hbb : (wb == wb) = true := by simp
      cases wb
      all_goals
        go_wp2_with fail
        go_ret
        exact ⟨rfl, (HO7.out.tr HO10.out).below (Nat.le_refl _) fun _ h => h.elim⟩
end Go.Proofs.YtjmjmgemhkjomaaDoor
