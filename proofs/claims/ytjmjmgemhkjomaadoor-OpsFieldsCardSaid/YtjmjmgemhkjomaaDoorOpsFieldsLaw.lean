/- ops: the law OpsFields, walked. -/
import Derived.Test.YtjmjmgemhkjomaaDoorOpsReadsLaw
import Derived.Test.YtjmjmgemhkjomaaDoorOpsNamesLaw
import Derived.Test.YtjmjmgemhkjomaaDoorOpsXor
import Derived.Deep.RegionHeld3
import Derived.Deep.DeepCutAuto
import Derived.Deep.CutBlock
namespace Go.Proofs.YtjmjmgemhkjomaaDoor
open Go.RowKit
set_option linter.unusedVariables false
set_option linter.unusedSimpArgs false

/-- the name of k finds k -/
theorem find_name (k : Nat) (hk : k < 23) (nb fb : List UInt8) (hrow : (rowsOf Rows.laid_tappet_ops_forms)[k]? = some (.agg [.lit (.string nb), .lit (.string fb)])) : findR ⟨nb.toArray⟩ = ((k : Int), true) := by
  match k, hk with
  | 0, _ | 1, _ | 2, _ | 3, _ | 4, _ | 5, _ | 6, _ | 7, _ | 8, _ | 9, _ | 10, _ | 11, _ | 12, _ | 13, _ | 14, _ | 15, _ | 16, _ | 17, _ | 18, _ | 19, _ | 20, _ | 21, _ | 22, _ =>
    have h := Option.some.inj hrow
    simp only [DataW.agg.injEq, List.cons.injEq, DataW.lit.injEq, Lit.string.injEq] at h
    obtain ⟨rfl, _⟩ := h
    decide +kernel
  | n + 23, h' => exact absurd h' (by omega)

def Far (far : Int) : Prop := 100 ≤ far ∧ far ≤ 9223372036854775807
theorem far_of (x : Int) (h : ¬ wrap64 (100 + (wrap64 (x.tmod 1000 * x)).tmod 1000) < 100) : Far (wrap64 (100 + (wrap64 (x.tmod 1000 * x)).tmod 1000)) := by
  refine ⟨by omega, ?_⟩
  have h1 : (wrap64 (x.tmod 1000 * x)).tmod 1000 < 1000 := Int.tmod_lt_of_pos _ (by omega)
  have h2 : -1000 < (wrap64 (x.tmod 1000 * x)).tmod 1000 := by
    have := Int.lt_tmod_of_pos (wrap64 (x.tmod 1000 * x)) (b := 1000) (by omega); omega
  generalize (wrap64 (x.tmod 1000 * x)).tmod 1000 = y at *
  have : wrap64 (100 + y) = 100 + y := by unfold wrap64; omega
  rw [this]; omega
/-- four copies of an instruction -/
structure Four (w : World) (i : In) (g8 g9 g10 g11 : Nat) (wc : World) : Prop where
  h8 : wc.heap[g8]? = some (.cells #[.int .i64 i.op, .int .i64 i.d, .int .i64 i.a, .int .i64 i.b, .int .i64 i.imm] 34 (0, 0))
  h9 : wc.heap[g9]? = some (.cells #[.int .i64 i.op, .int .i64 i.d, .int .i64 i.a, .int .i64 i.b, .int .i64 i.imm] 34 (0, 0))
  h10 : wc.heap[g10]? = some (.cells #[.int .i64 i.op, .int .i64 i.d, .int .i64 i.a, .int .i64 i.b, .int .i64 i.imm] 34 (0, 0))
  h11 : wc.heap[g11]? = some (.cells #[.int .i64 i.op, .int .i64 i.d, .int .i64 i.a, .int .i64 i.b, .int .i64 i.imm] 34 (0, 0))
  n : g8 ≠ g9 ∧ g8 ≠ g10 ∧ g8 ≠ g11 ∧ g9 ≠ g10 ∧ g9 ≠ g11 ∧ g10 ≠ g11
  l : w.heap.size ≤ g8 ∧ w.heap.size ≤ g9 ∧ w.heap.size ≤ g10 ∧ w.heap.size ≤ g11
  only : Only (fun _ => False) w wc

theorem at4 (w : World) (o : Obj) (g : Nat) (h : w.heap.size ≤ g ∧ g < w.heap.size + 4) : ((((w.alloc o).alloc o).alloc o).alloc o).heap[g]? = some o := by
  have s1 : (w.alloc o).heap.size = w.heap.size + 1 := by simp
  have s2 : ((w.alloc o).alloc o).heap.size = w.heap.size + 1 + 1 := by simp
  have s3 : (((w.alloc o).alloc o).alloc o).heap.size = w.heap.size + 1 + 1 + 1 := by simp
  by_cases h3 : g = w.heap.size + 1 + 1 + 1
  · subst h3; rw [← s3]; exact heap_alloc_new _ _
  refine (heap_alloc_old _ _ (by rw [s3]; omega)).trans ?_
  by_cases h2 : g = w.heap.size + 1 + 1
  · subst h2; rw [← s2]; exact heap_alloc_new _ _
  refine (heap_alloc_old _ _ (by rw [s2]; omega)).trans ?_
  by_cases h1 : g = w.heap.size + 1
  · subst h1; rw [← s1]; exact heap_alloc_new _ _
  refine (heap_alloc_old _ _ (by rw [s1]; omega)).trans ?_
  obtain rfl : g = w.heap.size := by omega
  exact heap_alloc_new _ _
theorem four_of (w : World) (i : In) (g8 g9 g10 g11 : Nat)
    (h : w.heap.size ≤ g8 ∧ g8 < w.heap.size + 4 ∧ w.heap.size ≤ g9 ∧ g9 < w.heap.size + 4 ∧ w.heap.size ≤ g10 ∧ g10 < w.heap.size + 4 ∧ w.heap.size ≤ g11 ∧ g11 < w.heap.size + 4 ∧ ¬ g8 = g9 ∧ ¬ g8 = g10 ∧ ¬ g8 = g11 ∧ ¬ g9 = g10 ∧ ¬ g9 = g11 ∧ ¬ g10 = g11) :
    Four w i g8 g9 g10 g11 ((((w.alloc (.cells #[.int .i64 i.op, .int .i64 i.d, .int .i64 i.a, .int .i64 i.b, .int .i64 i.imm] 34)).alloc (.cells #[.int .i64 i.op, .int .i64 i.d, .int .i64 i.a, .int .i64 i.b, .int .i64 i.imm] 34)).alloc (.cells #[.int .i64 i.op, .int .i64 i.d, .int .i64 i.a, .int .i64 i.b, .int .i64 i.imm] 34)).alloc (.cells #[.int .i64 i.op, .int .i64 i.d, .int .i64 i.a, .int .i64 i.b, .int .i64 i.imm] 34)).drew :=
  ⟨at4 w _ g8 (by omega), at4 w _ g9 (by omega), at4 w _ g10 (by omega), at4 w _ g11 (by omega), by omega, by omega, ((((Only.alloc _ _ _).tr (Only.alloc _ _ _)).tr (Only.alloc _ _ _)).tr (Only.alloc _ _ _)).drew_⟩

theorem far_d (far : Int) (h : Far far) (k : Nat) (a b imm : Int) : rightR ⟨k, far, a, b, imm⟩ = false := by
  have h1 := h.1
  unfold rightR sourcedR regB; dsimp only
  repeat' split
  all_goals (simp; try omega)
theorem far_a (far : Int) (h : Far far) (k : Nat) (d b imm : Int) : rightR ⟨k, d, far, b, imm⟩ = false := by
  have h1 := h.1
  unfold rightR sourcedR regB; dsimp only
  repeat' split
  all_goals (simp; try omega)
theorem far_b (far : Int) (h : Far far) (k : Nat) (d a imm : Int) : rightR ⟨k, d, a, far, imm⟩ = false := by
  have h1 := h.1
  unfold rightR sourcedR regB; dsimp only
  repeat' split
  all_goals (simp; try omega)
theorem far_o (far : Int) (h : Far far) (d a b imm : Int) : rightR ⟨far, d, a, b, imm⟩ = false := rightO _ (.inr (by have := h.1; dsimp only; omega))
theorem lit_inst (w : World) (i : In) : Rd eInst (w.alloc (.cells #[.int .i64 i.op, .int .i64 i.d, .int .i64 i.a, .int .i64 i.b, .int .i64 i.imm] 34)) (.slice (some ⟨w.heap.size, 0, none⟩) 1 1) [(i.op, i.d, i.a, i.b, i.imm)] :=
  Rd.lit w #[.int .i64 i.op, .int .i64 i.d, .int .i64 i.a, .int .i64 i.b, .int .i64 i.imm] 34 (0, 0) 1 1 [(i.op, i.d, i.a, i.b, i.imm)] rfl rfl (by simp) (by simp [maxLen])

theorem keepE {w w' : World} {ge gb : Nat} {te tb : TypeId} {fe fb : Nat × Nat} {e0 e1 e2 e3 e4 b0 b1 b2 b3 b4 : Value} (h : Only (fun _ => False) w w') (he : w.heap[ge]? = some (.cells #[e0, e1, e2, e3, e4] te fe)) (hb : w.heap[gb]? = some (.cells #[b0, b1, b2, b3, b4] tb fb)) :
    Only (fun _ => False) w w' ∧ (w'.cell? ⟨ge, 0, none⟩ = some e0 ∧ w'.cell? ⟨ge, 1, none⟩ = some e1 ∧ w'.cell? ⟨ge, 2, none⟩ = some e2 ∧ w'.cell? ⟨ge, 3, none⟩ = some e3 ∧ w'.cell? ⟨ge, 4, none⟩ = some e4) ∧
      (w'.cell? ⟨gb, 0, none⟩ = some b0 ∧ w'.cell? ⟨gb, 1, none⟩ = some b1 ∧ w'.cell? ⟨gb, 2, none⟩ = some b2 ∧ w'.cell? ⟨gb, 3, none⟩ = some b3 ∧ w'.cell? ⟨gb, 4, none⟩ = some b4) := by
  have he' := h.heap he (fun h => h)
  have hb' := h.heap hb (fun h => h)
  exact ⟨h, ⟨cells_of_heap he' 0 _ rfl, cells_of_heap he' 1 _ rfl, cells_of_heap he' 2 _ rfl, cells_of_heap he' 3 _ rfl, cells_of_heap he' 4 _ rfl⟩, cells_of_heap hb' 0 _ rfl, cells_of_heap hb' 1 _ rfl, cells_of_heap hb' 2 _ rfl, cells_of_heap hb' 3 _ rfl, cells_of_heap hb' 4 _ rfl⟩
set_option maxRecDepth 100000 in
set_option maxHeartbeats 8000000 in
theorem opsFields_yes (op d a b imm by_ : Int) (hr : rightR ⟨op, d, a, b, imm⟩ = true) (himm : -9223372036854775808 ≤ imm ∧ imm ≤ 9223372036854775807) (w : World) (hF : FormsB w) :
    Calls Tryd.prog 5 #[(In.mk op d a b imm).v, .int .i64 by_] w fun e w' => e = .returned (.bool true) ∧ Below w.heap.size w w' := by
  have hrange := rightR_range hr
  obtain ⟨k, rfl⟩ : ∃ k : Nat, op = (k : Int) := ⟨op.toNat, by dsimp only at hrange; omega⟩
  have hk : k < 23 := by dsimp only at hrange; omega
  obtain ⟨nb, fb, hrow, _⟩ := row_of k hk
  have HROW := Lib.hid hrow
  have HFN := Lib.hid (find_name k hk nb fb hrow)
  have HR := Lib.hid hr
  have HF1 := Lib.hid (hF.only (Only.alloc _ w (.cells #[.int .i64 k, .int .i64 d, .int .i64 a, .int .i64 b, .int .i64 imm] 34)))
  clear hF hr hrow hrange
  have HIMM := Lib.hid himm
  clear himm
  go_enter Tryd.func5, Tryd.ntmps5
  go_wp2_with fail
  refine (awake_any _ HF1.out).mono ?_
  rintro e w1 ⟨rfl, ho⟩
  have hb := ho.heap (heap_alloc_new w _) (fun h => h)
  have c0 := cells_of_heap hb 0 (.int .i64 (k : Int)) rfl
  have c1 := cells_of_heap hb 1 (.int .i64 d) rfl
  have c2 := cells_of_heap hb 2 (.int .i64 a) rfl
  have c3 := cells_of_heap hb 3 (.int .i64 b) rfl
  have c4 := cells_of_heap hb 4 (.int .i64 imm) rfl
  have HB1 := Lib.hid hb
  have HO1 := Lib.hid ((Only.alloc _ w _).tr ho)
  have HF2 := Lib.hid (HF1.out.only ho)
  clear hb ho
  go_wp2_with fail
  refine (one_b ⟨k, d, a, b, imm⟩ _ HR.out _ _ (Rd.lit w1 #[.int .i64 k, .int .i64 d, .int .i64 a, .int .i64 b, .int .i64 imm] 34 (0, 0) 1 1 [((k : Int), d, a, b, imm)] rfl rfl (by simp) (by simp [maxLen])) (HF2.out.only (Only.alloc _ _ _)).forms).mono ?_
  rintro e w2 ⟨rfl, ho⟩
  have HO2 := Lib.hid (((Only.alloc (fun _ => False) w1 _).tr ho))
  have hb := HO2.out.heap HB1.out (fun h => h)
  have d0 := cells_of_heap hb 0 (.int .i64 (k : Int)) rfl
  have HB2 := Lib.hid hb
  have HF3 := Lib.hid (HF2.out.only HO2.out)
  clear hb ho c0 c1 c2 c3 c4
  go_wp2_with fail
  refine (name_in k nb fb _ hk HF3.out.forms HROW.out).mono ?_
  rintro e w3 ⟨rfl, ho3⟩
  have HF4 := Lib.hid (HF3.out.only ho3)
  have HO3 := Lib.hid (HO2.out.tr ho3)
  clear ho3 d0
  have hfi := fun W h => find_any ⟨nb.toArray⟩ W h
  rw [HFN.out] at hfi
  have HFI := Lib.hid hfi
  clear hfi
  go_wp2_with fail
  refine (HFI.out _ HF4.out).mono ?_
  rintro e w4 ⟨rfl, ho4⟩
  have HO4 := Lib.hid (HO3.out.tr ho4)
  have HO4w := Lib.hid (HO1.out.tr HO4.out)
  have hb := HO4.out.heap HB1.out (fun h => h)
  have c0 := cells_of_heap hb 0 (.int .i64 (k : Int)) rfl
  have c1 := cells_of_heap hb 1 (.int .i64 d) rfl
  have c2 := cells_of_heap hb 2 (.int .i64 a) rfl
  have c3 := cells_of_heap hb 3 (.int .i64 b) rfl
  have c4 := cells_of_heap hb 4 (.int .i64 imm) rfl
  have HB4 := Lib.hid hb
  have HF5 := Lib.hid (HF4.out.only ho4)
  clear ho4 hb
  go_upto_if 45 with (fail)
  go_cut [7] (fun t7 wc => ∃ far : Int, Far far ∧ t7 = .int .i64 far ∧ w4 = wc)
  case first =>
    by_cases hx : wrap64 (100 + (wrap64 (by_.tmod 1000 * by_)).tmod 1000) < 100
    · go_wp2_with fail
      go_meet
      exact ⟨100, ⟨by omega, by omega⟩, rfl, rfl⟩
    · have HFAR := Lib.hid (far_of by_ hx)
      go_wp2_with fail
      go_meet
      exact ⟨_, HFAR.out, rfl, rfl⟩
  case rest =>
    obtain ⟨far, hfar, rfl, rfl⟩ := hcut
    go_upto_region 11 with (fail)
    go_cut [8, 9, 10, 11] (fun p8 p9 p10 p11 wc => ∃ g8 g9 g10 g11 : Nat, p8 = .pointer (some ⟨g8, 0, none⟩) ∧ p9 = .pointer (some ⟨g9, 0, none⟩) ∧ p10 = .pointer (some ⟨g10, 0, none⟩) ∧ p11 = .pointer (some ⟨g11, 0, none⟩) ∧ Four w4 ⟨k, d, a, b, imm⟩ g8 g9 g10 g11 wc)
    case first =>
      have hl : w.heap.size < w4.heap.size := heap_lt HB4.out
      have hl1 : w.heap.size < w4.heap.size + 1 := by omega
      have hl2 : w.heap.size < w4.heap.size + 2 := by omega
      have hl3 : w.heap.size < w4.heap.size + 3 := by omega
      have hl4 : w.heap.size < w4.heap.size + 1 + 1 := by omega
      have hl5 : w.heap.size < w4.heap.size + 1 + 1 + 1 := by omega
      go_region_held3 (fun w' => w'.cell? ⟨w.heap.size, 0, none⟩ = some (.int .i64 (k : Int)) ∧ w'.cell? ⟨w.heap.size, 1, none⟩ = some (.int .i64 d) ∧ w'.cell? ⟨w.heap.size, 2, none⟩ = some (.int .i64 a) ∧ w'.cell? ⟨w.heap.size, 3, none⟩ = some (.int .i64 b) ∧ w'.cell? ⟨w.heap.size, 4, none⟩ = some (.int .i64 imm)) (simp [c0, c1, c2, c3, c4, hl, hl1, hl2, hl3, hl4, hl5, World.cell?_alloc_lt]) (fail)
      all_goals
        go_wp2_with fail
        go_meet
        exact ⟨_, _, _, _, rfl, rfl, rfl, rfl, four_of w4 ⟨k, d, a, b, imm⟩ _ _ _ _ (by omega)⟩
    case rest =>
      obtain ⟨g8, g9, g10, g11, rfl, rfl, rfl, rfl, V⟩ := hcut
      have HV := Lib.hid V
      obtain ⟨n1, n2, n3, n4, n5, n6⟩ := V.n
      have m1 : ¬ g9 = g8 := fun h => n1 h.symm
      have m2 : ¬ g10 = g8 := fun h => n2 h.symm
      have m3 : ¬ g11 = g8 := fun h => n3 h.symm
      have m4 : ¬ g10 = g9 := fun h => n4 h.symm
      have m5 : ¬ g11 = g9 := fun h => n5 h.symm
      have m6 : ¬ g11 = g10 := fun h => n6 h.symm
      have q1 := cells_of_heap V.h8 1 (.int .i64 d) rfl
      have q2 := cells_of_heap V.h9 2 (.int .i64 a) rfl
      have q3 := cells_of_heap V.h10 3 (.int .i64 b) rfl
      have q4 := cells_of_heap V.h11 0 (.int .i64 (k : Int)) rfl
      have z1 := frozen_of_row wc g8 1 _ _ V.h8
      have z2 := frozen_of_row wc g9 2 _ _ V.h9
      have z3 := frozen_of_row wc g10 3 _ _ V.h10
      have z4 := frozen_of_row wc g11 0 _ _ V.h11
      clear V c0 c1 c2 c3 c4
      go_upto_region 16 with (fail)
      have HB5 := Lib.hid (HV.out.only.heap HB4.out (fun h => h))
      have hlt := heap_lt HB4.out
      obtain ⟨l8, l9, l10, l11⟩ := HV.out.l
      obtain ⟨W, hW⟩ : ∃ W, W = (((wc.setCell ⟨g8, 1, none⟩ (.int .i64 far)).setCell ⟨g9, 2, none⟩ (.int .i64 far)).setCell ⟨g10, 3, none⟩ (.int .i64 far)).setCell ⟨g11, 0, none⟩ (.int .i64 far) := ⟨_, rfl⟩
      have k8 : W.heap[g8]? = some (.cells #[.int .i64 (k : Int), .int .i64 far, .int .i64 a, .int .i64 b, .int .i64 imm] 34 (0, 0)) := by
        rw [hW]
        exact heap_setCell_far (heap_setCell_far (heap_setCell_far (heap_setCell_same wc g8 1 _ _ _ HV.out.h8) _ _ _ n1) _ _ _ n2) _ _ _ n3
      have k9 : W.heap[g9]? = some (.cells #[.int .i64 (k : Int), .int .i64 d, .int .i64 far, .int .i64 b, .int .i64 imm] 34 (0, 0)) := by
        rw [hW]
        exact heap_setCell_far (heap_setCell_far (heap_setCell_same _ g9 2 _ _ _ (heap_setCell_far HV.out.h9 _ _ _ m1)) _ _ _ n4) _ _ _ n5
      have k10 : W.heap[g10]? = some (.cells #[.int .i64 (k : Int), .int .i64 d, .int .i64 a, .int .i64 far, .int .i64 imm] 34 (0, 0)) := by
        rw [hW]
        exact heap_setCell_far (heap_setCell_same _ g10 3 _ _ _ (heap_setCell_far (heap_setCell_far HV.out.h10 _ _ _ m2) _ _ _ m4)) _ _ _ n6
      have k11 : W.heap[g11]? = some (.cells #[.int .i64 far, .int .i64 d, .int .i64 a, .int .i64 b, .int .i64 imm] 34 (0, 0)) := by
        rw [hW]
        exact heap_setCell_same _ g11 0 _ _ _ (heap_setCell_far (heap_setCell_far (heap_setCell_far HV.out.h11 _ _ _ m3) _ _ _ m5) _ _ _ m6)
      have kb : W.heap[w.heap.size]? = some (.cells #[.int .i64 (k : Int), .int .i64 d, .int .i64 a, .int .i64 b, .int .i64 imm] 34 (0, 0)) := by
        rw [hW]
        exact heap_setCell_far (heap_setCell_far (heap_setCell_far (heap_setCell_far HB5.out _ _ _ (by omega)) _ _ _ (by omega)) _ _ _ (by omega)) _ _ _ (by omega)
      have HOW := Lib.hid (show Only (fun _ => False) w4 W by
        rw [hW]
        exact only_set (only_set (only_set (only_set HV.out.only l8 _ _) l9 _ _) l10 _ _) l11 _ _)
      simp only [← hW]
      clear hW q1 q2 q3 q4 z1 z2 z3 z4 n1 n2 n3 n4 n5 n6 m1 m2 m3 m4 m5 m6
      have HFW := Lib.hid (HF5.out.only HOW.out)
      have K8 := Lib.hid k8
      have K9 := Lib.hid k9
      have K10 := Lib.hid k10
      have K11 := Lib.hid k11
      have KB := Lib.hid kb
      have c0 := cells_of_heap k8 0 (.int .i64 (k : Int)) rfl
      have c1 := cells_of_heap k8 1 (.int .i64 far) rfl
      have c2 := cells_of_heap k8 2 (.int .i64 a) rfl
      have c3 := cells_of_heap k8 3 (.int .i64 b) rfl
      have c4 := cells_of_heap k8 4 (.int .i64 imm) rfl
      have s8 := heap_lt k8
      clear k8 k9 k10 k11 kb
      go_wp2_with fail
      refine (one_b ⟨k, far, a, b, imm⟩ _ (far_d far hfar k a b imm) _ _ (lit_inst W ⟨k, far, a, b, imm⟩) (HFW.out.only (Only.alloc _ _ _)).forms).mono ?_
      rintro e W2 ⟨rfl, ho⟩
      have HO2 := Lib.hid ((Only.alloc (fun _ => False) W _).tr ho)
      clear ho c0 c1 c2 c3 c4
      have k9 := HO2.out.heap K9.out (fun h => h)
      have c0 := cells_of_heap k9 0 (.int .i64 (k : Int)) rfl
      have c1 := cells_of_heap k9 1 (.int .i64 d) rfl
      have c2 := cells_of_heap k9 2 (.int .i64 far) rfl
      have c3 := cells_of_heap k9 3 (.int .i64 b) rfl
      have c4 := cells_of_heap k9 4 (.int .i64 imm) rfl
      clear k9
      go_wp2_with fail
      refine (one_b ⟨k, d, far, b, imm⟩ _ (far_a far hfar k d b imm) _ _ (lit_inst W2 ⟨k, d, far, b, imm⟩) ((HFW.out.only HO2.out).only (Only.alloc _ _ _)).forms).mono ?_
      rintro e W3 ⟨rfl, ho⟩
      have HO3 := Lib.hid ((HO2.out.tr (Only.alloc (fun _ => False) W2 _)).tr ho)
      clear ho c0 c1 c2 c3 c4
      have k10 := HO3.out.heap K10.out (fun h => h)
      have c0 := cells_of_heap k10 0 (.int .i64 (k : Int)) rfl
      have c1 := cells_of_heap k10 1 (.int .i64 d) rfl
      have c2 := cells_of_heap k10 2 (.int .i64 a) rfl
      have c3 := cells_of_heap k10 3 (.int .i64 far) rfl
      have c4 := cells_of_heap k10 4 (.int .i64 imm) rfl
      clear k10
      go_wp2_with fail
      refine (one_b ⟨k, d, a, far, imm⟩ _ (far_b far hfar k d a imm) _ _ (lit_inst W3 ⟨k, d, a, far, imm⟩) ((HFW.out.only HO3.out).only (Only.alloc _ _ _)).forms).mono ?_
      rintro e W4 ⟨rfl, ho⟩
      have HO4 := Lib.hid ((HO3.out.tr (Only.alloc (fun _ => False) W3 _)).tr ho)
      clear ho c0 c1 c2 c3 c4
      have k11 := HO4.out.heap K11.out (fun h => h)
      have c0 := cells_of_heap k11 0 (.int .i64 far) rfl
      have c1 := cells_of_heap k11 1 (.int .i64 d) rfl
      have c2 := cells_of_heap k11 2 (.int .i64 a) rfl
      have c3 := cells_of_heap k11 3 (.int .i64 b) rfl
      have c4 := cells_of_heap k11 4 (.int .i64 imm) rfl
      clear k11
      go_wp2_with fail
      refine (one_b ⟨far, d, a, b, imm⟩ _ (far_o far hfar d a b imm) _ _ (lit_inst W4 ⟨far, d, a, b, imm⟩) ((HFW.out.only HO4.out).only (Only.alloc _ _ _)).forms).mono ?_
      rintro e W5 ⟨rfl, ho⟩
      have HO5 := Lib.hid ((HO4.out.tr (Only.alloc (fun _ => False) W4 _)).tr ho)
      clear ho c0 c1 c2 c3 c4
      have kb := HO5.out.heap KB.out (fun h => h)
      have c0 := cells_of_heap kb 0 (.int .i64 (k : Int)) rfl
      have c1 := cells_of_heap kb 1 (.int .i64 d) rfl
      have c2 := cells_of_heap kb 2 (.int .i64 a) rfl
      have c3 := cells_of_heap kb 3 (.int .i64 b) rfl
      have c4 := cells_of_heap kb 4 (.int .i64 imm) rfl
      have KB5 := Lib.hid kb
      have hlb := heap_lt kb
      clear kb
      go_wp2_with fail
      obtain ⟨Y, hY⟩ : ∃ Y, Y = bits BinOp.xor IntKind.i64 imm 1099511627776 := ⟨_, rfl⟩
      simp only [← hY]
      have HXE := Lib.hid (right_xor ⟨k, d, a, b, imm⟩ Y hY HIMM.out HR.out)
      clear hY
      have KE0 := heap_alloc_new W5 (.cells #[.int .i64 (k : Int), .int .i64 d, .int .i64 a, .int .i64 b, .int .i64 Y] 34)
      have KB0 := heap_alloc (p := .cells #[.int .i64 (k : Int), .int .i64 d, .int .i64 a, .int .i64 b, .int .i64 Y] 34) KB5.out
      have HO60 := Only.alloc (fun _ => False) W5 (.cells #[.int .i64 (k : Int), .int .i64 d, .int .i64 a, .int .i64 b, .int .i64 Y] 34)
      obtain ⟨W6, hW6⟩ : ∃ W6, W6 = W5.alloc (.cells #[.int .i64 (k : Int), .int .i64 d, .int .i64 a, .int .i64 b, .int .i64 Y] 34) := ⟨_, rfl⟩
      rw [← hW6] at KE0 KB0 HO60
      simp only [← hW6]
      have KE := Lib.hid KE0
      have KB6 := Lib.hid KB0
      have HO6 := Lib.hid (((HO4w.out.tr HOW.out).tr HO5.out).tr HO60)
      have HF6 := Lib.hid (((HFW.out.only HO5.out).only HO60).forms)
      clear KE0 KB0 HO60 hW6 c0 c1 c2 c3 c4
      obtain ⟨e8, he8⟩ : ∃ x, (b == 8) = x := ⟨_, rfl⟩
      obtain ⟨sc, hsc⟩ : ∃ x, sourceR ⟨k, d, a, b, imm⟩ = x := ⟨_, rfl⟩
      have HSC := Lib.hid hsc
      have HRE := Lib.hid (show rightR ⟨k, d, a, b, Y⟩ = (sc && e8) by rw [HXE.out]; dsimp only; rw [hsc, he8])
      clear hsc HXE
      cases sc
      · skip
        -- REGION false
        refine wp_region_held_drew (S := fun w' => Only (fun _ => False) W6 w' ∧ (w'.cell? ⟨W5.heap.size, 0, none⟩ = some (.int .i64 (k : Int)) ∧ w'.cell? ⟨W5.heap.size, 1, none⟩ = some (.int .i64 d) ∧ w'.cell? ⟨W5.heap.size, 2, none⟩ = some (.int .i64 a) ∧ w'.cell? ⟨W5.heap.size, 3, none⟩ = some (.int .i64 b) ∧ w'.cell? ⟨W5.heap.size, 4, none⟩ = some (.int .i64 Y)) ∧ (w'.cell? ⟨w.heap.size, 0, none⟩ = some (.int .i64 (k : Int)) ∧ w'.cell? ⟨w.heap.size, 1, none⟩ = some (.int .i64 d) ∧ w'.cell? ⟨w.heap.size, 2, none⟩ = some (.int .i64 a) ∧ w'.cell? ⟨w.heap.size, 3, none⟩ = some (.int .i64 b) ∧ w'.cell? ⟨w.heap.size, 4, none⟩ = some (.int .i64 imm))) (by kernel_rfl) ?_ (fun hHeld => ?_)
        · exact keepE (Only.refl _ _).drew_ KE.out KB6.out
        try simp only [Act.put, List.getElem_toArray, List.getElem_cons_succ, List.getElem_cons_zero, List.setIfInBounds_toArray, List.set_cons_zero, List.set_cons_succ]
        refine wpAnyH_take (i := 0) (v := ?vf0) rfl (by kernel_rfl) (by kernel_rfl) (by kernel_rfl) (fun _ _ _ h => h) (Or.inl ⟨by rfl, ?hyf0⟩) (by assumption) ?restf0
        case hyf0 =>
          intro w hSw
          try dsimp only at hSw
          go_simp
          all_goals with_reducible rfl
        simp only [Act.put, List.getElem_toArray, List.getElem_cons_succ, List.getElem_cons_zero, List.setIfInBounds_toArray, List.set_cons_zero, List.set_cons_succ]
        refine wpAnyH_take (i := 3) (v := ?vf3) rfl (by kernel_rfl) (by kernel_rfl) (by kernel_rfl) (fun _ _ _ h => h) (Or.inl ⟨by rfl, ?hyf3⟩) (by assumption) ?restf3
        case hyf3 =>
          intro w hSw
          try dsimp only at hSw
          go_simp
          all_goals with_reducible rfl
        simp only [Act.put, List.getElem_toArray, List.getElem_cons_succ, List.getElem_cons_zero, List.setIfInBounds_toArray, List.set_cons_zero, List.set_cons_succ]
        refine wpAnyH_ready (rs := [1]) (by kernel_rfl) (by simp) ?_
        refine AllReadyH.cons rfl (fun K hK => ?_) AllReadyH.nil
        go_simp
        try go_wp2_with fail
        refine hK.out _ _ ?_ (fun hHeld => ?_)
        · exact keepE (Only.alloc _ _ _).drew_ KE.out KB6.out
        clear hK K
        try simp only [Act.put, List.getElem_toArray, List.getElem_cons_succ, List.getElem_cons_zero, List.setIfInBounds_toArray, List.set_cons_zero, List.set_cons_succ]
        refine wpAnyH_ready (rs := [2]) (by kernel_rfl) (by simp) ?_
        refine AllReadyH.cons rfl (fun K hK => ?_) AllReadyH.nil
        go_simp
        refine (one_b ⟨k, d, a, b, Y⟩ _ HRE.out _ _ ((lit_inst W6 ⟨k, d, a, b, Y⟩).drew) (HF6.out.only (Only.alloc _ _ _).drew_)).mono ?_
        rintro e W7 ⟨rfl, ho7⟩
        have hoi : Only (fun _ => False) W6 W7 := (Only.alloc _ _ _).drew_.tr ho7
        try go_wp2_with fail
        refine hK.out _ _ ?_ (fun hHeld => ?_)
        · exact keepE hoi KE.out KB6.out
        clear hK K
        try simp only [Act.put, List.getElem_toArray, List.getElem_cons_succ, List.getElem_cons_zero, List.setIfInBounds_toArray, List.set_cons_zero, List.set_cons_succ]
        refine wpAnyH_ready (rs := [4]) (by kernel_rfl) (by simp) ?_
        refine AllReadyH.cons rfl (fun K hK => ?_) AllReadyH.nil
        go_simp
        refine (source_b ⟨k, d, a, b, imm⟩ _ HSC.out _ (HF6.out.only hoi)).mono ?_
        rintro e W8 ⟨rfl, ho8⟩
        have hoj : Only (fun _ => False) W6 W8 := hoi.tr ho8
        try go_wp2_with fail
        refine hK.out _ _ ?_ (fun hHeld => ?_)
        · exact keepE hoj KE.out KB6.out
        clear hK K
        try simp only [Act.put, List.getElem_toArray, List.getElem_cons_succ, List.getElem_cons_zero, List.setIfInBounds_toArray, List.set_cons_zero, List.set_cons_succ]
        refine wpAnyH_take (i := 5) (v := ?vf5) rfl (by kernel_rfl) (by kernel_rfl) (by kernel_rfl) (fun _ _ _ h => h) (Or.inl ⟨by rfl, ?hyf5⟩) (by assumption) ?restf5
        case hyf5 =>
          intro w hSw
          try dsimp only at hSw
          go_simp
          all_goals with_reducible rfl
        simp only [Act.put, List.getElem_toArray, List.getElem_cons_succ, List.getElem_cons_zero, List.setIfInBounds_toArray, List.set_cons_zero, List.set_cons_succ]
        refine wpAnyH_take (i := 6) (v := undef) rfl (by kernel_rfl) (by kernel_rfl) (by kernel_rfl) (fun _ _ _ h => h) (Or.inr ⟨by rfl, rfl⟩) (by assumption) ?_
        simp only [Act.put, List.getElem_toArray, List.getElem_cons_succ, List.getElem_cons_zero, List.setIfInBounds_toArray, List.set_cons_zero, List.set_cons_succ]
        refine wpAnyH_take (i := 7) (v := undef) rfl (by kernel_rfl) (by kernel_rfl) (by kernel_rfl) (fun _ _ _ h => h) (Or.inr ⟨by rfl, rfl⟩) (by assumption) ?_
        simp only [Act.put, List.getElem_toArray, List.getElem_cons_succ, List.getElem_cons_zero, List.setIfInBounds_toArray, List.set_cons_zero, List.set_cons_succ]
        refine wpAnyH_take (i := 8) (v := undef) rfl (by kernel_rfl) (by kernel_rfl) (by kernel_rfl) (fun _ _ _ h => h) (Or.inr ⟨by rfl, rfl⟩) (by assumption) ?_
        simp only [Act.put, List.getElem_toArray, List.getElem_cons_succ, List.getElem_cons_zero, List.setIfInBounds_toArray, List.set_cons_zero, List.set_cons_succ]
        refine wpAnyH_take (i := 9) (v := ?vf9) rfl (by kernel_rfl) (by kernel_rfl) (by kernel_rfl) (fun _ _ _ h => h) (Or.inl ⟨by rfl, ?hyf9⟩) (by assumption) ?restf9
        case hyf9 =>
          intro w hSw
          try dsimp only at hSw
          go_simp
          all_goals with_reducible rfl
        simp only [Act.put, List.getElem_toArray, List.getElem_cons_succ, List.getElem_cons_zero, List.setIfInBounds_toArray, List.set_cons_zero, List.set_cons_succ]
        refine wpAnyH_take (i := 10) (v := ?vf10) rfl (by kernel_rfl) (by kernel_rfl) (by kernel_rfl) (fun _ _ _ h => h) (Or.inl ⟨by rfl, ?hyf10⟩) (by assumption) ?restf10
        case hyf10 =>
          intro w hSw
          try dsimp only at hSw
          go_simp
          all_goals with_reducible rfl
        simp only [Act.put, List.getElem_toArray, List.getElem_cons_succ, List.getElem_cons_zero, List.setIfInBounds_toArray, List.set_cons_zero, List.set_cons_succ]
        refine wpAnyH_take (i := 11) (v := ?vf11) rfl (by kernel_rfl) (by kernel_rfl) (by kernel_rfl) (fun _ _ _ h => h) (Or.inl ⟨by rfl, ?hyf11⟩) (by assumption) ?restf11
        case hyf11 =>
          intro w hSw
          try dsimp only at hSw
          go_simp
          all_goals with_reducible rfl
        simp only [Act.put, List.getElem_toArray, List.getElem_cons_succ, List.getElem_cons_zero, List.setIfInBounds_toArray, List.set_cons_zero, List.set_cons_succ]
        refine wpAnyH_done (by kernel_rfl) ?_ _
        -- END
        clear hoi ho7 ho8
        have HOZ := Lib.hid (HO6.out.tr hoj)
        clear hoj
        go_wp2_with fail
        go_ret
        exact ⟨rfl, HOZ.out.below (Nat.le_refl _) fun _ h => h.elim⟩
      · skip
        -- REGION true
        refine wp_region_held_drew (S := fun w' => Only (fun _ => False) W6 w' ∧ (w'.cell? ⟨W5.heap.size, 0, none⟩ = some (.int .i64 (k : Int)) ∧ w'.cell? ⟨W5.heap.size, 1, none⟩ = some (.int .i64 d) ∧ w'.cell? ⟨W5.heap.size, 2, none⟩ = some (.int .i64 a) ∧ w'.cell? ⟨W5.heap.size, 3, none⟩ = some (.int .i64 b) ∧ w'.cell? ⟨W5.heap.size, 4, none⟩ = some (.int .i64 Y)) ∧ (w'.cell? ⟨w.heap.size, 0, none⟩ = some (.int .i64 (k : Int)) ∧ w'.cell? ⟨w.heap.size, 1, none⟩ = some (.int .i64 d) ∧ w'.cell? ⟨w.heap.size, 2, none⟩ = some (.int .i64 a) ∧ w'.cell? ⟨w.heap.size, 3, none⟩ = some (.int .i64 b) ∧ w'.cell? ⟨w.heap.size, 4, none⟩ = some (.int .i64 imm))) (by kernel_rfl) ?_ (fun hHeld => ?_)
        · exact keepE (Only.refl _ _).drew_ KE.out KB6.out
        try simp only [Act.put, List.getElem_toArray, List.getElem_cons_succ, List.getElem_cons_zero, List.setIfInBounds_toArray, List.set_cons_zero, List.set_cons_succ]
        refine wpAnyH_take (i := 0) (v := ?vt0) rfl (by kernel_rfl) (by kernel_rfl) (by kernel_rfl) (fun _ _ _ h => h) (Or.inl ⟨by rfl, ?hyt0⟩) (by assumption) ?restt0
        case hyt0 =>
          intro w hSw
          try dsimp only at hSw
          go_simp
          all_goals with_reducible rfl
        simp only [Act.put, List.getElem_toArray, List.getElem_cons_succ, List.getElem_cons_zero, List.setIfInBounds_toArray, List.set_cons_zero, List.set_cons_succ]
        refine wpAnyH_take (i := 3) (v := ?vt3) rfl (by kernel_rfl) (by kernel_rfl) (by kernel_rfl) (fun _ _ _ h => h) (Or.inl ⟨by rfl, ?hyt3⟩) (by assumption) ?restt3
        case hyt3 =>
          intro w hSw
          try dsimp only at hSw
          go_simp
          all_goals with_reducible rfl
        simp only [Act.put, List.getElem_toArray, List.getElem_cons_succ, List.getElem_cons_zero, List.setIfInBounds_toArray, List.set_cons_zero, List.set_cons_succ]
        refine wpAnyH_ready (rs := [1]) (by kernel_rfl) (by simp) ?_
        refine AllReadyH.cons rfl (fun K hK => ?_) AllReadyH.nil
        go_simp
        try go_wp2_with fail
        refine hK.out _ _ ?_ (fun hHeld => ?_)
        · exact keepE (Only.alloc _ _ _).drew_ KE.out KB6.out
        clear hK K
        try simp only [Act.put, List.getElem_toArray, List.getElem_cons_succ, List.getElem_cons_zero, List.setIfInBounds_toArray, List.set_cons_zero, List.set_cons_succ]
        refine wpAnyH_ready (rs := [2]) (by kernel_rfl) (by simp) ?_
        refine AllReadyH.cons rfl (fun K hK => ?_) AllReadyH.nil
        go_simp
        refine (one_b ⟨k, d, a, b, Y⟩ _ HRE.out _ _ ((lit_inst W6 ⟨k, d, a, b, Y⟩).drew) (HF6.out.only (Only.alloc _ _ _).drew_)).mono ?_
        rintro e W7 ⟨rfl, ho7⟩
        have hoi : Only (fun _ => False) W6 W7 := (Only.alloc _ _ _).drew_.tr ho7
        try go_wp2_with fail
        refine hK.out _ _ ?_ (fun hHeld => ?_)
        · exact keepE hoi KE.out KB6.out
        clear hK K
        try simp only [Act.put, List.getElem_toArray, List.getElem_cons_succ, List.getElem_cons_zero, List.setIfInBounds_toArray, List.set_cons_zero, List.set_cons_succ]
        refine wpAnyH_ready (rs := [4]) (by kernel_rfl) (by simp) ?_
        refine AllReadyH.cons rfl (fun K hK => ?_) AllReadyH.nil
        go_simp
        refine (source_b ⟨k, d, a, b, imm⟩ _ HSC.out _ (HF6.out.only hoi)).mono ?_
        rintro e W8 ⟨rfl, ho8⟩
        have hoj : Only (fun _ => False) W6 W8 := hoi.tr ho8
        try go_wp2_with fail
        refine hK.out _ _ ?_ (fun hHeld => ?_)
        · exact keepE hoj KE.out KB6.out
        clear hK K
        try simp only [Act.put, List.getElem_toArray, List.getElem_cons_succ, List.getElem_cons_zero, List.setIfInBounds_toArray, List.set_cons_zero, List.set_cons_succ]
        refine wpAnyH_take (i := 5) (v := ?vt5) rfl (by kernel_rfl) (by kernel_rfl) (by kernel_rfl) (fun _ _ _ h => h) (Or.inl ⟨by rfl, ?hyt5⟩) (by assumption) ?restt5
        case hyt5 =>
          intro w hSw
          try dsimp only at hSw
          go_simp
          all_goals with_reducible rfl
        simp only [Act.put, List.getElem_toArray, List.getElem_cons_succ, List.getElem_cons_zero, List.setIfInBounds_toArray, List.set_cons_zero, List.set_cons_succ]
        refine wpAnyH_take (i := 6) (v := ?vt6) rfl (by kernel_rfl) (by kernel_rfl) (by kernel_rfl) (fun _ _ _ h => h) (Or.inl ⟨by rfl, ?hyt6⟩) (by assumption) ?restt6
        case hyt6 =>
          intro w hSw
          try dsimp only at hSw
          go_simp
          all_goals with_reducible rfl
        simp only [Act.put, List.getElem_toArray, List.getElem_cons_succ, List.getElem_cons_zero, List.setIfInBounds_toArray, List.set_cons_zero, List.set_cons_succ]
        refine wpAnyH_take (i := 7) (v := ?vt7) rfl (by kernel_rfl) (by kernel_rfl) (by kernel_rfl) (fun _ _ _ h => h) (Or.inl ⟨by rfl, ?hyt7⟩) (by assumption) ?restt7
        case hyt7 =>
          intro w hSw
          try dsimp only at hSw
          go_simp
          all_goals with_reducible rfl
        simp only [Act.put, List.getElem_toArray, List.getElem_cons_succ, List.getElem_cons_zero, List.setIfInBounds_toArray, List.set_cons_zero, List.set_cons_succ]
        refine wpAnyH_take (i := 8) (v := ?vt8) rfl (by kernel_rfl) (by kernel_rfl) (by kernel_rfl) (fun _ _ _ h => h) (Or.inl ⟨by rfl, ?hyt8⟩) (by assumption) ?restt8
        case hyt8 =>
          intro w hSw
          try dsimp only at hSw
          go_simp
          all_goals with_reducible rfl
        simp only [Act.put, List.getElem_toArray, List.getElem_cons_succ, List.getElem_cons_zero, List.setIfInBounds_toArray, List.set_cons_zero, List.set_cons_succ]
        refine wpAnyH_take (i := 9) (v := ?vt9) rfl (by kernel_rfl) (by kernel_rfl) (by kernel_rfl) (fun _ _ _ h => h) (Or.inl ⟨by rfl, ?hyt9⟩) (by assumption) ?restt9
        case hyt9 =>
          intro w hSw
          try dsimp only at hSw
          go_simp
          all_goals with_reducible rfl
        simp only [Act.put, List.getElem_toArray, List.getElem_cons_succ, List.getElem_cons_zero, List.setIfInBounds_toArray, List.set_cons_zero, List.set_cons_succ]
        refine wpAnyH_take (i := 10) (v := ?vt10) rfl (by kernel_rfl) (by kernel_rfl) (by kernel_rfl) (fun _ _ _ h => h) (Or.inl ⟨by rfl, ?hyt10⟩) (by assumption) ?restt10
        case hyt10 =>
          intro w hSw
          try dsimp only at hSw
          go_simp
          all_goals with_reducible rfl
        simp only [Act.put, List.getElem_toArray, List.getElem_cons_succ, List.getElem_cons_zero, List.setIfInBounds_toArray, List.set_cons_zero, List.set_cons_succ]
        refine wpAnyH_take (i := 11) (v := ?vt11) rfl (by kernel_rfl) (by kernel_rfl) (by kernel_rfl) (fun _ _ _ h => h) (Or.inl ⟨by rfl, ?hyt11⟩) (by assumption) ?restt11
        case hyt11 =>
          intro w hSw
          try dsimp only at hSw
          go_simp
          all_goals with_reducible rfl
        simp only [Act.put, List.getElem_toArray, List.getElem_cons_succ, List.getElem_cons_zero, List.setIfInBounds_toArray, List.set_cons_zero, List.set_cons_succ]
        refine wpAnyH_done (by kernel_rfl) ?_ _
        -- END
        clear hoi ho7 ho8
        have HOZ := Lib.hid (HO6.out.tr hoj)
        clear hoj
        cases e8
        all_goals
          go_wp2_with fail
          go_ret
          exact ⟨rfl, HOZ.out.below (Nat.le_refl _) fun _ h => h.elim⟩

set_option maxRecDepth 100000 in
set_option maxHeartbeats 2000000 in
theorem opsFields_no (i : In) (by_ : Int) (hr : rightR i = false) (w : World) (hF : FormsB w) :
    Calls Tryd.prog 5 #[i.v, .int .i64 by_] w fun e w' => e = .returned (.bool true) ∧ Below w.heap.size w w' := by
  have HR := Lib.hid hr
  have HRP := Lib.hid (show rightP i = false by rw [right_eq]; exact hr)
  obtain ⟨op, d, a, b, imm⟩ := i
  have HF1 := Lib.hid (hF.only (Only.alloc _ w (.cells #[.int .i64 op, .int .i64 d, .int .i64 a, .int .i64 b, .int .i64 imm] 34)))
  clear hF hr
  go_enter Tryd.func5, Tryd.ntmps5
  go_wp2_with fail
  refine (awake_any _ HF1.out).mono ?_
  rintro e w1 ⟨rfl, ho⟩
  have hb := ho.heap (heap_alloc_new w _) (fun h => h)
  have c0 := cells_of_heap hb 0 (.int .i64 op) rfl
  have c1 := cells_of_heap hb 1 (.int .i64 d) rfl
  have c2 := cells_of_heap hb 2 (.int .i64 a) rfl
  have c3 := cells_of_heap hb 3 (.int .i64 b) rfl
  have c4 := cells_of_heap hb 4 (.int .i64 imm) rfl
  have HB1 := Lib.hid hb
  have HO1 := Lib.hid ((Only.alloc _ w _).tr ho)
  have HF2 := Lib.hid (HF1.out.only ho)
  clear hb ho
  go_wp2_with fail
  refine (one_b ⟨op, d, a, b, imm⟩ _ HR.out _ _ (lit_inst w1 ⟨op, d, a, b, imm⟩) (HF2.out.only (Only.alloc _ _ _)).forms).mono ?_
  rintro e w2 ⟨rfl, ho⟩
  have HO2 := Lib.hid (((Only.alloc (fun _ => False) w1 _).tr ho))
  have hb := HO2.out.heap HB1.out (fun h => h)
  have HF3 := Lib.hid (HF2.out.only HO2.out)
  clear ho c0 c1 c2 c3 c4
  have c0 := cells_of_heap hb 0 (.int .i64 op) rfl
  have c1 := cells_of_heap hb 1 (.int .i64 d) rfl
  have c2 := cells_of_heap hb 2 (.int .i64 a) rfl
  have c3 := cells_of_heap hb 3 (.int .i64 b) rfl
  have c4 := cells_of_heap hb 4 (.int .i64 imm) rfl
  clear hb
  go_wp2_with fail
  refine (reads_no ⟨op, d, a, b, imm⟩ HRP.out _ HF3.out.forms).mono ?_
  rintro e w3 ⟨rfl, ho⟩
  go_wp2_with fail
  go_ret
  exact ⟨rfl, ((HO1.out.tr HO2.out).tr ho).below (Nat.le_refl _) fun _ h => h.elim⟩

theorem opsFields_any (i : In) (by_ : Int) (w : World) (hok : InstD.ok (i.op, i.d, i.a, i.b, i.imm)) (hb : -9223372036854775808 ≤ by_ ∧ by_ ≤ 9223372036854775807) (hF : FormsB w) :
    Calls Tryd.prog 5 #[i.v, .int .i64 by_] w fun e w' => e = .returned (.bool true) ∧ Below w.heap.size w w' := by
  cases hr : rightR i
  · exact opsFields_no i by_ hr w hF
  · obtain ⟨op, d, a, b, imm⟩ := i
    exact opsFields_yes op d a b imm by_ hr (bounds_i64 hok.2.2.2.2) w hF
end Go.Proofs.YtjmjmgemhkjomaaDoor
