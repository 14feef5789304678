/- ops: Reads. -/
import Derived.Test.YtjmjmgemhkjomaaDoorOpsSource
import Derived.Deep.RegionHeld3
namespace Go.Proofs.YtjmjmgemhkjomaaDoor
open Go.RowKit
set_option linter.unusedVariables false
set_option linter.unusedSimpArgs false

def readsP (i : In) : List Int :=
  if rightP i then
    if usesOp i.op 97 then
      if usesOp i.op 115 ∧ i.b ≠ 8 ∧ i.a ≠ i.b then (if i.a < i.b then [i.a, i.b] else [i.b, i.a]) else [i.a]
    else if usesOp i.op 115 ∧ i.b ≠ 8 then [i.b] else []
  else []
theorem keepR {w w' : World} {g1 g3 : Nat} {v2 v3 u0 u1 : Value} (h : Only (fun _ => False) w w') (c2 : w.cell? ⟨g1, 2, none⟩ = some v2) (c3 : w.cell? ⟨g1, 3, none⟩ = some v3) (d0 : w.cell? ⟨g3, 0, none⟩ = some u0) (d1 : w.cell? ⟨g3, 1, none⟩ = some u1) :
    Only (fun _ => False) w w' ∧ w'.cell? ⟨g1, 2, none⟩ = some v2 ∧ w'.cell? ⟨g1, 3, none⟩ = some v3 ∧ w'.cell? ⟨g3, 0, none⟩ = some u0 ∧ w'.cell? ⟨g3, 1, none⟩ = some u1 := by
  have hB := h.below (Nat.le_refl _) fun _ h => h.elim
  have h1 := World.block_lt_of_cell? w _ c2
  have h3 := World.block_lt_of_cell? w _ d0
  exact ⟨h, (hB.cell (p := ⟨g1, 2, none⟩) h1).trans c2, (hB.cell (p := ⟨g1, 3, none⟩) h1).trans c3, (hB.cell (p := ⟨g3, 0, none⟩) h3).trans d0, (hB.cell (p := ⟨g3, 1, none⟩) h3).trans d1⟩

set_option maxHeartbeats 1000000 in
theorem reads_no (i : In) (h : rightP i = false) (w : World) (hF : Forms w) :
    Calls Tryd.prog 16 #[i.v] w fun e w' => e = .returned (.slice none 0 0) ∧ Only (fun _ => False) w w' := by
  have HR := Lib.hid (show ∀ W, Forms W → Calls Tryd.prog 28 #[i.v] W fun e w' => e = .returned (.bool _) ∧ Only (fun _ => False) W w' from fun W h' => h ▸ right_any i W h')
  clear h
  obtain ⟨op, d, a, b, imm⟩ := i
  have hF1 := Lib.hid (hF.only (Only.alloc _ w (.cells #[.int .i64 op, .int .i64 d, .int .i64 a, .int .i64 b, .int .i64 imm] 34)))
  clear hF
  go_enter Tryd.func16, Tryd.ntmps16
  go_wp2_with fail
  refine (HR.out _ hF1.out).mono ?_
  rintro e w1 ⟨rfl, ho⟩
  go_wp2_with fail
  go_ret
  exact ⟨rfl, (Only.alloc _ w _).tr ho⟩

def pair (a b : Int) : List Int := if a < b then [a, b] else [b, a]
theorem readsP_eq (op d a b imm : Int) (hr : rightP ⟨op, d, a, b, imm⟩ = true) (ua us t8 tab : Bool) (h1 : usesOp op 97 = ua) (h2 : usesOp op 115 = us) (h3 : (b != 8) = t8) (h4 : (a != b) = tab) :
    readsP ⟨op, d, a, b, imm⟩ = bif ua then (bif us && (t8 && tab) then pair a b else [a]) else (bif us && t8 then [b] else []) := by
  subst h1 h2 h3 h4
  unfold readsP pair
  simp only [hr, if_true]
  by_cases e8 : b = 8 <;> by_cases eab : a = b <;> cases usesOp op 97 <;> cases usesOp op 115 <;> simp [e8, eab, show (b != 8) = decide (b ≠ 8) from by by_cases h : b = 8 <;> simp [h]]

set_option maxHeartbeats 8000000 in
theorem reads_false (op d a b imm : Int) (hr : rightP ⟨op, d, a, b, imm⟩ = true) (h2 : usesOp op 115 = false) (w : World) (hF : Forms w) :
    Calls Tryd.prog 16 #[(In.mk op d a b imm).v] w fun e w' => ∃ v, e = .returned v ∧ Ow (eInt .i64) w.heap.size 3 w' v (readsP ⟨op, d, a, b, imm⟩) ∧ Only (fun _ => False) w w' := by
  have HR := Lib.hid (show ∀ W, Forms W → Calls Tryd.prog 28 #[(In.mk op d a b imm).v] W fun e w' => e = .returned (.bool _) ∧ Only (fun _ => False) W w' from fun W h' => hr ▸ right_any ⟨op, d, a, b, imm⟩ W h')
  have hF1 := Lib.hid (hF.only (Only.alloc _ w (.cells #[.int .i64 op, .int .i64 d, .int .i64 a, .int .i64 b, .int .i64 imm] 34)))
  obtain ⟨ua, h1⟩ : ∃ x, usesOp op 97 = x := ⟨_, rfl⟩
  obtain ⟨t8, h3⟩ : ∃ x, (b != 8) = x := ⟨_, rfl⟩
  obtain ⟨tab, h4⟩ : ∃ x, (a != b) = x := ⟨_, rfl⟩
  have HP := Lib.hid (readsP_eq op d a b imm hr ua false t8 tab h1 h2 h3 h4)
  rw [HP.out]
  have HA := Lib.hid h1
  have HS := Lib.hid h2
  clear HP h1 h2 hr hF
  have hd97 := Lib.hid (show (97 : Int) = ((97 : UInt8).toNat : Int) by decide)
  have hd115 := Lib.hid (show (115 : Int) = ((115 : UInt8).toNat : Int) by decide)
  simp only [cond_true, cond_false, Bool.and_true, Bool.and_false, Bool.true_and, Bool.false_and]
  go_enter Tryd.func16, Tryd.ntmps16
  go_wp2_with fail
  refine (HR.out _ hF1.out).mono ?_
  rintro e w1 ⟨rfl, ho⟩
  have hb1 := ho.heap (heap_alloc_new w _) (fun h => h)
  have HB1 := Lib.hid hb1
  have c0 := cells_of_heap hb1 0 (.int .i64 op) rfl
  have HO := Lib.hid ((Only.alloc _ w _).tr ho)
  have HF2 := Lib.hid (hF1.out.only ho)
  clear hb1 ho
  go_wp2_with fail
  refine (of_any op _ HF2.out).mono ?_
  rintro e w2 ⟨nm, s, ok, rfl, hfo, ho2⟩
  have hb2 := ho2.heap HB1.out (fun h => h)
  have hb3 := heap_alloc (p := .cells #[.string nm, .string s] 45) hb2
  have hb4 := heap_alloc_new w2 (.cells #[.string nm, .string s] 45)
  have c2 := cells_of_heap hb3 2 (.int .i64 a) rfl
  have c3 := cells_of_heap hb3 3 (.int .i64 b) rfl
  have d0 := cells_of_heap hb4 0 (.string nm) rfl
  have d1 := cells_of_heap hb4 1 (.string s) rfl
  have hz2 : w.heap.size < w2.heap.size := heap_lt hb2
  have HFO := Lib.hid hfo
  have HO2 := Lib.hid ((HO.out.tr ho2).tr (Only.alloc _ _ (.cells #[.string nm, .string s] 45)))
  clear hb2 hb3 hb4 ho2 hfo c0
  go_wp2_with fail
  obtain ⟨w3, hw3⟩ : ∃ w3, w3 = w2.alloc (.cells #[.string nm, .string s] 45) := ⟨_, rfl⟩
  rw [← hw3] at c2 c3 d0 d1 HO2
  simp only [← hw3]
  have hz3 : w.heap.size ≤ w3.heap.size := HO2.out.size
  clear hw3
  -- REGION false
  refine wp_region_held_drew (S := fun w' => Only (fun _ => False) w3 w' ∧ w'.cell? ⟨w.heap.size, 2, none⟩ = some (.int .i64 a) ∧ w'.cell? ⟨w.heap.size, 3, none⟩ = some (.int .i64 b) ∧ w'.cell? ⟨w2.heap.size, 0, none⟩ = some (.string nm) ∧ w'.cell? ⟨w2.heap.size, 1, none⟩ = some (.string s)) (by kernel_rfl) ?_ (fun hHeld => ?_)
  · exact keepR (Only.refl _ _).drew_ c2 c3 d0 d1
  try simp only [Act.put, List.getElem_toArray, List.getElem_cons_succ, List.getElem_cons_zero, List.setIfInBounds_toArray, List.set_cons_zero, List.set_cons_succ]
  refine wpAnyH_take (i := 0) (v := ?v0) rfl (by kernel_rfl) (by kernel_rfl) (by kernel_rfl) (fun _ _ _ h => h) (Or.inl ⟨by rfl, ?hy0⟩) (by assumption) ?rest0
  case hy0 =>
    intro w hSw
    try dsimp only at hSw
    go_simp
    all_goals with_reducible rfl
  simp only [Act.put, List.getElem_toArray, List.getElem_cons_succ, List.getElem_cons_zero, List.setIfInBounds_toArray, List.set_cons_zero, List.set_cons_succ]
  refine wpAnyH_take (i := 2) (v := ?v2) rfl (by kernel_rfl) (by kernel_rfl) (by kernel_rfl) (fun _ _ _ h => h) (Or.inl ⟨by rfl, ?hy2⟩) (by assumption) ?rest2
  case hy2 =>
    intro w hSw
    try dsimp only at hSw
    go_simp
    all_goals with_reducible rfl
  simp only [Act.put, List.getElem_toArray, List.getElem_cons_succ, List.getElem_cons_zero, List.setIfInBounds_toArray, List.set_cons_zero, List.set_cons_succ]
  refine wpAnyH_ready (rs := [1]) (by kernel_rfl) (by simp) ?_
  refine AllReadyH.cons rfl (fun K hK => ?_) AllReadyH.nil
  go_simp
  refine (uses_of op nm s HFO.out 97 97 hd97.out _ HA.out _).mono ?_
  rintro e wi ⟨rfl, ho3⟩
  have hoi : Only (fun _ => False) w3 wi := (Only.refl _ _).drew_.tr ho3
  try go_wp2_with fail
  refine hK.out _ _ ?_ (fun hHeld => ?_)
  · exact keepR hoi c2 c3 d0 d1
  clear hK K
  try simp only [Act.put, List.getElem_toArray, List.getElem_cons_succ, List.getElem_cons_zero, List.setIfInBounds_toArray, List.set_cons_zero, List.set_cons_succ]
  refine wpAnyH_ready (rs := [3]) (by kernel_rfl) (by simp) ?_
  refine AllReadyH.cons rfl (fun K hK => ?_) AllReadyH.nil
  go_simp
  refine (uses_of op nm s HFO.out 115 115 hd115.out _ HS.out _).mono ?_
  rintro e wj ⟨rfl, ho4⟩
  have hoj : Only (fun _ => False) w3 wj := hoi.tr ho4
  try go_wp2_with fail
  refine hK.out _ _ ?_ (fun hHeld => ?_)
  · exact keepR hoj c2 c3 d0 d1
  clear hK K
  try simp only [Act.put, List.getElem_toArray, List.getElem_cons_succ, List.getElem_cons_zero, List.setIfInBounds_toArray, List.set_cons_zero, List.set_cons_succ]
  refine wpAnyH_take (i := 4) (v := ?v4) rfl (by kernel_rfl) (by kernel_rfl) (by kernel_rfl) (fun _ _ _ h => h) (Or.inl ⟨by rfl, ?hy4⟩) (by assumption) ?rest4
  case hy4 =>
    intro w hSw
    try dsimp only at hSw
    go_simp
    all_goals with_reducible rfl
  simp only [Act.put, List.getElem_toArray, List.getElem_cons_succ, List.getElem_cons_zero, List.setIfInBounds_toArray, List.set_cons_zero, List.set_cons_succ]
  refine wpAnyH_take (i := 5) (v := undef) rfl (by kernel_rfl) (by kernel_rfl) (by kernel_rfl) (fun _ _ _ h => h) (Or.inr ⟨by rfl, rfl⟩) (by assumption) ?_
  simp only [Act.put, List.getElem_toArray, List.getElem_cons_succ, List.getElem_cons_zero, List.setIfInBounds_toArray, List.set_cons_zero, List.set_cons_succ]
  refine wpAnyH_take (i := 6) (v := undef) rfl (by kernel_rfl) (by kernel_rfl) (by kernel_rfl) (fun _ _ _ h => h) (Or.inr ⟨by rfl, rfl⟩) (by assumption) ?_
  simp only [Act.put, List.getElem_toArray, List.getElem_cons_succ, List.getElem_cons_zero, List.setIfInBounds_toArray, List.set_cons_zero, List.set_cons_succ]
  refine wpAnyH_take (i := 7) (v := undef) rfl (by kernel_rfl) (by kernel_rfl) (by kernel_rfl) (fun _ _ _ h => h) (Or.inr ⟨by rfl, rfl⟩) (by assumption) ?_
  simp only [Act.put, List.getElem_toArray, List.getElem_cons_succ, List.getElem_cons_zero, List.setIfInBounds_toArray, List.set_cons_zero, List.set_cons_succ]
  refine wpAnyH_take (i := 8) (v := ?v8) rfl (by kernel_rfl) (by kernel_rfl) (by kernel_rfl) (fun _ _ _ h => h) (Or.inl ⟨by rfl, ?hy8⟩) (by assumption) ?rest8
  case hy8 =>
    intro w hSw
    try dsimp only at hSw
    go_simp
    all_goals with_reducible rfl
  simp only [Act.put, List.getElem_toArray, List.getElem_cons_succ, List.getElem_cons_zero, List.setIfInBounds_toArray, List.set_cons_zero, List.set_cons_succ]
  refine wpAnyH_take (i := 9) (v := ?v9) rfl (by kernel_rfl) (by kernel_rfl) (by kernel_rfl) (fun _ _ _ h => h) (Or.inl ⟨by rfl, ?hy9⟩) (by assumption) ?rest9
  case hy9 =>
    intro w hSw
    try dsimp only at hSw
    go_simp
    all_goals with_reducible rfl
  simp only [Act.put, List.getElem_toArray, List.getElem_cons_succ, List.getElem_cons_zero, List.setIfInBounds_toArray, List.set_cons_zero, List.set_cons_succ]
  refine wpAnyH_take (i := 10) (v := ?v10) rfl (by kernel_rfl) (by kernel_rfl) (by kernel_rfl) (fun _ _ _ h => h) (Or.inl ⟨by rfl, ?hy10⟩) (by assumption) ?rest10
  case hy10 =>
    intro w hSw
    try dsimp only at hSw
    go_simp
    all_goals with_reducible rfl
  simp only [Act.put, List.getElem_toArray, List.getElem_cons_succ, List.getElem_cons_zero, List.setIfInBounds_toArray, List.set_cons_zero, List.set_cons_succ]
  refine wpAnyH_done (by kernel_rfl) ?_ _
  -- END
  have HO4 := Lib.hid (HO2.out.tr hoj)
  have HZ4 := Lib.hid HO4.out.size
  have hk := keepR hoj c2 c3 d0 d1
  obtain ⟨_, e2, e3, _, _⟩ := hk
  clear hoi hoj ho3 ho4 c2 c3 d0 d1
  cases ua
  all_goals
    go_wp2_with fail
    go_ret
    first
      | exact ⟨_, rfl, Ow.nil _ _ _, HO4.out⟩
      | exact ⟨_, rfl, Ow.lit wj w.heap.size #[.int .i64 a] 3 1 [a] rfl rfl (by simp [maxLen]) HZ4.out, HO4.out.tr (Only.alloc _ _ _)⟩

set_option maxHeartbeats 8000000 in
theorem reads_true (op d a b imm : Int) (hr : rightP ⟨op, d, a, b, imm⟩ = true) (h2 : usesOp op 115 = true) (w : World) (hF : Forms w) :
    Calls Tryd.prog 16 #[(In.mk op d a b imm).v] w fun e w' => ∃ v, e = .returned v ∧ Ow (eInt .i64) w.heap.size 3 w' v (readsP ⟨op, d, a, b, imm⟩) ∧ Only (fun _ => False) w w' := by
  have HR := Lib.hid (show ∀ W, Forms W → Calls Tryd.prog 28 #[(In.mk op d a b imm).v] W fun e w' => e = .returned (.bool _) ∧ Only (fun _ => False) W w' from fun W h' => hr ▸ right_any ⟨op, d, a, b, imm⟩ W h')
  have hF1 := Lib.hid (hF.only (Only.alloc _ w (.cells #[.int .i64 op, .int .i64 d, .int .i64 a, .int .i64 b, .int .i64 imm] 34)))
  obtain ⟨ua, h1⟩ : ∃ x, usesOp op 97 = x := ⟨_, rfl⟩
  obtain ⟨t8, h3⟩ : ∃ x, (b != 8) = x := ⟨_, rfl⟩
  obtain ⟨tab, h4⟩ : ∃ x, (a != b) = x := ⟨_, rfl⟩
  have HP := Lib.hid (readsP_eq op d a b imm hr ua true t8 tab h1 h2 h3 h4)
  rw [HP.out]
  have HA := Lib.hid h1
  have HS := Lib.hid h2
  clear HP h1 h2 hr hF
  have hd97 := Lib.hid (show (97 : Int) = ((97 : UInt8).toNat : Int) by decide)
  have hd115 := Lib.hid (show (115 : Int) = ((115 : UInt8).toNat : Int) by decide)
  simp only [cond_true, cond_false, Bool.and_true, Bool.and_false, Bool.true_and, Bool.false_and]
  go_enter Tryd.func16, Tryd.ntmps16
  go_wp2_with fail
  refine (HR.out _ hF1.out).mono ?_
  rintro e w1 ⟨rfl, ho⟩
  have hb1 := ho.heap (heap_alloc_new w _) (fun h => h)
  have HB1 := Lib.hid hb1
  have c0 := cells_of_heap hb1 0 (.int .i64 op) rfl
  have HO := Lib.hid ((Only.alloc _ w _).tr ho)
  have HF2 := Lib.hid (hF1.out.only ho)
  clear hb1 ho
  go_wp2_with fail
  refine (of_any op _ HF2.out).mono ?_
  rintro e w2 ⟨nm, s, ok, rfl, hfo, ho2⟩
  have hb2 := ho2.heap HB1.out (fun h => h)
  have hb3 := heap_alloc (p := .cells #[.string nm, .string s] 45) hb2
  have hb4 := heap_alloc_new w2 (.cells #[.string nm, .string s] 45)
  have c2 := cells_of_heap hb3 2 (.int .i64 a) rfl
  have c3 := cells_of_heap hb3 3 (.int .i64 b) rfl
  have d0 := cells_of_heap hb4 0 (.string nm) rfl
  have d1 := cells_of_heap hb4 1 (.string s) rfl
  have hz2 : w.heap.size < w2.heap.size := heap_lt hb2
  have HFO := Lib.hid hfo
  have HO2 := Lib.hid ((HO.out.tr ho2).tr (Only.alloc _ _ (.cells #[.string nm, .string s] 45)))
  clear hb2 hb3 hb4 ho2 hfo c0
  go_wp2_with fail
  obtain ⟨w3, hw3⟩ : ∃ w3, w3 = w2.alloc (.cells #[.string nm, .string s] 45) := ⟨_, rfl⟩
  rw [← hw3] at c2 c3 d0 d1 HO2
  simp only [← hw3]
  have hz3 : w.heap.size ≤ w3.heap.size := HO2.out.size
  clear hw3
  -- REGION true
  refine wp_region_held_drew (S := fun w' => Only (fun _ => False) w3 w' ∧ w'.cell? ⟨w.heap.size, 2, none⟩ = some (.int .i64 a) ∧ w'.cell? ⟨w.heap.size, 3, none⟩ = some (.int .i64 b) ∧ w'.cell? ⟨w2.heap.size, 0, none⟩ = some (.string nm) ∧ w'.cell? ⟨w2.heap.size, 1, none⟩ = some (.string s)) (by kernel_rfl) ?_ (fun hHeld => ?_)
  · exact keepR (Only.refl _ _).drew_ c2 c3 d0 d1
  try simp only [Act.put, List.getElem_toArray, List.getElem_cons_succ, List.getElem_cons_zero, List.setIfInBounds_toArray, List.set_cons_zero, List.set_cons_succ]
  refine wpAnyH_take (i := 0) (v := ?v0) rfl (by kernel_rfl) (by kernel_rfl) (by kernel_rfl) (fun _ _ _ h => h) (Or.inl ⟨by rfl, ?hy0⟩) (by assumption) ?rest0
  case hy0 =>
    intro w hSw
    try dsimp only at hSw
    go_simp
    all_goals with_reducible rfl
  simp only [Act.put, List.getElem_toArray, List.getElem_cons_succ, List.getElem_cons_zero, List.setIfInBounds_toArray, List.set_cons_zero, List.set_cons_succ]
  refine wpAnyH_take (i := 2) (v := ?v2) rfl (by kernel_rfl) (by kernel_rfl) (by kernel_rfl) (fun _ _ _ h => h) (Or.inl ⟨by rfl, ?hy2⟩) (by assumption) ?rest2
  case hy2 =>
    intro w hSw
    try dsimp only at hSw
    go_simp
    all_goals with_reducible rfl
  simp only [Act.put, List.getElem_toArray, List.getElem_cons_succ, List.getElem_cons_zero, List.setIfInBounds_toArray, List.set_cons_zero, List.set_cons_succ]
  refine wpAnyH_ready (rs := [1]) (by kernel_rfl) (by simp) ?_
  refine AllReadyH.cons rfl (fun K hK => ?_) AllReadyH.nil
  go_simp
  refine (uses_of op nm s HFO.out 97 97 hd97.out _ HA.out _).mono ?_
  rintro e wi ⟨rfl, ho3⟩
  have hoi : Only (fun _ => False) w3 wi := (Only.refl _ _).drew_.tr ho3
  try go_wp2_with fail
  refine hK.out _ _ ?_ (fun hHeld => ?_)
  · exact keepR hoi c2 c3 d0 d1
  clear hK K
  try simp only [Act.put, List.getElem_toArray, List.getElem_cons_succ, List.getElem_cons_zero, List.setIfInBounds_toArray, List.set_cons_zero, List.set_cons_succ]
  refine wpAnyH_ready (rs := [3]) (by kernel_rfl) (by simp) ?_
  refine AllReadyH.cons rfl (fun K hK => ?_) AllReadyH.nil
  go_simp
  refine (uses_of op nm s HFO.out 115 115 hd115.out _ HS.out _).mono ?_
  rintro e wj ⟨rfl, ho4⟩
  have hoj : Only (fun _ => False) w3 wj := hoi.tr ho4
  try go_wp2_with fail
  refine hK.out _ _ ?_ (fun hHeld => ?_)
  · exact keepR hoj c2 c3 d0 d1
  clear hK K
  try simp only [Act.put, List.getElem_toArray, List.getElem_cons_succ, List.getElem_cons_zero, List.setIfInBounds_toArray, List.set_cons_zero, List.set_cons_succ]
  refine wpAnyH_take (i := 4) (v := ?v4) rfl (by kernel_rfl) (by kernel_rfl) (by kernel_rfl) (fun _ _ _ h => h) (Or.inl ⟨by rfl, ?hy4⟩) (by assumption) ?rest4
  case hy4 =>
    intro w hSw
    try dsimp only at hSw
    go_simp
    all_goals with_reducible rfl
  simp only [Act.put, List.getElem_toArray, List.getElem_cons_succ, List.getElem_cons_zero, List.setIfInBounds_toArray, List.set_cons_zero, List.set_cons_succ]
  refine wpAnyH_take (i := 5) (v := ?v5) rfl (by kernel_rfl) (by kernel_rfl) (by kernel_rfl) (fun _ _ _ h => h) (Or.inl ⟨by rfl, ?hy5⟩) (by assumption) ?rest5
  case hy5 =>
    intro w hSw
    try dsimp only at hSw
    go_simp
    all_goals with_reducible rfl
  simp only [Act.put, List.getElem_toArray, List.getElem_cons_succ, List.getElem_cons_zero, List.setIfInBounds_toArray, List.set_cons_zero, List.set_cons_succ]
  refine wpAnyH_take (i := 6) (v := ?v6) rfl (by kernel_rfl) (by kernel_rfl) (by kernel_rfl) (fun _ _ _ h => h) (Or.inl ⟨by rfl, ?hy6⟩) (by assumption) ?rest6
  case hy6 =>
    intro w hSw
    try dsimp only at hSw
    go_simp
    all_goals with_reducible rfl
  simp only [Act.put, List.getElem_toArray, List.getElem_cons_succ, List.getElem_cons_zero, List.setIfInBounds_toArray, List.set_cons_zero, List.set_cons_succ]
  refine wpAnyH_take (i := 7) (v := ?v7) rfl (by kernel_rfl) (by kernel_rfl) (by kernel_rfl) (fun _ _ _ h => h) (Or.inl ⟨by rfl, ?hy7⟩) (by assumption) ?rest7
  case hy7 =>
    intro w hSw
    try dsimp only at hSw
    go_simp
    all_goals with_reducible rfl
  simp only [Act.put, List.getElem_toArray, List.getElem_cons_succ, List.getElem_cons_zero, List.setIfInBounds_toArray, List.set_cons_zero, List.set_cons_succ]
  refine wpAnyH_take (i := 8) (v := ?v8) rfl (by kernel_rfl) (by kernel_rfl) (by kernel_rfl) (fun _ _ _ h => h) (Or.inl ⟨by rfl, ?hy8⟩) (by assumption) ?rest8
  case hy8 =>
    intro w hSw
    try dsimp only at hSw
    go_simp
    all_goals with_reducible rfl
  simp only [Act.put, List.getElem_toArray, List.getElem_cons_succ, List.getElem_cons_zero, List.setIfInBounds_toArray, List.set_cons_zero, List.set_cons_succ]
  refine wpAnyH_take (i := 9) (v := ?v9) rfl (by kernel_rfl) (by kernel_rfl) (by kernel_rfl) (fun _ _ _ h => h) (Or.inl ⟨by rfl, ?hy9⟩) (by assumption) ?rest9
  case hy9 =>
    intro w hSw
    try dsimp only at hSw
    go_simp
    all_goals with_reducible rfl
  simp only [Act.put, List.getElem_toArray, List.getElem_cons_succ, List.getElem_cons_zero, List.setIfInBounds_toArray, List.set_cons_zero, List.set_cons_succ]
  refine wpAnyH_take (i := 10) (v := ?v10) rfl (by kernel_rfl) (by kernel_rfl) (by kernel_rfl) (fun _ _ _ h => h) (Or.inl ⟨by rfl, ?hy10⟩) (by assumption) ?rest10
  case hy10 =>
    intro w hSw
    try dsimp only at hSw
    go_simp
    all_goals with_reducible rfl
  simp only [Act.put, List.getElem_toArray, List.getElem_cons_succ, List.getElem_cons_zero, List.setIfInBounds_toArray, List.set_cons_zero, List.set_cons_succ]
  refine wpAnyH_done (by kernel_rfl) ?_ _
  -- END
  have HO4 := Lib.hid (HO2.out.tr hoj)
  have HZ4 := Lib.hid HO4.out.size
  have hk := keepR hoj c2 c3 d0 d1
  obtain ⟨_, e2, e3, _, _⟩ := hk
  clear hoi hoj ho3 ho4 c2 c3 d0 d1
  cases ua <;> cases t8
  · go_wp2_with fail
    go_ret
    exact ⟨_, rfl, Ow.nil _ _ _, HO4.out⟩
  · go_wp2_with fail
    go_ret
    exact ⟨_, rfl, Ow.lit wj w.heap.size #[.int .i64 b] 3 1 [b] rfl rfl (by simp [maxLen]) HZ4.out, HO4.out.tr (Only.alloc _ _ _)⟩
  · go_wp2_with fail
    go_ret
    exact ⟨_, rfl, Ow.lit wj w.heap.size #[.int .i64 a] 3 1 [a] rfl rfl (by simp [maxLen]) HZ4.out, HO4.out.tr (Only.alloc _ _ _)⟩
  · cases tab
    · go_wp2_with fail
      go_ret
      exact ⟨_, rfl, Ow.lit wj w.heap.size #[.int .i64 a] 3 1 [a] rfl rfl (by simp [maxLen]) HZ4.out, HO4.out.tr (Only.alloc _ _ _)⟩
    · by_cases hlt : a < b
      · have HPR := Lib.hid (show pair a b = [a, b] from if_pos hlt)
        have hle : a ≤ b := by omega
        go_wp2_with fail
        go_ret
        exact ⟨_, rfl, by (try rw [cond_true]); rw [HPR.out]; exact Ow.lit wj w.heap.size #[.int .i64 a, .int .i64 b] 3 2 [a, b] rfl rfl (by simp [maxLen]) HZ4.out, HO4.out.tr (Only.alloc _ _ _)⟩
      · have HPR := Lib.hid (show pair a b = [b, a] from if_neg hlt)
        have hlt2 : b < a := by
          have : ¬ a = b := by simpa using h4
          omega
        have hle : b ≤ a := by omega
        go_wp2_with fail
        go_ret
        exact ⟨_, rfl, by (try rw [cond_true]); rw [HPR.out]; exact Ow.lit wj w.heap.size #[.int .i64 b, .int .i64 a] 3 2 [b, a] rfl rfl (by simp [maxLen]) HZ4.out, HO4.out.tr (Only.alloc _ _ _)⟩
theorem reads_any (i : In) (w : World) (hF : Forms w) :
    Calls Tryd.prog 16 #[i.v] w fun e w' => ∃ v, e = .returned v ∧ Ow (eInt .i64) w.heap.size 3 w' v (readsP i) ∧ Only (fun _ => False) w w' := by
  cases hr : rightP i
  · refine (reads_no i hr w hF).mono ?_
    rintro e w' ⟨rfl, ho⟩
    exact ⟨_, rfl, by unfold readsP; rw [hr]; exact Ow.nil _ _ _, ho⟩
  · obtain ⟨op, d, a, b, imm⟩ := i
    cases h2 : usesOp op 115
    · exact reads_false op d a b imm hr h2 w hF
    · exact reads_true op d a b imm hr h2 w hF
end Go.Proofs.YtjmjmgemhkjomaaDoor
