/- wire: copied; small; bytes as a string. (printed by wirecopied.py) -/
import Derived.Test.YtkocfgaajghggaaDoorWireDec
import Derived.Lib.SlBytesRow
import Derived.Lib.BufferRead
namespace Go.Proofs.YtkocfgaajghggaaDoor
open Go.RowKit
set_option linter.unusedVariables false
set_option linter.unusedSimpArgs false

/-- copied's memory -/
structure CSt (w : World) (g1 g2 : Nat) (vm vc va vb : Value) (xa : List Int) (xb : List InstD) (W : World) : Prop where
  ge1 : w.heap.size ≤ g1
  ge2 : w.heap.size ≤ g2
  ne : g1 ≠ g2
  box : W.heap[g1]? = some (.cells #[vm, vc] 25 (0, 0))
  res : W.heap[g2]? = some (.cells #[.slice none 0 0, .slice none 0 0] 25 (0, 0))
  a : OwS (eInt .i64) 3 (fun k => w.heap.size ≤ k) W va xa
  b : OwS eInst 44 (fun k => w.heap.size ≤ k) W vb xb
  only : Only (fun _ => False) w W
theorem CSt.S {w : World} {g1 g2 : Nat} {vm vc va vb : Value} {xa : List Int} {xb : List InstD} {W : World} (h : CSt w g1 g2 vm vc va vb xa xb W) : W.cell? ⟨g1, 0, none⟩ = some vm ∧ W.cell? ⟨g1, 1, none⟩ = some vc := ⟨cells_of_heap h.box 0 _ rfl, cells_of_heap h.box 1 _ rfl⟩
theorem CSt.setS {w : World} {g1 g2 : Nat} {vm vc va vb : Value} {xa : List Int} {xb : List InstD} {W : World} (h : CSt w g1 g2 vm vc va vb xa xb W) (cs : Array Value) : (W.setRow g2 cs).cell? ⟨g1, 0, none⟩ = some vm ∧ (W.setRow g2 cs).cell? ⟨g1, 1, none⟩ = some vc := by
  have hb := (only_setRow W g2 cs).heap h.box h.ne
  exact ⟨cells_of_heap hb 0 _ rfl, cells_of_heap hb 1 _ rfl⟩
theorem CSt.fresh {w : World} {g1 g2 : Nat} {vm vc va vb : Value} {xa : List Int} {xb : List InstD} {W W' : World} (h : CSt w g1 g2 vm vc va vb xa xb W) (hO : Only (fun _ => False) W W') : CSt w g1 g2 vm vc va vb xa xb W' where
  ge1 := h.ge1
  ge2 := h.ge2
  ne := h.ne
  box := hO.heap h.box id
  res := hO.heap h.res id
  a := h.a.keepT hO fun k hk => id
  b := h.b.keepT hO fun k hk => id
  only := h.only.tr hO
theorem CSt.litA {w : World} {g1 g2 : Nat} {vm vc va vb : Value} {xa : List Int} {xb : List InstD} {W : World} (h : CSt w g1 g2 vm vc va vb xa xb W) : CSt w g1 g2 vm vc (.slice (some ⟨W.heap.size, 0, none⟩) 0 0) vb [] xb (W.alloc (.cells #[] 3)) :=
  { h.fresh (Only.alloc _ W (.cells #[] 3)) with
    a := ⟨Ow.lit W 0 #[] 3 0 [] (by simp [Enc.all]) rfl (by simp) (Nat.zero_le _), fun k hk => by
      obtain rfl : W.heap.size = k := by simpa [Value.ownBlock] using hk
      exact h.only.size⟩ }
theorem CSt.litB {w : World} {g1 g2 : Nat} {vm vc va vb : Value} {xa : List Int} {xb : List InstD} {W : World} (h : CSt w g1 g2 vm vc va vb xa xb W) : CSt w g1 g2 vm vc va (.slice (some ⟨W.heap.size, 0, none⟩) 0 0) xa [] (W.alloc (.cells #[] 44)) :=
  { h.fresh (Only.alloc _ W (.cells #[] 44)) with
    b := ⟨Ow.lit W 0 #[] 44 0 [] (by simp [Enc.all]) rfl (by simp) (Nat.zero_le _), fun k hk => by
      obtain rfl : W.heap.size = k := by simpa [Value.ownBlock] using hk
      exact h.only.size⟩ }
theorem CSt.pushA {w : World} {g1 g2 : Nat} {vm vc va vb v : Value} {xa xa' : List Int} {xb : List InstD} {W W' : World} (h : CSt w g1 g2 vm vc va vb xa xb W)
    (h5 : OwS (eInt .i64) 3 (fun k => va.ownBlock = some k ∨ W.heap.size ≤ k) W' v xa') (hO : Only (fun k => va.ownBlock = some k) W W') : CSt w g1 g2 vm vc v vb xa' xb W' where
  ge1 := h.ge1
  ge2 := h.ge2
  ne := h.ne
  box := hO.heap h.box (row_ne h.box h.a.1 (by decide))
  res := hO.heap h.res (row_ne h.res h.a.1 (by decide))
  a := ⟨h5.1, fun k hk => (h5.2 k hk).elim (fun e => h.a.2 k e) (fun e => Nat.le_trans h.only.size e)⟩
  b := h.b.keepT hO fun k hk e => own_ne h.b.1 h.a.1 (by decide) hk e
  only := h.only.trans hO fun k hk e => by have := h.a.2 k e; omega
theorem CSt.pushB {w : World} {g1 g2 : Nat} {vm vc va vb v : Value} {xa : List Int} {xb xb' : List InstD} {W W' : World} (h : CSt w g1 g2 vm vc va vb xa xb W)
    (h5 : OwS eInst 44 (fun k => vb.ownBlock = some k ∨ W.heap.size ≤ k) W' v xb') (hO : Only (fun k => vb.ownBlock = some k) W W') : CSt w g1 g2 vm vc va v xa xb' W' where
  ge1 := h.ge1
  ge2 := h.ge2
  ne := h.ne
  box := hO.heap h.box (row_ne h.box h.b.1 (by decide))
  res := hO.heap h.res (row_ne h.res h.b.1 (by decide))
  a := h.a.keepT hO fun k hk e => own_ne h.a.1 h.b.1 (by decide) hk e
  b := ⟨h5.1, fun k hk => (h5.2 k hk).elim (fun e => h.b.2 k e) (fun e => Nat.le_trans h.only.size e)⟩
  only := h.only.trans hO fun k hk e => by have := h.b.2 k e; omega
/-- a module of the call's own -/
def ModN (w : World) (vm vc : Value) (ms : List Int) (cs : List InstD) (W : World) : Prop := OwS (eInt .i64) 3 (fun k => w.heap.size ≤ k) W vm ms ∧ OwS eInst 44 (fun k => w.heap.size ≤ k) W vc cs ∧ Only (fun _ => False) w W
theorem CSt.fin {w : World} {g1 g2 : Nat} {vm vc va vb : Value} {xa : List Int} {xb : List InstD} {W : World} (h : CSt w g1 g2 vm vc va vb xa xb W) (cs : Array Value) : ModN w va vb xa xb (W.setRow g2 cs) :=
  ⟨h.a.keepT (only_setRow W g2 cs) fun k hk e => row_ne h.res h.a.1 (by decide) (by rw [hk, e]), h.b.keepT (only_setRow W g2 cs) fun k hk e => row_ne h.res h.b.1 (by decide) (by rw [hk, e]), h.only.trans (only_setRow W g2 cs) fun k hk e => by have := h.ge2; omega⟩
set_option maxRecDepth 100000 in
set_option maxHeartbeats 4000000 in
theorem copied_any (ms : List Int) (cs : List InstD) (vm vc : Value) (w : World) (hm : Rd (eInt .i64) w vm ms) (hc : Rd eInst w vc cs) (hml : ms.length * 8 ≤ 140737488351232) (hcl : cs.length * 40 ≤ 140737488351232) :
    Calls Tryd.prog 10 #[.agg #[vm, vc]] w fun e w' => ∃ va vb, e = .returned (.agg #[va, vb]) ∧ ModN w va vb ms cs w' := by
  have HM := Lib.hid hm
  have HCS := Lib.hid hc
  clear hm hc
  go_enter Tryd.func10, Tryd.ntmps10
  go_wp2_with fail
  obtain ⟨w0, hw0⟩ : ∃ w0, w0 = (w.alloc (.cells #[vm, vc] 25)).alloc (.cells #[.slice none 0 0, .slice none 0 0] 25) := ⟨_, rfl⟩
  rw [← hw0]
  have HC0 := Lib.hid (show CSt w w.heap.size (w.heap.size + 1) vm vc (.slice none 0 0) (.slice none 0 0) [] [] w0.drew from {
    ge1 := Nat.le_refl _
    ge2 := by omega
    ne := by omega
    box := by rw [hw0]; exact heap_alloc (heap_alloc_new w _)
    res := by
      have h := heap_alloc_new (w.alloc (.cells #[vm, vc] 25)) (.cells #[.slice none 0 0, .slice none 0 0] 25)
      have h2 : w0.heap[w.heap.size + 1]? = some (.cells #[.slice none 0 0, .slice none 0 0] 25 (0, 0)) := by rw [hw0]; simpa using h
      exact h2
    a := OwS.nil _ _
    b := OwS.nil _ _
    only := by rw [hw0]; exact ((Only.alloc _ _ _).tr (Only.alloc _ _ _)).drew_ })
  clear hw0
  generalize w.heap.size + 1 = g2 at *
  generalize w.heap.size = g1 at *
  refine wp_region_noPanic ?_
  refine wp_region_held_drew (S := fun w' => w'.cell? ⟨g1, 0, none⟩ = some vm ∧ w'.cell? ⟨g1, 1, none⟩ = some vc) (by kernel_rfl) ?_ (fun hHeld => ?_)
  · exact HC0.out.S
  try simp only [Act.put, List.getElem_toArray, List.getElem_cons_succ, List.getElem_cons_zero, List.setIfInBounds_toArray, List.set_cons_zero, List.set_cons_succ]
  refine wpAnyH_take (i := 1) (v := ?vhy4) rfl (by kernel_rfl) (by kernel_rfl) (by kernel_rfl) (fun _ _ _ h => h) (Or.inl ⟨by rfl, ?hy4⟩) (by assumption) ?resthy4
  case hy4 =>
    intro w hSw
    try dsimp only at hSw
    go_simp
    all_goals with_reducible rfl
  simp only [Act.put, List.getElem_toArray, List.getElem_cons_succ, List.getElem_cons_zero, List.setIfInBounds_toArray, List.set_cons_zero, List.set_cons_succ]
  refine wpAnyH_take (i := 2) (v := ?vhy5) rfl (by kernel_rfl) (by kernel_rfl) (by kernel_rfl) (fun _ _ _ h => h) (Or.inl ⟨by rfl, ?hy5⟩) (by assumption) ?resthy5
  case hy5 =>
    intro w hSw
    try dsimp only at hSw
    go_simp
    all_goals with_reducible rfl
  simp only [Act.put, List.getElem_toArray, List.getElem_cons_succ, List.getElem_cons_zero, List.setIfInBounds_toArray, List.set_cons_zero, List.set_cons_succ]
  refine wpAnyH_take (i := 5) (v := ?vhy6) rfl (by kernel_rfl) (by kernel_rfl) (by kernel_rfl) (fun _ _ _ h => h) (Or.inl ⟨by rfl, ?hy6⟩) (by assumption) ?resthy6
  case hy6 =>
    intro w hSw
    try dsimp only at hSw
    go_simp
    all_goals with_reducible rfl
  simp only [Act.put, List.getElem_toArray, List.getElem_cons_succ, List.getElem_cons_zero, List.setIfInBounds_toArray, List.set_cons_zero, List.set_cons_succ]
  refine wpAnyH_take (i := 6) (v := ?vhy7) rfl (by kernel_rfl) (by kernel_rfl) (by kernel_rfl) (fun _ _ _ h => h) (Or.inl ⟨by rfl, ?hy7⟩) (by assumption) ?resthy7
  case hy7 =>
    intro w hSw
    try dsimp only at hSw
    go_simp
    all_goals with_reducible rfl
  simp only [Act.put, List.getElem_toArray, List.getElem_cons_succ, List.getElem_cons_zero, List.setIfInBounds_toArray, List.set_cons_zero, List.set_cons_succ]
  refine wpAnyH_ready (rs := [0, 4]) (by kernel_rfl) (by simp) ?_
  refine AllReadyH.cons rfl (fun K hK => ?_) (AllReadyH.cons rfl (fun K hK => ?_) AllReadyH.nil)
  · skip
    go_simp
    have HC1 := Lib.hid (HC0.out.litA)
    refine hK.out _ _ HC1.out.S (fun hHeld => ?_)
    clear hK K
    try simp only [Act.put, List.getElem_toArray, List.getElem_cons_succ, List.getElem_cons_zero, List.setIfInBounds_toArray, List.set_cons_zero, List.set_cons_succ]
    refine wpAnyH_ready (rs := [3, 4]) (by kernel_rfl) (by simp) ?_
    refine AllReadyH.cons rfl (fun K hK => ?_) (AllReadyH.cons rfl (fun K hK => ?_) AllReadyH.nil)
    · skip
      refine step_appS (E := eInt .i64) (by rfl) (.tmp 3) (.tmp 5) _ (by rfl) 3 8 sliceInt _ _ [] (by first | rfl | simp [Act.eval]) ⟨HC1.out.a.1, fun k h => h⟩ _ ms (by rfl) (HM.out.only HC1.out.only) (by simp only [List.length_nil]; omega) (by have := HM.out.1; simp only [List.length_nil, Nat.zero_add]; exact this) ?_
      intro vHC2 wHC2 hHC2 hOHC2
      have HC2 := Lib.hid (HC1.out.pushA hHC2 hOHC2)
      obtain ⟨_, aoHC2, cHC2, hvHC2, _⟩ := id hHC2.1
      subst hvHC2
      clear hHC2 hOHC2
      refine hK.out _ _ HC2.out.S (fun hHeld => ?_)
      clear hK K
      try simp only [Act.put, List.getElem_toArray, List.getElem_cons_succ, List.getElem_cons_zero, List.setIfInBounds_toArray, List.set_cons_zero, List.set_cons_succ]
      refine wpAnyH_ready (rs := [4]) (by kernel_rfl) (by simp) ?_
      refine AllReadyH.cons rfl (fun K hK => ?_) AllReadyH.nil
      go_simp
      have HC3 := Lib.hid (HC2.out.litB)
      refine hK.out _ _ HC3.out.S (fun hHeld => ?_)
      clear hK K
      try simp only [Act.put, List.getElem_toArray, List.getElem_cons_succ, List.getElem_cons_zero, List.setIfInBounds_toArray, List.set_cons_zero, List.set_cons_succ]
      refine wpAnyH_ready (rs := [7]) (by kernel_rfl) (by simp) ?_
      refine AllReadyH.cons rfl (fun K hK => ?_) AllReadyH.nil
      refine step_appS (E := eInst) (by rfl) (.tmp 7) (.tmp 9) _ (by rfl) 44 40 eInst_slice _ _ [] (by first | rfl | simp [Act.eval]) ⟨HC3.out.b.1, fun k h => h⟩ _ cs (by rfl) (HCS.out.only HC3.out.only) (by simp only [List.length_nil]; omega) (by have := HCS.out.1; simp only [List.length_nil, Nat.zero_add]; exact this) ?_
      intro vHC4 wHC4 hHC4 hOHC4
      have HC4 := Lib.hid (HC3.out.pushB hHC4 hOHC4)
      obtain ⟨_, aoHC4, cHC4, hvHC4, _⟩ := id hHC4.1
      subst hvHC4
      clear hHC4 hOHC4
      refine hK.out _ _ HC4.out.S (fun hHeld => ?_)
      clear hK K
      try simp only [Act.put, List.getElem_toArray, List.getElem_cons_succ, List.getElem_cons_zero, List.setIfInBounds_toArray, List.set_cons_zero, List.set_cons_succ]
      refine wpAnyH_take (i := 8) (v := ?vhy1) rfl (by kernel_rfl) (by kernel_rfl) (by kernel_rfl) (fun _ _ _ h => h) (Or.inl ⟨by rfl, ?hy1⟩) (by assumption) ?resthy1
      case hy1 =>
        intro w hSw
        try dsimp only at hSw
        go_simp
        all_goals with_reducible rfl
      simp only [Act.put, List.getElem_toArray, List.getElem_cons_succ, List.getElem_cons_zero, List.setIfInBounds_toArray, List.set_cons_zero, List.set_cons_succ]
      refine wpAnyH_ready (rs := [9]) (by kernel_rfl) (by simp) ?_
      refine AllReadyH.cons rfl (fun K hK => ?_) AllReadyH.nil
      rw [if_pos (by rfl)]
      refine wp_store_row 25 (.tmp 2) (.tmp 11) rfl g2 _ rfl rfl 25 _ HC4.out.res (by kernel_rfl) rfl (by simp [Value.oneCell']) ?_
      refine hK.out _ _ (HC4.out.setS _) (fun hHeld => ?_)
      clear hK K
      try simp only [Act.put, List.getElem_toArray, List.getElem_cons_succ, List.getElem_cons_zero, List.setIfInBounds_toArray, List.set_cons_zero, List.set_cons_succ]
      refine wpAnyH_done (by kernel_rfl) ?_ _
      refine NoPanic.normal ?_
      go_wp2_with fail
      refine bodyPost_ret (results_cell_row rfl _ _ g2 _ _ _ _ rfl (setRow_heap _ _ _ _ _ _ HC4.out.res) Tryd.underlying25 rfl (by kernel_rfl)) rfl ?_
      exact ⟨_, _, rfl, HC4.out.fin _⟩
    · skip
      go_simp
      have HC5 := Lib.hid (HC1.out.litB)
      refine hK.out _ _ HC5.out.S (fun hHeld => ?_)
      clear hK K
      try simp only [Act.put, List.getElem_toArray, List.getElem_cons_succ, List.getElem_cons_zero, List.setIfInBounds_toArray, List.set_cons_zero, List.set_cons_succ]
      refine wpAnyH_ready (rs := [3]) (by kernel_rfl) (by simp) ?_
      refine AllReadyH.cons rfl (fun K hK => ?_) AllReadyH.nil
      refine step_appS (E := eInt .i64) (by rfl) (.tmp 3) (.tmp 5) _ (by rfl) 3 8 sliceInt _ _ [] (by first | rfl | simp [Act.eval]) ⟨HC5.out.a.1, fun k h => h⟩ _ ms (by rfl) (HM.out.only HC5.out.only) (by simp only [List.length_nil]; omega) (by have := HM.out.1; simp only [List.length_nil, Nat.zero_add]; exact this) ?_
      intro vHC6 wHC6 hHC6 hOHC6
      have HC6 := Lib.hid (HC5.out.pushA hHC6 hOHC6)
      obtain ⟨_, aoHC6, cHC6, hvHC6, _⟩ := id hHC6.1
      subst hvHC6
      clear hHC6 hOHC6
      refine hK.out _ _ HC6.out.S (fun hHeld => ?_)
      clear hK K
      try simp only [Act.put, List.getElem_toArray, List.getElem_cons_succ, List.getElem_cons_zero, List.setIfInBounds_toArray, List.set_cons_zero, List.set_cons_succ]
      refine wpAnyH_ready (rs := [7]) (by kernel_rfl) (by simp) ?_
      refine AllReadyH.cons rfl (fun K hK => ?_) AllReadyH.nil
      refine step_appS (E := eInst) (by rfl) (.tmp 7) (.tmp 9) _ (by rfl) 44 40 eInst_slice _ _ [] (by first | rfl | simp [Act.eval]) ⟨HC6.out.b.1, fun k h => h⟩ _ cs (by rfl) (HCS.out.only HC6.out.only) (by simp only [List.length_nil]; omega) (by have := HCS.out.1; simp only [List.length_nil, Nat.zero_add]; exact this) ?_
      intro vHC7 wHC7 hHC7 hOHC7
      have HC7 := Lib.hid (HC6.out.pushB hHC7 hOHC7)
      obtain ⟨_, aoHC7, cHC7, hvHC7, _⟩ := id hHC7.1
      subst hvHC7
      clear hHC7 hOHC7
      refine hK.out _ _ HC7.out.S (fun hHeld => ?_)
      clear hK K
      try simp only [Act.put, List.getElem_toArray, List.getElem_cons_succ, List.getElem_cons_zero, List.setIfInBounds_toArray, List.set_cons_zero, List.set_cons_succ]
      refine wpAnyH_take (i := 8) (v := ?vhy2) rfl (by kernel_rfl) (by kernel_rfl) (by kernel_rfl) (fun _ _ _ h => h) (Or.inl ⟨by rfl, ?hy2⟩) (by assumption) ?resthy2
      case hy2 =>
        intro w hSw
        try dsimp only at hSw
        go_simp
        all_goals with_reducible rfl
      simp only [Act.put, List.getElem_toArray, List.getElem_cons_succ, List.getElem_cons_zero, List.setIfInBounds_toArray, List.set_cons_zero, List.set_cons_succ]
      refine wpAnyH_ready (rs := [9]) (by kernel_rfl) (by simp) ?_
      refine AllReadyH.cons rfl (fun K hK => ?_) AllReadyH.nil
      rw [if_pos (by rfl)]
      refine wp_store_row 25 (.tmp 2) (.tmp 11) rfl g2 _ rfl rfl 25 _ HC7.out.res (by kernel_rfl) rfl (by simp [Value.oneCell']) ?_
      refine hK.out _ _ (HC7.out.setS _) (fun hHeld => ?_)
      clear hK K
      try simp only [Act.put, List.getElem_toArray, List.getElem_cons_succ, List.getElem_cons_zero, List.setIfInBounds_toArray, List.set_cons_zero, List.set_cons_succ]
      refine wpAnyH_done (by kernel_rfl) ?_ _
      refine NoPanic.normal ?_
      go_wp2_with fail
      refine bodyPost_ret (results_cell_row rfl _ _ g2 _ _ _ _ rfl (setRow_heap _ _ _ _ _ _ HC7.out.res) Tryd.underlying25 rfl (by kernel_rfl)) rfl ?_
      exact ⟨_, _, rfl, HC7.out.fin _⟩
  · skip
    go_simp
    have HC8 := Lib.hid (HC0.out.litB)
    refine hK.out _ _ HC8.out.S (fun hHeld => ?_)
    clear hK K
    try simp only [Act.put, List.getElem_toArray, List.getElem_cons_succ, List.getElem_cons_zero, List.setIfInBounds_toArray, List.set_cons_zero, List.set_cons_succ]
    refine wpAnyH_ready (rs := [0]) (by kernel_rfl) (by simp) ?_
    refine AllReadyH.cons rfl (fun K hK => ?_) AllReadyH.nil
    go_simp
    have HC9 := Lib.hid (HC8.out.litA)
    refine hK.out _ _ HC9.out.S (fun hHeld => ?_)
    clear hK K
    try simp only [Act.put, List.getElem_toArray, List.getElem_cons_succ, List.getElem_cons_zero, List.setIfInBounds_toArray, List.set_cons_zero, List.set_cons_succ]
    refine wpAnyH_ready (rs := [3]) (by kernel_rfl) (by simp) ?_
    refine AllReadyH.cons rfl (fun K hK => ?_) AllReadyH.nil
    refine step_appS (E := eInt .i64) (by rfl) (.tmp 3) (.tmp 5) _ (by rfl) 3 8 sliceInt _ _ [] (by first | rfl | simp [Act.eval]) ⟨HC9.out.a.1, fun k h => h⟩ _ ms (by rfl) (HM.out.only HC9.out.only) (by simp only [List.length_nil]; omega) (by have := HM.out.1; simp only [List.length_nil, Nat.zero_add]; exact this) ?_
    intro vHC10 wHC10 hHC10 hOHC10
    have HC10 := Lib.hid (HC9.out.pushA hHC10 hOHC10)
    obtain ⟨_, aoHC10, cHC10, hvHC10, _⟩ := id hHC10.1
    subst hvHC10
    clear hHC10 hOHC10
    refine hK.out _ _ HC10.out.S (fun hHeld => ?_)
    clear hK K
    try simp only [Act.put, List.getElem_toArray, List.getElem_cons_succ, List.getElem_cons_zero, List.setIfInBounds_toArray, List.set_cons_zero, List.set_cons_succ]
    refine wpAnyH_ready (rs := [7]) (by kernel_rfl) (by simp) ?_
    refine AllReadyH.cons rfl (fun K hK => ?_) AllReadyH.nil
    refine step_appS (E := eInst) (by rfl) (.tmp 7) (.tmp 9) _ (by rfl) 44 40 eInst_slice _ _ [] (by first | rfl | simp [Act.eval]) ⟨HC10.out.b.1, fun k h => h⟩ _ cs (by rfl) (HCS.out.only HC10.out.only) (by simp only [List.length_nil]; omega) (by have := HCS.out.1; simp only [List.length_nil, Nat.zero_add]; exact this) ?_
    intro vHC11 wHC11 hHC11 hOHC11
    have HC11 := Lib.hid (HC10.out.pushB hHC11 hOHC11)
    obtain ⟨_, aoHC11, cHC11, hvHC11, _⟩ := id hHC11.1
    subst hvHC11
    clear hHC11 hOHC11
    refine hK.out _ _ HC11.out.S (fun hHeld => ?_)
    clear hK K
    try simp only [Act.put, List.getElem_toArray, List.getElem_cons_succ, List.getElem_cons_zero, List.setIfInBounds_toArray, List.set_cons_zero, List.set_cons_succ]
    refine wpAnyH_take (i := 8) (v := ?vhy3) rfl (by kernel_rfl) (by kernel_rfl) (by kernel_rfl) (fun _ _ _ h => h) (Or.inl ⟨by rfl, ?hy3⟩) (by assumption) ?resthy3
    case hy3 =>
      intro w hSw
      try dsimp only at hSw
      go_simp
      all_goals with_reducible rfl
    simp only [Act.put, List.getElem_toArray, List.getElem_cons_succ, List.getElem_cons_zero, List.setIfInBounds_toArray, List.set_cons_zero, List.set_cons_succ]
    refine wpAnyH_ready (rs := [9]) (by kernel_rfl) (by simp) ?_
    refine AllReadyH.cons rfl (fun K hK => ?_) AllReadyH.nil
    rw [if_pos (by rfl)]
    refine wp_store_row 25 (.tmp 2) (.tmp 11) rfl g2 _ rfl rfl 25 _ HC11.out.res (by kernel_rfl) rfl (by simp [Value.oneCell']) ?_
    refine hK.out _ _ (HC11.out.setS _) (fun hHeld => ?_)
    clear hK K
    try simp only [Act.put, List.getElem_toArray, List.getElem_cons_succ, List.getElem_cons_zero, List.setIfInBounds_toArray, List.set_cons_zero, List.set_cons_succ]
    refine wpAnyH_done (by kernel_rfl) ?_ _
    refine NoPanic.normal ?_
    go_wp2_with fail
    refine bodyPost_ret (results_cell_row rfl _ _ g2 _ _ _ _ rfl (setRow_heap _ _ _ _ _ _ HC11.out.res) Tryd.underlying25 rfl (by kernel_rfl)) rfl ?_
    exact ⟨_, _, rfl, HC11.out.fin _⟩

/-- bytes as a string -/
def strB (b : List Int) : ByteArray := strOfNums b
theorem conv_rd {w : World} {v : Value} {b : List Int} (hr : Rd eU8 w v b) : (convert 28 9 v).run Tryd.prog w = .ok (.string (strB b)) w := by
  obtain ⟨_, ao, cap, rfl, _, _, hx⟩ := hr
  by_cases h0 : 0 < b.length
  · obtain ⟨sb, off, rfl, hc⟩ := hx h0
    exact run_convert_bytes_arg (P := Tryd.prog) w 28 5 Tryd.underlying28 Tryd.underlying5 sb off b.length cap b rfl (fun i hi => by
      rw [hc i _ (eInt_at .u8 b i hi)]; simp [List.getD, List.getElem?_eq_getElem hi]) 9 Tryd.underlying9
  · obtain rfl : b = [] := List.eq_nil_of_length_eq_zero (by omega)
    rw [run_convert_bytes_string w 28 9 5 ao _ cap Tryd.underlying28 Tryd.underlying5 Tryd.underlying9]
    cases ao with
    | none => simp [Conv.bytesToString]; rfl
    | some a => simp [Conv.bytesToString, loadCells, loadCellsFrom]; rfl
end Go.Proofs.YtkocfgaajghggaaDoor
