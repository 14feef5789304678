/- The law WireSame: its walk. (printed by wiresamelaw.py) -/
import Derived.Test.YtkocfgaajghggaaDoorWireOpen
import Derived.Deep.RegionHeld3
namespace Go.Proofs.YtkocfgaajghggaaDoor
open Go.RowKit
set_option linter.unusedVariables false
set_option linter.unusedSimpArgs false

theorem both_cells {w : World} {g1 g2 : Nat} {a b c d : Value} (h1 : w.heap[g1]? = some (.cells #[a, b] 25 (0, 0))) (h2 : w.heap[g2]? = some (.cells #[c, d] 25 (0, 0))) :
    w.cell? ⟨g1, 0, none⟩ = some a ∧ w.cell? ⟨g1, 1, none⟩ = some b ∧ w.cell? ⟨g2, 0, none⟩ = some c ∧ w.cell? ⟨g2, 1, none⟩ = some d :=
  ⟨cells_of_heap h1 0 _ rfl, cells_of_heap h1 1 _ rfl, cells_of_heap h2 0 _ rfl, cells_of_heap h2 1 _ rfl⟩
theorem small_ne : sameB [2] [] smallC [] = false := by simp [sameB]
set_option maxRecDepth 100000 in
set_option maxHeartbeats 4000000 in
theorem wireSame_any (a b : ModX) (w : World) (ha : a.ok w) (hb : b.ok w) (hF : FormsB w) :
    Calls Tryd.prog 8 #[a.v, b.v] w fun e w' => e = .returned (.bool true) ∧ Below w.heap.size w w' := by
  obtain ⟨va, ca⟩ := a
  obtain ⟨vb, cb⟩ := b
  obtain ⟨ms, cs, hm, hc, hml, hcl, _, _⟩ := ha
  obtain ⟨ns, ds, hn, hd, hnl, hdl, _, _⟩ := hb
  dsimp only at hm hc hn hd
  obtain ⟨W0, hW0⟩ : ∃ W0, W0 = (w.alloc (.cells #[va, ca] 25)).alloc (.cells #[vb, cb] 25) := ⟨_, rfl⟩
  have HO0 := Lib.hid (show Only (fun _ => False) w W0 by rw [hW0]; exact (Only.alloc _ _ _).tr (Only.alloc _ _ _))
  have HM := Lib.hid (hm.only HO0.out)
  have HC := Lib.hid (hc.only HO0.out)
  have HN := Lib.hid (hn.only HO0.out)
  have HD := Lib.hid (hd.only HO0.out)
  have HF := Lib.hid (hF.forms.only HO0.out)
  have HB1 := Lib.hid (show W0.heap[w.heap.size]? = some (.cells #[va, ca] 25 (0, 0)) by rw [hW0]; exact heap_alloc (heap_alloc_new w _))
  have HB2 := Lib.hid (show W0.heap[w.heap.size + 1]? = some (.cells #[vb, cb] 25 (0, 0)) by rw [hW0]; have h := heap_alloc_new (w.alloc (.cells #[va, ca] 25)) (.cells #[vb, cb] 25); simpa using h)
  have HW0 := Lib.hid hW0
  have HOw := Lib.hid HO0.out
  clear hW0 hm hc hn hd hF HO0
  have HO0 := Lib.hid ((Only.refl (fun _ => False) W0).drew_)
  obtain ⟨_, aa, na, rfl, _⟩ := id HM.out
  obtain ⟨_, ab, nb, rfl, _⟩ := id HC.out
  obtain ⟨_, ac, nc, rfl, _⟩ := id HN.out
  obtain ⟨_, ad, nd, rfl, _⟩ := id HD.out
  unfold ModX.v
  go_enter Tryd.func8, Tryd.ntmps8
  go_wp2_with fail
  rw [← HW0.out]
  generalize w.heap.size + 1 = g2 at *
  generalize w.heap.size = g1 at *
  refine wp_region_noPanic ?_
  refine wp_region_held_drew (S := fun w' => w'.cell? ⟨g1, 0, none⟩ = some (.slice aa ms.length na) ∧ w'.cell? ⟨g1, 1, none⟩ = some (.slice ab cs.length nb) ∧ w'.cell? ⟨g2, 0, none⟩ = some (.slice ac ns.length nc) ∧ w'.cell? ⟨g2, 1, none⟩ = some (.slice ad ds.length nd)) (by kernel_rfl) ?_ (fun hHeld => ?_)
  · exact both_cells (HO0.out.heap HB1.out id) (HO0.out.heap HB2.out id)
  try simp only [Act.put, List.getElem_toArray, List.getElem_cons_succ, List.getElem_cons_zero, List.setIfInBounds_toArray, List.set_cons_zero, List.set_cons_succ]
  refine wpAnyH_ready (rs := [0]) (by kernel_rfl) (by simp) ?_
  refine AllReadyH.cons rfl (fun K hK => ?_) AllReadyH.nil
  go_simp
  refine (awake_any _ (HF.out.only HO0.out)).mono ?_
  rintro e W1 ⟨rfl, hO1⟩
  have HO1 := Lib.hid (HO0.out.tr hO1)
  have hS := (both_cells (HO1.out.heap HB1.out id) (HO1.out.heap HB2.out id))
  try go_wp2_with fail
  refine hK.out _ _ hS (fun hHeld => ?_)
  clear hK K hS
  try simp only [Act.put, List.getElem_toArray, List.getElem_cons_succ, List.getElem_cons_zero, List.setIfInBounds_toArray, List.set_cons_zero, List.set_cons_succ]
  refine wpAnyH_take (i := 1) (v := ?vhy1) rfl (by kernel_rfl) (by kernel_rfl) (by kernel_rfl) (fun _ _ _ h => h) (Or.inl ⟨by rfl, ?hy1⟩) (by assumption) ?resthy1
  case hy1 =>
    intro w hSw
    try dsimp only at hSw
    go_simp
    all_goals with_reducible rfl
  simp only [Act.put, List.getElem_toArray, List.getElem_cons_succ, List.getElem_cons_zero, List.setIfInBounds_toArray, List.set_cons_zero, List.set_cons_succ]
  refine wpAnyH_take (i := 2) (v := ?vhy2) rfl (by kernel_rfl) (by kernel_rfl) (by kernel_rfl) (fun _ _ _ h => h) (Or.inl ⟨by rfl, ?hy2⟩) (by assumption) ?resthy2
  case hy2 =>
    intro w hSw
    try dsimp only at hSw
    go_simp
    all_goals with_reducible rfl
  simp only [Act.put, List.getElem_toArray, List.getElem_cons_succ, List.getElem_cons_zero, List.setIfInBounds_toArray, List.set_cons_zero, List.set_cons_succ]
  refine wpAnyH_take (i := 3) (v := ?vhy3) rfl (by kernel_rfl) (by kernel_rfl) (by kernel_rfl) (fun _ _ _ h => h) (Or.inl ⟨by rfl, ?hy3⟩) (by assumption) ?resthy3
  case hy3 =>
    intro w hSw
    try dsimp only at hSw
    go_simp
    all_goals with_reducible rfl
  simp only [Act.put, List.getElem_toArray, List.getElem_cons_succ, List.getElem_cons_zero, List.setIfInBounds_toArray, List.set_cons_zero, List.set_cons_succ]
  refine wpAnyH_take (i := 5) (v := ?vhy4) rfl (by kernel_rfl) (by kernel_rfl) (by kernel_rfl) (fun _ _ _ h => h) (Or.inl ⟨by rfl, ?hy4⟩) (by assumption) ?resthy4
  case hy4 =>
    intro w hSw
    try dsimp only at hSw
    go_simp
    all_goals with_reducible rfl
  simp only [Act.put, List.getElem_toArray, List.getElem_cons_succ, List.getElem_cons_zero, List.setIfInBounds_toArray, List.set_cons_zero, List.set_cons_succ]
  refine wpAnyH_take (i := 6) (v := ?vhy5) rfl (by kernel_rfl) (by kernel_rfl) (by kernel_rfl) (fun _ _ _ h => h) (Or.inl ⟨by rfl, ?hy5⟩) (by assumption) ?resthy5
  case hy5 =>
    intro w hSw
    try dsimp only at hSw
    go_simp
    all_goals with_reducible rfl
  simp only [Act.put, List.getElem_toArray, List.getElem_cons_succ, List.getElem_cons_zero, List.setIfInBounds_toArray, List.set_cons_zero, List.set_cons_succ]
  refine wpAnyH_ready (rs := [4]) (by kernel_rfl) (by simp) ?_
  refine AllReadyH.cons rfl (fun K hK => ?_) AllReadyH.nil
  go_simp
  refine (progSame_any ms ns cs ds _ _ _ _ _ (HM.out.only HO1.out) (HN.out.only HO1.out) (HC.out.only HO1.out) (HD.out.only HO1.out)).mono ?_
  rintro e W2 ⟨rfl, hO2⟩
  have HO2 := Lib.hid (HO1.out.tr hO2)
  have hS := (both_cells (HO2.out.heap HB1.out id) (HO2.out.heap HB2.out id))
  try go_wp2_with fail
  refine hK.out _ _ hS (fun hHeld => ?_)
  clear hK K hS
  try simp only [Act.put, List.getElem_toArray, List.getElem_cons_succ, List.getElem_cons_zero, List.setIfInBounds_toArray, List.set_cons_zero, List.set_cons_succ]
  refine wpAnyH_ready (rs := [7]) (by kernel_rfl) (by simp) ?_
  refine AllReadyH.cons rfl (fun K hK => ?_) AllReadyH.nil
  go_simp
  refine (refSame_any ms ns cs ds _ _ _ _ _ (HM.out.only HO2.out) (HN.out.only HO2.out) (HC.out.only HO2.out) (HD.out.only HO2.out)).mono ?_
  rintro e W3 ⟨rfl, hO3⟩
  have HO3 := Lib.hid (HO2.out.tr hO3)
  have hS := (both_cells (HO3.out.heap HB1.out id) (HO3.out.heap HB2.out id))
  try go_wp2_with fail
  refine hK.out _ _ hS (fun hHeld => ?_)
  clear hK K hS
  try simp only [Act.put, List.getElem_toArray, List.getElem_cons_succ, List.getElem_cons_zero, List.setIfInBounds_toArray, List.set_cons_zero, List.set_cons_succ]
  refine wpAnyH_take (i := 8) (v := ?vhy6) rfl (by kernel_rfl) (by kernel_rfl) (by kernel_rfl) (fun _ _ _ h => h) (Or.inl ⟨by rfl, ?hy6⟩) (by assumption) ?resthy6
  case hy6 =>
    intro w hSw
    try dsimp only at hSw
    go_simp
    all_goals with_reducible rfl
  simp only [Act.put, List.getElem_toArray, List.getElem_cons_succ, List.getElem_cons_zero, List.setIfInBounds_toArray, List.set_cons_zero, List.set_cons_succ]
  refine wpAnyH_take (i := 9) (v := ?vhy7) rfl (by kernel_rfl) (by kernel_rfl) (by kernel_rfl) (fun _ _ _ h => h) (Or.inl ⟨by rfl, ?hy7⟩) (by assumption) ?resthy7
  case hy7 =>
    intro w hSw
    try dsimp only at hSw
    go_simp
    all_goals with_reducible rfl
  simp only [Act.put, List.getElem_toArray, List.getElem_cons_succ, List.getElem_cons_zero, List.setIfInBounds_toArray, List.set_cons_zero, List.set_cons_succ]
  refine wpAnyH_take (i := 10) (v := ?vhy8) rfl (by kernel_rfl) (by kernel_rfl) (by kernel_rfl) (fun _ _ _ h => h) (Or.inl ⟨by rfl, ?hy8⟩) (by assumption) ?resthy8
  case hy8 =>
    intro w hSw
    try dsimp only at hSw
    go_simp
    all_goals with_reducible rfl
  simp only [Act.put, List.getElem_toArray, List.getElem_cons_succ, List.getElem_cons_zero, List.setIfInBounds_toArray, List.set_cons_zero, List.set_cons_succ]
  refine wpAnyH_take (i := 11) (v := ?vhy9) rfl (by kernel_rfl) (by kernel_rfl) (by kernel_rfl) (fun _ _ _ h => h) (Or.inl ⟨by rfl, ?hy9⟩) (by assumption) ?resthy9
  case hy9 =>
    intro w hSw
    try dsimp only at hSw
    go_simp
    all_goals with_reducible rfl
  simp only [Act.put, List.getElem_toArray, List.getElem_cons_succ, List.getElem_cons_zero, List.setIfInBounds_toArray, List.set_cons_zero, List.set_cons_succ]
  refine wpAnyH_take (i := 13) (v := ?vhy10) rfl (by kernel_rfl) (by kernel_rfl) (by kernel_rfl) (fun _ _ _ h => h) (Or.inl ⟨by rfl, ?hy10⟩) (by assumption) ?resthy10
  case hy10 =>
    intro w hSw
    try dsimp only at hSw
    go_simp
    all_goals with_reducible rfl
  simp only [Act.put, List.getElem_toArray, List.getElem_cons_succ, List.getElem_cons_zero, List.setIfInBounds_toArray, List.set_cons_zero, List.set_cons_succ]
  refine wpAnyH_ready (rs := [12]) (by kernel_rfl) (by simp) ?_
  refine AllReadyH.cons rfl (fun K hK => ?_) AllReadyH.nil
  go_simp
  refine (copied_any ms cs _ _ _ (HM.out.only HO3.out) (HC.out.only HO3.out) hml hcl).mono ?_
  rintro e W4 ⟨p1, q1, rfl, hM4⟩
  have HO4 := Lib.hid (HO3.out.tr hM4.2.2)
  have hS := (both_cells (HO4.out.heap HB1.out id) (HO4.out.heap HB2.out id))
  try go_wp2_with fail
  refine hK.out _ _ hS (fun hHeld => ?_)
  clear hK K hS
  try simp only [Act.put, List.getElem_toArray, List.getElem_cons_succ, List.getElem_cons_zero, List.setIfInBounds_toArray, List.set_cons_zero, List.set_cons_succ]
  have HM4 := Lib.hid hM4
  clear hM4
  refine wpAnyH_ready (rs := [14]) (by kernel_rfl) (by simp) ?_
  refine AllReadyH.cons rfl (fun K hK => ?_) AllReadyH.nil
  go_simp
  refine (progSame_any ms ms cs cs _ _ _ _ _ HM4.out.1.rd (HM.out.only HO4.out) HM4.out.2.1.rd (HC.out.only HO4.out)).mono ?_
  rintro e W5 ⟨rfl, hO5⟩
  have HO5 := Lib.hid (HO4.out.tr hO5)
  have hS := (both_cells (HO5.out.heap HB1.out id) (HO5.out.heap HB2.out id))
  rw [← same_y (rfl : ms = ms) (rfl : cs = cs)]
  try go_wp2_with fail
  refine hK.out _ _ hS (fun hHeld => ?_)
  clear hK K hS
  try simp only [Act.put, List.getElem_toArray, List.getElem_cons_succ, List.getElem_cons_zero, List.setIfInBounds_toArray, List.set_cons_zero, List.set_cons_succ]
  refine wpAnyH_take (i := 15) (v := ?vhy11) rfl (by kernel_rfl) (by kernel_rfl) (by kernel_rfl) (fun _ _ _ h => h) (Or.inl ⟨by rfl, ?hy11⟩) (by assumption) ?resthy11
  case hy11 =>
    intro w hSw
    try dsimp only at hSw
    go_simp
    all_goals with_reducible rfl
  simp only [Act.put, List.getElem_toArray, List.getElem_cons_succ, List.getElem_cons_zero, List.setIfInBounds_toArray, List.set_cons_zero, List.set_cons_succ]
  refine wpAnyH_take (i := 16) (v := ?vhy12) rfl (by kernel_rfl) (by kernel_rfl) (by kernel_rfl) (fun _ _ _ h => h) (Or.inl ⟨by rfl, ?hy12⟩) (by assumption) ?resthy12
  case hy12 =>
    intro w hSw
    try dsimp only at hSw
    go_simp
    all_goals with_reducible rfl
  simp only [Act.put, List.getElem_toArray, List.getElem_cons_succ, List.getElem_cons_zero, List.setIfInBounds_toArray, List.set_cons_zero, List.set_cons_succ]
  refine wpAnyH_take (i := 17) (v := ?vhy13) rfl (by kernel_rfl) (by kernel_rfl) (by kernel_rfl) (fun _ _ _ h => h) (Or.inl ⟨by rfl, ?hy13⟩) (by assumption) ?resthy13
  case hy13 =>
    intro w hSw
    try dsimp only at hSw
    go_simp
    all_goals with_reducible rfl
  simp only [Act.put, List.getElem_toArray, List.getElem_cons_succ, List.getElem_cons_zero, List.setIfInBounds_toArray, List.set_cons_zero, List.set_cons_succ]
  refine wpAnyH_take (i := 18) (v := ?vhy14) rfl (by kernel_rfl) (by kernel_rfl) (by kernel_rfl) (fun _ _ _ h => h) (Or.inl ⟨by rfl, ?hy14⟩) (by assumption) ?resthy14
  case hy14 =>
    intro w hSw
    try dsimp only at hSw
    go_simp
    all_goals with_reducible rfl
  simp only [Act.put, List.getElem_toArray, List.getElem_cons_succ, List.getElem_cons_zero, List.setIfInBounds_toArray, List.set_cons_zero, List.set_cons_succ]
  refine wpAnyH_ready (rs := [19]) (by kernel_rfl) (by simp) ?_
  refine AllReadyH.cons rfl (fun K hK => ?_) AllReadyH.nil
  go_simp
  refine (copied_any ns ds _ _ _ (HN.out.only HO5.out) (HD.out.only HO5.out) hnl hdl).mono ?_
  rintro e W6 ⟨p2, q2, rfl, hM6⟩
  have HO6 := Lib.hid (HO5.out.tr hM6.2.2)
  have hS := (both_cells (HO6.out.heap HB1.out id) (HO6.out.heap HB2.out id))
  try go_wp2_with fail
  refine hK.out _ _ hS (fun hHeld => ?_)
  clear hK K hS
  try simp only [Act.put, List.getElem_toArray, List.getElem_cons_succ, List.getElem_cons_zero, List.setIfInBounds_toArray, List.set_cons_zero, List.set_cons_succ]
  have HM6 := Lib.hid hM6
  clear hM6
  refine wpAnyH_ready (rs := [20]) (by kernel_rfl) (by simp) ?_
  refine AllReadyH.cons rfl (fun K hK => ?_) AllReadyH.nil
  go_simp
  refine (progSame_any ns ns ds ds _ _ _ _ _ (HN.out.only HO6.out) HM6.out.1.rd (HD.out.only HO6.out) HM6.out.2.1.rd).mono ?_
  rintro e W7 ⟨rfl, hO7⟩
  have HO7 := Lib.hid (HO6.out.tr hO7)
  have hS := (both_cells (HO7.out.heap HB1.out id) (HO7.out.heap HB2.out id))
  rw [← same_y (rfl : ns = ns) (rfl : ds = ds)]
  try go_wp2_with fail
  refine hK.out _ _ hS (fun hHeld => ?_)
  clear hK K hS
  try simp only [Act.put, List.getElem_toArray, List.getElem_cons_succ, List.getElem_cons_zero, List.setIfInBounds_toArray, List.set_cons_zero, List.set_cons_succ]
  refine wpAnyH_take (i := 21) (v := ?vhy15) rfl (by kernel_rfl) (by kernel_rfl) (by kernel_rfl) (fun _ _ _ h => h) (Or.inl ⟨by rfl, ?hy15⟩) (by assumption) ?resthy15
  case hy15 =>
    intro w hSw
    try dsimp only at hSw
    go_simp
    all_goals with_reducible rfl
  simp only [Act.put, List.getElem_toArray, List.getElem_cons_succ, List.getElem_cons_zero, List.setIfInBounds_toArray, List.set_cons_zero, List.set_cons_succ]
  refine wpAnyH_take (i := 22) (v := ?vhy16) rfl (by kernel_rfl) (by kernel_rfl) (by kernel_rfl) (fun _ _ _ h => h) (Or.inl ⟨by rfl, ?hy16⟩) (by assumption) ?resthy16
  case hy16 =>
    intro w hSw
    try dsimp only at hSw
    go_simp
    all_goals with_reducible rfl
  simp only [Act.put, List.getElem_toArray, List.getElem_cons_succ, List.getElem_cons_zero, List.setIfInBounds_toArray, List.set_cons_zero, List.set_cons_succ]
  refine wpAnyH_take (i := 24) (v := ?vhy17) rfl (by kernel_rfl) (by kernel_rfl) (by kernel_rfl) (fun _ _ _ h => h) (Or.inl ⟨by rfl, ?hy17⟩) (by assumption) ?resthy17
  case hy17 =>
    intro w hSw
    try dsimp only at hSw
    go_simp
    all_goals with_reducible rfl
  simp only [Act.put, List.getElem_toArray, List.getElem_cons_succ, List.getElem_cons_zero, List.setIfInBounds_toArray, List.set_cons_zero, List.set_cons_succ]
  refine wpAnyH_ready (rs := [23]) (by kernel_rfl) (by simp) ?_
  refine AllReadyH.cons rfl (fun K hK => ?_) AllReadyH.nil
  go_simp
  refine (small_any _).mono ?_
  rintro e W8 ⟨p3, q3, rfl, hM8⟩
  have HO8 := Lib.hid (HO7.out.tr hM8.2.2)
  have hS := (both_cells (HO8.out.heap HB1.out id) (HO8.out.heap HB2.out id))
  try go_wp2_with fail
  refine hK.out _ _ hS (fun hHeld => ?_)
  clear hK K hS
  try simp only [Act.put, List.getElem_toArray, List.getElem_cons_succ, List.getElem_cons_zero, List.setIfInBounds_toArray, List.set_cons_zero, List.set_cons_succ]
  have HM8 := Lib.hid hM8
  clear hM8
  refine wpAnyH_ready (rs := [25]) (by kernel_rfl) (by simp) ?_
  refine AllReadyH.cons rfl (fun K hK => ?_) AllReadyH.nil
  go_simp
  refine (progSame_any [2] [] smallC [] _ _ _ _ _ HM8.out.1.rd (Rd.nil _) HM8.out.2.1.rd (Rd.nil _)).mono ?_
  rintro e W9 ⟨rfl, hO9⟩
  have HO9 := Lib.hid (HO8.out.tr hO9)
  have hS := (both_cells (HO9.out.heap HB1.out id) (HO9.out.heap HB2.out id))
  rw [small_ne]
  try go_wp2_with fail
  refine hK.out _ _ hS (fun hHeld => ?_)
  clear hK K hS
  try simp only [Act.put, List.getElem_toArray, List.getElem_cons_succ, List.getElem_cons_zero, List.setIfInBounds_toArray, List.set_cons_zero, List.set_cons_succ]
  refine wpAnyH_take (i := 26) (v := ?vhy18) rfl (by kernel_rfl) (by kernel_rfl) (by kernel_rfl) (fun _ _ _ h => h) (Or.inl ⟨by rfl, ?hy18⟩) (by assumption) ?resthy18
  case hy18 =>
    intro w hSw
    try dsimp only at hSw
    go_simp
    all_goals with_reducible rfl
  simp only [Act.put, List.getElem_toArray, List.getElem_cons_succ, List.getElem_cons_zero, List.setIfInBounds_toArray, List.set_cons_zero, List.set_cons_succ]
  refine wpAnyH_take (i := 27) (v := ?vhy19) rfl (by kernel_rfl) (by kernel_rfl) (by kernel_rfl) (fun _ _ _ h => h) (Or.inl ⟨by rfl, ?hy19⟩) (by assumption) ?resthy19
  case hy19 =>
    intro w hSw
    try dsimp only at hSw
    go_simp
    all_goals with_reducible rfl
  simp only [Act.put, List.getElem_toArray, List.getElem_cons_succ, List.getElem_cons_zero, List.setIfInBounds_toArray, List.set_cons_zero, List.set_cons_succ]
  refine wpAnyH_take (i := 28) (v := ?vhy20) rfl (by kernel_rfl) (by kernel_rfl) (by kernel_rfl) (fun _ _ _ h => h) (Or.inl ⟨by rfl, ?hy20⟩) (by assumption) ?resthy20
  case hy20 =>
    intro w hSw
    try dsimp only at hSw
    go_simp
    all_goals with_reducible rfl
  simp only [Act.put, List.getElem_toArray, List.getElem_cons_succ, List.getElem_cons_zero, List.setIfInBounds_toArray, List.set_cons_zero, List.set_cons_succ]
  refine wpAnyH_done (by kernel_rfl) ?_ _
  refine NoPanic.normal ?_
  go_wp2_with fail
  go_ret
  exact ⟨rfl, (HOw.out.tr HO9.out).below (Nat.le_refl _) (fun _ h => h.elim)⟩
end Go.Proofs.YtkocfgaajghggaaDoor
