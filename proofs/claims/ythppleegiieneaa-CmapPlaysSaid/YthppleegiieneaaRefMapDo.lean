/- cmap: the document's map, Do. -/
import Derived.Test.YthppleegiieneaaRefMapV
namespace Go.Proofs.Ythppleegiieneaa
open Go.RowKit
set_option linter.unusedVariables false
set_option linter.unusedSimpArgs false

set_option maxRecDepth 100000 in
set_option maxHeartbeats 4000000 in
theorem refMapDo_ {m : Nat} {kind cap : Int} {al : List RShA} {ss : List RSt} {T : Nat → Prop} {w : World} (hT : RMapS m cap al ss T w) (G : RMGood kind cap al ss) {i : Nat} {op key val : Int} (hi : ofS key al.length = i) (h2 : i < ss.length) (hk0 : 0 ≤ key) (hk1 : key ≤ 18446744073709551615) (hn : ss[i].2 < 4611686018427387904) {r : ResD} {s' : Sh} (hd : shP (decide (kind = 1)) cap ss[i].1 op key val = (r, s')) :
    Calls Try.prog 21 #[.pointer (some ⟨m, 0, none⟩), .int .i64 op, .int .u64 key, .int .u64 val] w fun e w' => e = .returned (.agg #[.int .i64 r.1, .bool r.2.1, .int .u64 r.2.2.1, .bool r.2.2.2.1, .int .u64 r.2.2.2.2.1, .int .u64 r.2.2.2.2.2]) ∧ Upd (RMapS m cap al (ss.set i (s', ss[i].2 + 1))) T w w' := by
  have h1 : i < al.length := by rw [G.len]; exact h2
  have HBD := Lib.hid (show al[i].bd = decide (kind = 1) from G.bd _ (List.getElem_mem h1))
  have HG := Lib.hid (show SGood al[i].bd cap ss[i].1 by rw [HBD.out]; exact G.good _ (List.getElem_mem h2))
  obtain ⟨rs, hrs⟩ : ∃ rs, rs = al[i].rs := ⟨_, rfl⟩
  have HDO := Lib.hid (show ∀ (A : Nat → Prop) (w : World), RShardS al[i] cap ss[i].1 ss[i].2 A w → Calls Try.prog 10 #[.pointer (some ⟨rs, 0, none⟩), .int .i64 op, .int .u64 key, .int .u64 val] w fun e w' => e = .returned (.agg #[.int .i64 r.1, .bool r.2.1, .int .u64 r.2.2.1, .bool r.2.2.2.1, .int .u64 r.2.2.2.2.1, .int .u64 r.2.2.2.2.2]) ∧ Upd (RShardS al[i] cap s' (ss[i].2 + 1)) A w w' from fun A w h => by
    rw [hrs]
    exact refShDo_ h HG.out hn (by rw [HBD.out]; exact hd))
  have HOF := Lib.hid (show ∀ w, Calls Try.prog 32 #[.int .u64 key, .int .i64 (al.length : Int)] w fun e w' => e = .returned (.int .i64 (i : Int)) ∧ w = w' from fun w => by rw [← hi]; exact refOf_any key al.length w hk0 hk1 (by have := G.n4; omega))
  obtain ⟨v, hV⟩ := hT.named
  obtain ⟨sb, off, c, rfl⟩ := hV.shape (by omega)
  obtain ⟨c0, c1⟩ := hV.slot h1
  have HAT := Lib.hid (show ∀ A w, RMapV m cap (.slice (some ⟨sb, off, none⟩) al.length c) al ss A w → ∃ B, RShardS al[i] cap ss[i].1 ss[i].2 B w ∧ ∀ (s' : RSt) w', Upd (RShardS al[i] cap s'.1 s'.2) B w w' → Upd (RMapV m cap (.slice (some ⟨sb, off, none⟩) al.length c) al (ss.set i s')) A w w' from fun A w h => h.at G.len i h1 h2)
  rw [← hrs] at c1
  have hi0 : (0 : Int) ≤ (i : Int) := by omega
  have hi1 : (i : Int) < (al.length : Int) := by omega
  have HU := Lib.hid ((Upd.start RMapV.framed hV).loc RMapV.framed (resO 0 false 0 false 0 0))
  have HKP := Lib.hid (show ∀ L W, Upd (Sep (RMapV m cap (.slice (some ⟨sb, off, none⟩) al.length c) al (ss.set i (s', ss[i].2 + 1))) (Locs L)) T w W → W.cell? ⟨m, 0, none⟩ = some (.slice (some ⟨sb, off, none⟩) al.length c) ∧ W.cell? ⟨sb, off + i, none⟩ = some (.pointer (some ⟨rs, 0, none⟩)) from fun L W h => by
    obtain ⟨_, h⟩ := h.getL
    have := h.slot h1
    rwa [← hrs] at this)
  clear hT hV G hi hd hrs hk0 hk1 hn
  go_enter Try.func21, Try.ntmps21
  go_wp2_with fail
  generalize w.heap.size = rb at *
  have d0 : (w.alloc (resO 0 false 0 false 0 0)).cell? ⟨m, 0, none⟩ = some (.slice (some ⟨sb, off, none⟩) al.length c) := only_cell (Only.alloc _ _ _) c0
  have d1 : (w.alloc (resO 0 false 0 false 0 0)).cell? ⟨sb, off + i, none⟩ = some (.pointer (some ⟨rs, 0, none⟩)) := only_cell (Only.alloc _ _ _) c1
  clear c0 c1
  generalize World.alloc w _ = wa at *
  refine wp_region_held_drew (S := fun W => W.cell? ⟨m, 0, none⟩ = some (.slice (some ⟨sb, off, none⟩) al.length c) ∧ W.cell? ⟨sb, off + i, none⟩ = some (.pointer (some ⟨rs, 0, none⟩))) (by kernel_rfl) ?_ (fun hHeld => ?_)
  · exact ⟨d0, d1⟩
  try simp only [Act.put, List.getElem_toArray, List.getElem_cons_succ, List.getElem_cons_zero, List.setIfInBounds_toArray, List.set_cons_zero, List.set_cons_succ]
  refine wpAnyH_take (i := 0) (v := ?vq0) rfl (by kernel_rfl) (by kernel_rfl) (by kernel_rfl) (fun _ _ _ h => h) (Or.inl ⟨by rfl, ?hyq0⟩) (by assumption) ?restq0
  case hyq0 =>
    intro w hSw
    try dsimp only at hSw
    go_simp
    all_goals with_reducible rfl
  simp only [Act.put, List.getElem_toArray, List.getElem_cons_succ, List.getElem_cons_zero, List.setIfInBounds_toArray, List.set_cons_zero, List.set_cons_succ]
  refine wpAnyH_take (i := 1) (v := ?vq1) rfl (by kernel_rfl) (by kernel_rfl) (by kernel_rfl) (fun _ _ _ h => h) (Or.inl ⟨by rfl, ?hyq1⟩) (by assumption) ?restq1
  case hyq1 =>
    intro w hSw
    try dsimp only at hSw
    go_simp
    all_goals with_reducible rfl
  simp only [Act.put, List.getElem_toArray, List.getElem_cons_succ, List.getElem_cons_zero, List.setIfInBounds_toArray, List.set_cons_zero, List.set_cons_succ]
  refine wpAnyH_take (i := 2) (v := ?vq2) rfl (by kernel_rfl) (by kernel_rfl) (by kernel_rfl) (fun _ _ _ h => h) (Or.inl ⟨by rfl, ?hyq2⟩) (by assumption) ?restq2
  case hyq2 =>
    intro w hSw
    try dsimp only at hSw
    go_simp
    all_goals with_reducible rfl
  simp only [Act.put, List.getElem_toArray, List.getElem_cons_succ, List.getElem_cons_zero, List.setIfInBounds_toArray, List.set_cons_zero, List.set_cons_succ]
  refine wpAnyH_take (i := 3) (v := ?vq3) rfl (by kernel_rfl) (by kernel_rfl) (by kernel_rfl) (fun _ _ _ h => h) (Or.inl ⟨by rfl, ?hyq3⟩) (by assumption) ?restq3
  case hyq3 =>
    intro w hSw
    try dsimp only at hSw
    go_simp
    all_goals with_reducible rfl
  simp only [Act.put, List.getElem_toArray, List.getElem_cons_succ, List.getElem_cons_zero, List.setIfInBounds_toArray, List.set_cons_zero, List.set_cons_succ]
  refine wpAnyH_take (i := 4) (v := ?vq4) rfl (by kernel_rfl) (by kernel_rfl) (by kernel_rfl) (fun _ _ _ h => h) (Or.inl ⟨by rfl, ?hyq4⟩) (by assumption) ?restq4
  case hyq4 =>
    intro w hSw
    try dsimp only at hSw
    go_simp
    all_goals with_reducible rfl
  simp only [Act.put, List.getElem_toArray, List.getElem_cons_succ, List.getElem_cons_zero, List.setIfInBounds_toArray, List.set_cons_zero, List.set_cons_succ]
  refine wpAnyH_take (i := 5) (v := ?vq5) rfl (by kernel_rfl) (by kernel_rfl) (by kernel_rfl) (fun _ _ _ h => h) (Or.inl ⟨by rfl, ?hyq5⟩) (by assumption) ?restq5
  case hyq5 =>
    intro w hSw
    try dsimp only at hSw
    go_simp
    all_goals with_reducible rfl
  simp only [Act.put, List.getElem_toArray, List.getElem_cons_succ, List.getElem_cons_zero, List.setIfInBounds_toArray, List.set_cons_zero, List.set_cons_succ]
  refine wpAnyH_take (i := 6) (v := ?vq6) rfl (by kernel_rfl) (by kernel_rfl) (by kernel_rfl) (fun _ _ _ h => h) (Or.inl ⟨by rfl, ?hyq6⟩) (by assumption) ?restq6
  case hyq6 =>
    intro w hSw
    try dsimp only at hSw
    go_simp
    all_goals with_reducible rfl
  simp only [Act.put, List.getElem_toArray, List.getElem_cons_succ, List.getElem_cons_zero, List.setIfInBounds_toArray, List.set_cons_zero, List.set_cons_succ]
  refine wpAnyH_take (i := 7) (v := ?vq7) rfl (by kernel_rfl) (by kernel_rfl) (by kernel_rfl) (fun _ _ _ h => h) (Or.inl ⟨by rfl, ?hyq7⟩) (by assumption) ?restq7
  case hyq7 =>
    intro w hSw
    try dsimp only at hSw
    go_simp
    all_goals with_reducible rfl
  simp only [Act.put, List.getElem_toArray, List.getElem_cons_succ, List.getElem_cons_zero, List.setIfInBounds_toArray, List.set_cons_zero, List.set_cons_succ]
  refine wpAnyH_take (i := 8) (v := ?vq8) rfl (by kernel_rfl) (by kernel_rfl) (by kernel_rfl) (fun _ _ _ h => h) (Or.inl ⟨by rfl, ?hyq8⟩) (by assumption) ?restq8
  case hyq8 =>
    intro w hSw
    try dsimp only at hSw
    go_simp
    all_goals with_reducible rfl
  simp only [Act.put, List.getElem_toArray, List.getElem_cons_succ, List.getElem_cons_zero, List.setIfInBounds_toArray, List.set_cons_zero, List.set_cons_succ]
  refine wpAnyH_take (i := 9) (v := ?vq9) rfl (by kernel_rfl) (by kernel_rfl) (by kernel_rfl) (fun _ _ _ h => h) (Or.inl ⟨by rfl, ?hyq9⟩) (by assumption) ?restq9
  case hyq9 =>
    intro w hSw
    try dsimp only at hSw
    go_simp
    all_goals with_reducible rfl
  simp only [Act.put, List.getElem_toArray, List.getElem_cons_succ, List.getElem_cons_zero, List.setIfInBounds_toArray, List.set_cons_zero, List.set_cons_succ]
  refine wpAnyH_take (i := 13) (v := ?vq13) rfl (by kernel_rfl) (by kernel_rfl) (by kernel_rfl) (fun _ _ _ h => h) (Or.inl ⟨by rfl, ?hyq13⟩) (by assumption) ?restq13
  case hyq13 =>
    intro w hSw
    try dsimp only at hSw
    go_simp
    all_goals with_reducible rfl
  simp only [Act.put, List.getElem_toArray, List.getElem_cons_succ, List.getElem_cons_zero, List.setIfInBounds_toArray, List.set_cons_zero, List.set_cons_succ]
  refine wpAnyH_take (i := 14) (v := ?vq14) rfl (by kernel_rfl) (by kernel_rfl) (by kernel_rfl) (fun _ _ _ h => h) (Or.inl ⟨by rfl, ?hyq14⟩) (by assumption) ?restq14
  case hyq14 =>
    intro w hSw
    try dsimp only at hSw
    go_simp
    all_goals with_reducible rfl
  simp only [Act.put, List.getElem_toArray, List.getElem_cons_succ, List.getElem_cons_zero, List.setIfInBounds_toArray, List.set_cons_zero, List.set_cons_succ]
  refine wpAnyH_take (i := 15) (v := ?vq15) rfl (by kernel_rfl) (by kernel_rfl) (by kernel_rfl) (fun _ _ _ h => h) (Or.inl ⟨by rfl, ?hyq15⟩) (by assumption) ?restq15
  case hyq15 =>
    intro w hSw
    try dsimp only at hSw
    go_simp
    all_goals with_reducible rfl
  simp only [Act.put, List.getElem_toArray, List.getElem_cons_succ, List.getElem_cons_zero, List.setIfInBounds_toArray, List.set_cons_zero, List.set_cons_succ]
  refine wpAnyH_ready (rs := [10]) (by kernel_rfl) (by simp) ?_
  refine AllReadyH.cons rfl (fun K hK => ?_) AllReadyH.nil
  go_simp
  refine (HOF.out _).mono ?_
  rintro e wo ⟨rfl, rfl⟩
  try go_wp2_with fail
  refine hK.out _ _ ?_ (fun hHeld => ?_)
  · exact hHeld
  clear hK K
  try simp only [Act.put, List.getElem_toArray, List.getElem_cons_succ, List.getElem_cons_zero, List.setIfInBounds_toArray, List.set_cons_zero, List.set_cons_succ]
  refine wpAnyH_take (i := 11) (v := ?vq11) rfl (by kernel_rfl) (by kernel_rfl) (by kernel_rfl) (fun _ _ _ h => h) (Or.inl ⟨by rfl, ?hyq11⟩) (by assumption) ?restq11
  case hyq11 =>
    intro w hSw
    try dsimp only at hSw
    go_simp
    all_goals with_reducible rfl
  simp only [Act.put, List.getElem_toArray, List.getElem_cons_succ, List.getElem_cons_zero, List.setIfInBounds_toArray, List.set_cons_zero, List.set_cons_succ]
  refine wpAnyH_take (i := 12) (v := ?vq12) rfl (by kernel_rfl) (by kernel_rfl) (by kernel_rfl) (fun _ _ _ h => h) (Or.inl ⟨by rfl, ?hyq12⟩) (by assumption) ?restq12
  case hyq12 =>
    intro w hSw
    try dsimp only at hSw
    go_simp
    all_goals with_reducible rfl
  simp only [Act.put, List.getElem_toArray, List.getElem_cons_succ, List.getElem_cons_zero, List.setIfInBounds_toArray, List.set_cons_zero, List.set_cons_succ]
  refine wpAnyH_ready (rs := [16]) (by kernel_rfl) (by simp) ?_
  refine AllReadyH.cons rfl (fun K hK => ?_) AllReadyH.nil
  go_simp
  refine ((HU.out.drewU (Sep.framed RMapV.framed Locs.framed)).via Locs.framed (P' := RMapV m cap (.slice (some ⟨sb, off, none⟩) al.length c) al (ss.set i (s', ss[i].2 + 1))) RMapV.framed fun A hA => by
    obtain ⟨B, hB, hb⟩ := HAT.out A _ hA
    exact (HDO.out _ _ hB).mono fun e w' ⟨he, hu⟩ => ⟨he, hb _ _ hu⟩).mono ?_
  rintro e w1 ⟨rfl, hU1⟩
  have H8 := Lib.hid (hU1.get (g := rb) (List.mem_cons_self ..))
  have HU1 := Lib.hid hU1
  have e0 := HKP.out _ _ HU1.out
  clear hU1
  try go_wp2_with fail
  refine hK.out _ _ ?_ (fun hHeld => ?_)
  · exact e0
  clear hK K
  try simp only [Act.put, List.getElem_toArray, List.getElem_cons_succ, List.getElem_cons_zero, List.setIfInBounds_toArray, List.set_cons_zero, List.set_cons_succ]
  clear hHeld e0
  refine wpAnyH_ready (rs := [17]) (by kernel_rfl) (by simp) ?_
  refine AllReadyH.cons rfl (fun K hK => ?_) AllReadyH.nil
  rw [if_pos (by rfl)]
  refine wp_store_row 38 (.tmp 8) (.tmp 25) rfl rb #[Value.int .i64 r.1, .bool r.2.1, .int .u64 r.2.2.1, .bool r.2.2.2.1, .int .u64 r.2.2.2.2.1, .int .u64 r.2.2.2.2.2] rfl rfl 38 _ H8.out (by kernel_rfl) rfl (res_one _ _ _ _ _ _) ?_
  have HU2 := Lib.hid (HU1.out.locs RMapV.framed (M := []) ((only_setRow _ rb #[Value.int .i64 r.1, .bool r.2.1, .int .u64 r.2.2.1, .bool r.2.2.2.1, .int .u64 r.2.2.2.2.1, .int .u64 r.2.2.2.2.2]).mono fun j _ e => ⟨_, List.mem_cons_self .., e.symm⟩) (fun p hp => by simp at hp))
  have e1 := HKP.out _ _ HU2.out
  refine hK.out _ _ e1 (fun hHeld => ?_)
  clear hK K
  try simp only [Act.put, List.getElem_toArray, List.getElem_cons_succ, List.getElem_cons_zero, List.setIfInBounds_toArray, List.set_cons_zero, List.set_cons_succ]
  refine wpAnyH_done (by kernel_rfl) ?_ _
  go_wp2_with fail
  refine bodyPost_ret (results_cell_row rfl _ _ rb _ _ _ _ rfl (setRow_heap _ _ _ _ _ _ H8.out) Try.underlying38 rfl (by kernel_rfl)) rfl ?_
  exact ⟨rfl, (HU2.out.drop RMapV.framed).imp fun _ h => h.plain⟩
end Go.Proofs.Ythppleegiieneaa
