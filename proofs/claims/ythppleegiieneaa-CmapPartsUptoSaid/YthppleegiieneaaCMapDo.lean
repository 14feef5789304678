/- cmap: Do. -/
import Derived.Test.YthppleegiieneaaCMap
import Derived.Deep.RegionHeld3
namespace Go.Proofs.Ythppleegiieneaa
open Go.RowKit
set_option linter.unusedVariables false
set_option linter.unusedSimpArgs false

theorem only_cell {w w' : World} (h : Only (fun _ => False) w w') {a : Addr} {v : Value} (c : w.cell? a = some v) : w'.cell? a = some v :=
  (World.cell?_of_block (h.block _ (World.block_lt_of_cell? w _ c) (fun h => h))).trans c
set_option maxRecDepth 100000 in
set_option maxHeartbeats 4000000 in
theorem cmapDo_plain {m : Nat} {kind cap : Int} {al : List ShA} {ss : List Sh} {T : Nat → Prop} {w : World} (hT : MapS m kind cap al ss T w) (G : MGood kind cap al ss) {i : Nat} {op key val : Int} (hi : ofS key al.length = i) (h1 : i < al.length) (h2 : i < ss.length) {r : ResD} {s' : Sh} (hd : shP (decide (kind = 1)) cap ss[i] op key val = (r, s')) {b : Nat} (hai : al[i] = .plain b) :
    Calls Try.prog 20 #[.pointer (some ⟨m, 0, none⟩), .int .i64 op, .int .u64 key, .int .u64 val] w fun e w' => e = .returned (.agg #[.int .i64 r.1, .bool r.2.1, .int .u64 r.2.2.1, .bool r.2.2.2.1, .int .u64 r.2.2.2.2.1, .int .u64 r.2.2.2.2.2]) ∧ Upd (MapS m kind cap al (ss.set i s')) T w w' := by
  have hk : decide (kind = 1) = false := by rw [← G.bd _ (List.getElem_mem h1), hai]; rfl
  have HD := Lib.hid (show shP false cap ss[i] op key val = (r, s') by rw [← hk]; exact hd)
  have HG := Lib.hid (show SGood false cap ss[i] by rw [← hk]; exact G.good _ (List.getElem_mem h2))
  have HOF := Lib.hid (show ∀ w, Calls Try.prog 15 #[.int .u64 key, .int .i64 (al.length : Int)] w fun e w' => e = .returned (.int .i64 (i : Int)) ∧ w = w' from fun w => by rw [← hi]; exact of_any key al.length w (by have := G.n4; omega))
  obtain ⟨v, hV⟩ := hT.named
  obtain ⟨sb, off, c, rfl⟩ := hV.shape (by omega)
  obtain ⟨c0, c1⟩ := hV.slot h1
  have HAT := Lib.hid (show ∀ A w, MapV m kind cap (.slice (some ⟨sb, off, none⟩) al.length c) al ss A w → ∃ B, ShardS (.plain b) cap ss[i] B w ∧ ∀ s' w', Upd (ShardS (.plain b) cap s') B w w' → Upd (MapV m kind cap (.slice (some ⟨sb, off, none⟩) al.length c) al (ss.set i s')) A w w' from fun A w h => by
    have := h.at G.len i h1 h2
    rwa [hai] at this)
  rw [hai] at c1
  replace c1 : w.cell? ⟨sb, off + i, none⟩ = some (.iface 67 (.pointer (some ⟨b, 0, none⟩))) := c1
  have hcm := cm_book_do b op key val
  have hi0 : (0 : Int) ≤ (i : Int) := by omega
  have hi1 : (i : Int) < (al.length : Int) := by omega
  have HU := Lib.hid ((Upd.start MapV.framed hV).loc MapV.framed (resO 0 false 0 false 0 0))
  have HKP := Lib.hid (show ∀ L W, Upd (Sep (MapV m kind cap (.slice (some ⟨sb, off, none⟩) al.length c) al (ss.set i s')) (Locs L)) T w W → W.cell? ⟨m, 2, none⟩ = some (.slice (some ⟨sb, off, none⟩) al.length c) ∧ W.cell? ⟨sb, off + i, none⟩ = some (.iface 67 (.pointer (some ⟨b, 0, none⟩))) from fun L W h => by
    obtain ⟨_, h⟩ := h.getL
    have := h.slot h1
    rwa [hai] at this)
  have HKQ := Lib.hid (show ∀ W, Upd (Sep (MapV m kind cap (.slice (some ⟨sb, off, none⟩) al.length c) al (ss.set i s')) (Locs [])) T w W → W.cell? ⟨m, 2, none⟩ = some (.slice (some ⟨sb, off, none⟩) al.length c) ∧ W.cell? ⟨sb, off + i, none⟩ = some (.iface 67 (.pointer (some ⟨b, 0, none⟩))) from HKP.out [])
  clear hT hV G hi hd hai hk
  go_enter Try.func20, Try.ntmps20
  go_wp2_with fail
  generalize w.heap.size = rb at *
  have d0 : (w.alloc (resO 0 false 0 false 0 0)).cell? ⟨m, 2, none⟩ = some (.slice (some ⟨sb, off, none⟩) al.length c) := only_cell (Only.alloc _ _ _) c0
  have d1 : (w.alloc (resO 0 false 0 false 0 0)).cell? ⟨sb, off + i, none⟩ = some (.iface 67 (.pointer (some ⟨b, 0, none⟩))) := only_cell (Only.alloc _ _ _) c1
  clear c0 c1
  generalize World.alloc w _ = wa at *
  refine wp_region_held_drew (S := fun W => W.cell? ⟨m, 2, none⟩ = some (.slice (some ⟨sb, off, none⟩) al.length c) ∧ W.cell? ⟨sb, off + i, none⟩ = some (.iface 67 (.pointer (some ⟨b, 0, none⟩)))) (by kernel_rfl) ?_ (fun hHeld => ?_)
  · exact ⟨d0, d1⟩
  try simp only [Act.put, List.getElem_toArray, List.getElem_cons_succ, List.getElem_cons_zero, List.setIfInBounds_toArray, List.set_cons_zero, List.set_cons_succ]
  refine wpAnyH_take (i := 0) (v := ?vp0) rfl (by kernel_rfl) (by kernel_rfl) (by kernel_rfl) (fun _ _ _ h => h) (Or.inl ⟨by rfl, ?hyp0⟩) (by assumption) ?restp0
  case hyp0 =>
    intro w hSw
    try dsimp only at hSw
    go_simp
    all_goals with_reducible rfl
  simp only [Act.put, List.getElem_toArray, List.getElem_cons_succ, List.getElem_cons_zero, List.setIfInBounds_toArray, List.set_cons_zero, List.set_cons_succ]
  refine wpAnyH_take (i := 1) (v := ?vp1) rfl (by kernel_rfl) (by kernel_rfl) (by kernel_rfl) (fun _ _ _ h => h) (Or.inl ⟨by rfl, ?hyp1⟩) (by assumption) ?restp1
  case hyp1 =>
    intro w hSw
    try dsimp only at hSw
    go_simp
    all_goals with_reducible rfl
  simp only [Act.put, List.getElem_toArray, List.getElem_cons_succ, List.getElem_cons_zero, List.setIfInBounds_toArray, List.set_cons_zero, List.set_cons_succ]
  refine wpAnyH_take (i := 2) (v := ?vp2) rfl (by kernel_rfl) (by kernel_rfl) (by kernel_rfl) (fun _ _ _ h => h) (Or.inl ⟨by rfl, ?hyp2⟩) (by assumption) ?restp2
  case hyp2 =>
    intro w hSw
    try dsimp only at hSw
    go_simp
    all_goals with_reducible rfl
  simp only [Act.put, List.getElem_toArray, List.getElem_cons_succ, List.getElem_cons_zero, List.setIfInBounds_toArray, List.set_cons_zero, List.set_cons_succ]
  refine wpAnyH_take (i := 3) (v := ?vp3) rfl (by kernel_rfl) (by kernel_rfl) (by kernel_rfl) (fun _ _ _ h => h) (Or.inl ⟨by rfl, ?hyp3⟩) (by assumption) ?restp3
  case hyp3 =>
    intro w hSw
    try dsimp only at hSw
    go_simp
    all_goals with_reducible rfl
  simp only [Act.put, List.getElem_toArray, List.getElem_cons_succ, List.getElem_cons_zero, List.setIfInBounds_toArray, List.set_cons_zero, List.set_cons_succ]
  refine wpAnyH_take (i := 4) (v := ?vp4) rfl (by kernel_rfl) (by kernel_rfl) (by kernel_rfl) (fun _ _ _ h => h) (Or.inl ⟨by rfl, ?hyp4⟩) (by assumption) ?restp4
  case hyp4 =>
    intro w hSw
    try dsimp only at hSw
    go_simp
    all_goals with_reducible rfl
  simp only [Act.put, List.getElem_toArray, List.getElem_cons_succ, List.getElem_cons_zero, List.setIfInBounds_toArray, List.set_cons_zero, List.set_cons_succ]
  refine wpAnyH_take (i := 5) (v := ?vp5) rfl (by kernel_rfl) (by kernel_rfl) (by kernel_rfl) (fun _ _ _ h => h) (Or.inl ⟨by rfl, ?hyp5⟩) (by assumption) ?restp5
  case hyp5 =>
    intro w hSw
    try dsimp only at hSw
    go_simp
    all_goals with_reducible rfl
  simp only [Act.put, List.getElem_toArray, List.getElem_cons_succ, List.getElem_cons_zero, List.setIfInBounds_toArray, List.set_cons_zero, List.set_cons_succ]
  refine wpAnyH_take (i := 6) (v := ?vp6) rfl (by kernel_rfl) (by kernel_rfl) (by kernel_rfl) (fun _ _ _ h => h) (Or.inl ⟨by rfl, ?hyp6⟩) (by assumption) ?restp6
  case hyp6 =>
    intro w hSw
    try dsimp only at hSw
    go_simp
    all_goals with_reducible rfl
  simp only [Act.put, List.getElem_toArray, List.getElem_cons_succ, List.getElem_cons_zero, List.setIfInBounds_toArray, List.set_cons_zero, List.set_cons_succ]
  refine wpAnyH_take (i := 7) (v := ?vp7) rfl (by kernel_rfl) (by kernel_rfl) (by kernel_rfl) (fun _ _ _ h => h) (Or.inl ⟨by rfl, ?hyp7⟩) (by assumption) ?restp7
  case hyp7 =>
    intro w hSw
    try dsimp only at hSw
    go_simp
    all_goals with_reducible rfl
  simp only [Act.put, List.getElem_toArray, List.getElem_cons_succ, List.getElem_cons_zero, List.setIfInBounds_toArray, List.set_cons_zero, List.set_cons_succ]
  refine wpAnyH_take (i := 8) (v := ?vp8) rfl (by kernel_rfl) (by kernel_rfl) (by kernel_rfl) (fun _ _ _ h => h) (Or.inl ⟨by rfl, ?hyp8⟩) (by assumption) ?restp8
  case hyp8 =>
    intro w hSw
    try dsimp only at hSw
    go_simp
    all_goals with_reducible rfl
  simp only [Act.put, List.getElem_toArray, List.getElem_cons_succ, List.getElem_cons_zero, List.setIfInBounds_toArray, List.set_cons_zero, List.set_cons_succ]
  refine wpAnyH_take (i := 9) (v := ?vp9) rfl (by kernel_rfl) (by kernel_rfl) (by kernel_rfl) (fun _ _ _ h => h) (Or.inl ⟨by rfl, ?hyp9⟩) (by assumption) ?restp9
  case hyp9 =>
    intro w hSw
    try dsimp only at hSw
    go_simp
    all_goals with_reducible rfl
  simp only [Act.put, List.getElem_toArray, List.getElem_cons_succ, List.getElem_cons_zero, List.setIfInBounds_toArray, List.set_cons_zero, List.set_cons_succ]
  refine wpAnyH_take (i := 13) (v := ?vp13) rfl (by kernel_rfl) (by kernel_rfl) (by kernel_rfl) (fun _ _ _ h => h) (Or.inl ⟨by rfl, ?hyp13⟩) (by assumption) ?restp13
  case hyp13 =>
    intro w hSw
    try dsimp only at hSw
    go_simp
    all_goals with_reducible rfl
  simp only [Act.put, List.getElem_toArray, List.getElem_cons_succ, List.getElem_cons_zero, List.setIfInBounds_toArray, List.set_cons_zero, List.set_cons_succ]
  refine wpAnyH_take (i := 14) (v := ?vp14) rfl (by kernel_rfl) (by kernel_rfl) (by kernel_rfl) (fun _ _ _ h => h) (Or.inl ⟨by rfl, ?hyp14⟩) (by assumption) ?restp14
  case hyp14 =>
    intro w hSw
    try dsimp only at hSw
    go_simp
    all_goals with_reducible rfl
  simp only [Act.put, List.getElem_toArray, List.getElem_cons_succ, List.getElem_cons_zero, List.setIfInBounds_toArray, List.set_cons_zero, List.set_cons_succ]
  refine wpAnyH_take (i := 15) (v := ?vp15) rfl (by kernel_rfl) (by kernel_rfl) (by kernel_rfl) (fun _ _ _ h => h) (Or.inl ⟨by rfl, ?hyp15⟩) (by assumption) ?restp15
  case hyp15 =>
    intro w hSw
    try dsimp only at hSw
    go_simp
    all_goals with_reducible rfl
  simp only [Act.put, List.getElem_toArray, List.getElem_cons_succ, List.getElem_cons_zero, List.setIfInBounds_toArray, List.set_cons_zero, List.set_cons_succ]
  refine wpAnyH_ready (rs := [10]) (by kernel_rfl) (by simp) ?_
  refine AllReadyH.cons rfl (fun K hK => ?_) AllReadyH.nil
  go_simp
  refine (HOF.out _).mono ?_
  rintro e wo ⟨rfl, rfl⟩
  try go_wp2_with fail
  refine hK.out _ _ ?_ (fun hHeld => ?_)
  · exact hHeld
  clear hK K
  try simp only [Act.put, List.getElem_toArray, List.getElem_cons_succ, List.getElem_cons_zero, List.setIfInBounds_toArray, List.set_cons_zero, List.set_cons_succ]
  refine wpAnyH_take (i := 11) (v := ?vp11) rfl (by kernel_rfl) (by kernel_rfl) (by kernel_rfl) (fun _ _ _ h => h) (Or.inl ⟨by rfl, ?hyp11⟩) (by assumption) ?restp11
  case hyp11 =>
    intro w hSw
    try dsimp only at hSw
    go_simp
    all_goals with_reducible rfl
  simp only [Act.put, List.getElem_toArray, List.getElem_cons_succ, List.getElem_cons_zero, List.setIfInBounds_toArray, List.set_cons_zero, List.set_cons_succ]
  refine wpAnyH_take (i := 12) (v := ?vp12) rfl (by kernel_rfl) (by kernel_rfl) (by kernel_rfl) (fun _ _ _ h => h) (Or.inl ⟨by rfl, ?hyp12⟩) (by assumption) ?restp12
  case hyp12 =>
    intro w hSw
    try dsimp only at hSw
    go_simp
    all_goals with_reducible rfl
  simp only [Act.put, List.getElem_toArray, List.getElem_cons_succ, List.getElem_cons_zero, List.setIfInBounds_toArray, List.set_cons_zero, List.set_cons_succ]
  refine wpAnyH_ready (rs := [16]) (by kernel_rfl) (by simp) ?_
  refine AllReadyH.cons rfl (fun K hK => ?_) AllReadyH.nil
  go_simp
  refine ((HU.out.drewU (Sep.framed MapV.framed Locs.framed)).via Locs.framed (P' := MapV m kind cap (.slice (some ⟨sb, off, none⟩) al.length c) al (ss.set i s')) MapV.framed fun A hA => by
    obtain ⟨B, hB, hb⟩ := HAT.out A _ hA
    exact (shDo_plain hB HG.out HD.out).mono fun e w' ⟨he, hu⟩ => ⟨he, hb _ _ hu⟩).mono ?_
  rintro e w1 ⟨rfl, hU1⟩
  have H8 := Lib.hid (hU1.get (g := rb) (List.mem_cons_self ..))
  have HU1 := Lib.hid hU1
  have e0 := HKP.out _ _ HU1.out
  clear hU1
  try go_wp2_with fail
  refine hK.out _ _ ?_ (fun hHeld => ?_)
  · exact e0
  clear hK K
  try simp only [Act.put, List.getElem_toArray, List.getElem_cons_succ, List.getElem_cons_zero, List.setIfInBounds_toArray, List.set_cons_zero, List.set_cons_succ]
  clear hHeld e0
  refine wpAnyH_ready (rs := [17]) (by kernel_rfl) (by simp) ?_
  refine AllReadyH.cons rfl (fun K hK => ?_) AllReadyH.nil
  rw [if_pos (by rfl)]
  refine wp_store_row 38 (.tmp 8) (.tmp 25) rfl rb #[Value.int .i64 r.1, .bool r.2.1, .int .u64 r.2.2.1, .bool r.2.2.2.1, .int .u64 r.2.2.2.2.1, .int .u64 r.2.2.2.2.2] rfl rfl 38 _ H8.out (by kernel_rfl) rfl (res_one _ _ _ _ _ _) ?_
  have HU2 := Lib.hid (HU1.out.locs MapV.framed (M := []) ((only_setRow _ rb #[Value.int .i64 r.1, .bool r.2.1, .int .u64 r.2.2.1, .bool r.2.2.2.1, .int .u64 r.2.2.2.2.1, .int .u64 r.2.2.2.2.2]).mono fun j _ e => ⟨_, List.mem_cons_self .., e.symm⟩) (fun p hp => by simp at hp))
  have e1 := HKQ.out _ HU2.out
  refine hK.out _ _ e1 (fun hHeld => ?_)
  clear hK K
  try simp only [Act.put, List.getElem_toArray, List.getElem_cons_succ, List.getElem_cons_zero, List.setIfInBounds_toArray, List.set_cons_zero, List.set_cons_succ]
  refine wpAnyH_done (by kernel_rfl) ?_ _
  go_wp2_with fail
  refine bodyPost_ret (results_cell_row rfl _ _ rb _ _ _ _ rfl (setRow_heap _ _ _ _ _ _ H8.out) Try.underlying38 rfl (by kernel_rfl)) rfl ?_
  exact ⟨rfl, (HU2.out.drop MapV.framed).imp fun _ h => h.plain⟩
set_option maxRecDepth 100000 in
set_option maxHeartbeats 4000000 in
theorem cmapDo_bound {m : Nat} {kind cap : Int} {al : List ShA} {ss : List Sh} {T : Nat → Prop} {w : World} (hT : MapS m kind cap al ss T w) (G : MGood kind cap al ss) {i : Nat} {op key val : Int} (hi : ofS key al.length = i) (h1 : i < al.length) (h2 : i < ss.length) {r : ResD} {s' : Sh} (hd : shP (decide (kind = 1)) cap ss[i] op key val = (r, s')) {g b : Nat} (hai : al[i] = .bound g b) :
    Calls Try.prog 20 #[.pointer (some ⟨m, 0, none⟩), .int .i64 op, .int .u64 key, .int .u64 val] w fun e w' => e = .returned (.agg #[.int .i64 r.1, .bool r.2.1, .int .u64 r.2.2.1, .bool r.2.2.2.1, .int .u64 r.2.2.2.2.1, .int .u64 r.2.2.2.2.2]) ∧ Upd (MapS m kind cap al (ss.set i s')) T w w' := by
  have hk : decide (kind = 1) = true := by rw [← G.bd _ (List.getElem_mem h1), hai]; rfl
  have HD := Lib.hid (show shP true cap ss[i] op key val = (r, s') by rw [← hk]; exact hd)
  have HG := Lib.hid (show SGood true cap ss[i] by rw [← hk]; exact G.good _ (List.getElem_mem h2))
  have HOF := Lib.hid (show ∀ w, Calls Try.prog 15 #[.int .u64 key, .int .i64 (al.length : Int)] w fun e w' => e = .returned (.int .i64 (i : Int)) ∧ w = w' from fun w => by rw [← hi]; exact of_any key al.length w (by have := G.n4; omega))
  obtain ⟨v, hV⟩ := hT.named
  obtain ⟨sb, off, c, rfl⟩ := hV.shape (by omega)
  obtain ⟨c0, c1⟩ := hV.slot h1
  have HAT := Lib.hid (show ∀ A w, MapV m kind cap (.slice (some ⟨sb, off, none⟩) al.length c) al ss A w → ∃ B, ShardS (.bound g b) cap ss[i] B w ∧ ∀ s' w', Upd (ShardS (.bound g b) cap s') B w w' → Upd (MapV m kind cap (.slice (some ⟨sb, off, none⟩) al.length c) al (ss.set i s')) A w w' from fun A w h => by
    have := h.at G.len i h1 h2
    rwa [hai] at this)
  rw [hai] at c1
  replace c1 : w.cell? ⟨sb, off + i, none⟩ = some (.iface 70 (.pointer (some ⟨g, 0, none⟩))) := c1
  have hcm := cm_lru_do g op key val
  have hi0 : (0 : Int) ≤ (i : Int) := by omega
  have hi1 : (i : Int) < (al.length : Int) := by omega
  have HU := Lib.hid ((Upd.start MapV.framed hV).loc MapV.framed (resO 0 false 0 false 0 0))
  have HKP := Lib.hid (show ∀ L W, Upd (Sep (MapV m kind cap (.slice (some ⟨sb, off, none⟩) al.length c) al (ss.set i s')) (Locs L)) T w W → W.cell? ⟨m, 2, none⟩ = some (.slice (some ⟨sb, off, none⟩) al.length c) ∧ W.cell? ⟨sb, off + i, none⟩ = some (.iface 70 (.pointer (some ⟨g, 0, none⟩))) from fun L W h => by
    obtain ⟨_, h⟩ := h.getL
    have := h.slot h1
    rwa [hai] at this)
  have HKQ := Lib.hid (show ∀ W, Upd (Sep (MapV m kind cap (.slice (some ⟨sb, off, none⟩) al.length c) al (ss.set i s')) (Locs [])) T w W → W.cell? ⟨m, 2, none⟩ = some (.slice (some ⟨sb, off, none⟩) al.length c) ∧ W.cell? ⟨sb, off + i, none⟩ = some (.iface 70 (.pointer (some ⟨g, 0, none⟩))) from HKP.out [])
  clear hT hV G hi hd hai hk
  go_enter Try.func20, Try.ntmps20
  go_wp2_with fail
  generalize w.heap.size = rb at *
  have d0 : (w.alloc (resO 0 false 0 false 0 0)).cell? ⟨m, 2, none⟩ = some (.slice (some ⟨sb, off, none⟩) al.length c) := only_cell (Only.alloc _ _ _) c0
  have d1 : (w.alloc (resO 0 false 0 false 0 0)).cell? ⟨sb, off + i, none⟩ = some (.iface 70 (.pointer (some ⟨g, 0, none⟩))) := only_cell (Only.alloc _ _ _) c1
  clear c0 c1
  generalize World.alloc w _ = wa at *
  refine wp_region_held_drew (S := fun W => W.cell? ⟨m, 2, none⟩ = some (.slice (some ⟨sb, off, none⟩) al.length c) ∧ W.cell? ⟨sb, off + i, none⟩ = some (.iface 70 (.pointer (some ⟨g, 0, none⟩)))) (by kernel_rfl) ?_ (fun hHeld => ?_)
  · exact ⟨d0, d1⟩
  try simp only [Act.put, List.getElem_toArray, List.getElem_cons_succ, List.getElem_cons_zero, List.setIfInBounds_toArray, List.set_cons_zero, List.set_cons_succ]
  refine wpAnyH_take (i := 0) (v := ?vb0) rfl (by kernel_rfl) (by kernel_rfl) (by kernel_rfl) (fun _ _ _ h => h) (Or.inl ⟨by rfl, ?hyb0⟩) (by assumption) ?restb0
  case hyb0 =>
    intro w hSw
    try dsimp only at hSw
    go_simp
    all_goals with_reducible rfl
  simp only [Act.put, List.getElem_toArray, List.getElem_cons_succ, List.getElem_cons_zero, List.setIfInBounds_toArray, List.set_cons_zero, List.set_cons_succ]
  refine wpAnyH_take (i := 1) (v := ?vb1) rfl (by kernel_rfl) (by kernel_rfl) (by kernel_rfl) (fun _ _ _ h => h) (Or.inl ⟨by rfl, ?hyb1⟩) (by assumption) ?restb1
  case hyb1 =>
    intro w hSw
    try dsimp only at hSw
    go_simp
    all_goals with_reducible rfl
  simp only [Act.put, List.getElem_toArray, List.getElem_cons_succ, List.getElem_cons_zero, List.setIfInBounds_toArray, List.set_cons_zero, List.set_cons_succ]
  refine wpAnyH_take (i := 2) (v := ?vb2) rfl (by kernel_rfl) (by kernel_rfl) (by kernel_rfl) (fun _ _ _ h => h) (Or.inl ⟨by rfl, ?hyb2⟩) (by assumption) ?restb2
  case hyb2 =>
    intro w hSw
    try dsimp only at hSw
    go_simp
    all_goals with_reducible rfl
  simp only [Act.put, List.getElem_toArray, List.getElem_cons_succ, List.getElem_cons_zero, List.setIfInBounds_toArray, List.set_cons_zero, List.set_cons_succ]
  refine wpAnyH_take (i := 3) (v := ?vb3) rfl (by kernel_rfl) (by kernel_rfl) (by kernel_rfl) (fun _ _ _ h => h) (Or.inl ⟨by rfl, ?hyb3⟩) (by assumption) ?restb3
  case hyb3 =>
    intro w hSw
    try dsimp only at hSw
    go_simp
    all_goals with_reducible rfl
  simp only [Act.put, List.getElem_toArray, List.getElem_cons_succ, List.getElem_cons_zero, List.setIfInBounds_toArray, List.set_cons_zero, List.set_cons_succ]
  refine wpAnyH_take (i := 4) (v := ?vb4) rfl (by kernel_rfl) (by kernel_rfl) (by kernel_rfl) (fun _ _ _ h => h) (Or.inl ⟨by rfl, ?hyb4⟩) (by assumption) ?restb4
  case hyb4 =>
    intro w hSw
    try dsimp only at hSw
    go_simp
    all_goals with_reducible rfl
  simp only [Act.put, List.getElem_toArray, List.getElem_cons_succ, List.getElem_cons_zero, List.setIfInBounds_toArray, List.set_cons_zero, List.set_cons_succ]
  refine wpAnyH_take (i := 5) (v := ?vb5) rfl (by kernel_rfl) (by kernel_rfl) (by kernel_rfl) (fun _ _ _ h => h) (Or.inl ⟨by rfl, ?hyb5⟩) (by assumption) ?restb5
  case hyb5 =>
    intro w hSw
    try dsimp only at hSw
    go_simp
    all_goals with_reducible rfl
  simp only [Act.put, List.getElem_toArray, List.getElem_cons_succ, List.getElem_cons_zero, List.setIfInBounds_toArray, List.set_cons_zero, List.set_cons_succ]
  refine wpAnyH_take (i := 6) (v := ?vb6) rfl (by kernel_rfl) (by kernel_rfl) (by kernel_rfl) (fun _ _ _ h => h) (Or.inl ⟨by rfl, ?hyb6⟩) (by assumption) ?restb6
  case hyb6 =>
    intro w hSw
    try dsimp only at hSw
    go_simp
    all_goals with_reducible rfl
  simp only [Act.put, List.getElem_toArray, List.getElem_cons_succ, List.getElem_cons_zero, List.setIfInBounds_toArray, List.set_cons_zero, List.set_cons_succ]
  refine wpAnyH_take (i := 7) (v := ?vb7) rfl (by kernel_rfl) (by kernel_rfl) (by kernel_rfl) (fun _ _ _ h => h) (Or.inl ⟨by rfl, ?hyb7⟩) (by assumption) ?restb7
  case hyb7 =>
    intro w hSw
    try dsimp only at hSw
    go_simp
    all_goals with_reducible rfl
  simp only [Act.put, List.getElem_toArray, List.getElem_cons_succ, List.getElem_cons_zero, List.setIfInBounds_toArray, List.set_cons_zero, List.set_cons_succ]
  refine wpAnyH_take (i := 8) (v := ?vb8) rfl (by kernel_rfl) (by kernel_rfl) (by kernel_rfl) (fun _ _ _ h => h) (Or.inl ⟨by rfl, ?hyb8⟩) (by assumption) ?restb8
  case hyb8 =>
    intro w hSw
    try dsimp only at hSw
    go_simp
    all_goals with_reducible rfl
  simp only [Act.put, List.getElem_toArray, List.getElem_cons_succ, List.getElem_cons_zero, List.setIfInBounds_toArray, List.set_cons_zero, List.set_cons_succ]
  refine wpAnyH_take (i := 9) (v := ?vb9) rfl (by kernel_rfl) (by kernel_rfl) (by kernel_rfl) (fun _ _ _ h => h) (Or.inl ⟨by rfl, ?hyb9⟩) (by assumption) ?restb9
  case hyb9 =>
    intro w hSw
    try dsimp only at hSw
    go_simp
    all_goals with_reducible rfl
  simp only [Act.put, List.getElem_toArray, List.getElem_cons_succ, List.getElem_cons_zero, List.setIfInBounds_toArray, List.set_cons_zero, List.set_cons_succ]
  refine wpAnyH_take (i := 13) (v := ?vb13) rfl (by kernel_rfl) (by kernel_rfl) (by kernel_rfl) (fun _ _ _ h => h) (Or.inl ⟨by rfl, ?hyb13⟩) (by assumption) ?restb13
  case hyb13 =>
    intro w hSw
    try dsimp only at hSw
    go_simp
    all_goals with_reducible rfl
  simp only [Act.put, List.getElem_toArray, List.getElem_cons_succ, List.getElem_cons_zero, List.setIfInBounds_toArray, List.set_cons_zero, List.set_cons_succ]
  refine wpAnyH_take (i := 14) (v := ?vb14) rfl (by kernel_rfl) (by kernel_rfl) (by kernel_rfl) (fun _ _ _ h => h) (Or.inl ⟨by rfl, ?hyb14⟩) (by assumption) ?restb14
  case hyb14 =>
    intro w hSw
    try dsimp only at hSw
    go_simp
    all_goals with_reducible rfl
  simp only [Act.put, List.getElem_toArray, List.getElem_cons_succ, List.getElem_cons_zero, List.setIfInBounds_toArray, List.set_cons_zero, List.set_cons_succ]
  refine wpAnyH_take (i := 15) (v := ?vb15) rfl (by kernel_rfl) (by kernel_rfl) (by kernel_rfl) (fun _ _ _ h => h) (Or.inl ⟨by rfl, ?hyb15⟩) (by assumption) ?restb15
  case hyb15 =>
    intro w hSw
    try dsimp only at hSw
    go_simp
    all_goals with_reducible rfl
  simp only [Act.put, List.getElem_toArray, List.getElem_cons_succ, List.getElem_cons_zero, List.setIfInBounds_toArray, List.set_cons_zero, List.set_cons_succ]
  refine wpAnyH_ready (rs := [10]) (by kernel_rfl) (by simp) ?_
  refine AllReadyH.cons rfl (fun K hK => ?_) AllReadyH.nil
  go_simp
  refine (HOF.out _).mono ?_
  rintro e wo ⟨rfl, rfl⟩
  try go_wp2_with fail
  refine hK.out _ _ ?_ (fun hHeld => ?_)
  · exact hHeld
  clear hK K
  try simp only [Act.put, List.getElem_toArray, List.getElem_cons_succ, List.getElem_cons_zero, List.setIfInBounds_toArray, List.set_cons_zero, List.set_cons_succ]
  refine wpAnyH_take (i := 11) (v := ?vb11) rfl (by kernel_rfl) (by kernel_rfl) (by kernel_rfl) (fun _ _ _ h => h) (Or.inl ⟨by rfl, ?hyb11⟩) (by assumption) ?restb11
  case hyb11 =>
    intro w hSw
    try dsimp only at hSw
    go_simp
    all_goals with_reducible rfl
  simp only [Act.put, List.getElem_toArray, List.getElem_cons_succ, List.getElem_cons_zero, List.setIfInBounds_toArray, List.set_cons_zero, List.set_cons_succ]
  refine wpAnyH_take (i := 12) (v := ?vb12) rfl (by kernel_rfl) (by kernel_rfl) (by kernel_rfl) (fun _ _ _ h => h) (Or.inl ⟨by rfl, ?hyb12⟩) (by assumption) ?restb12
  case hyb12 =>
    intro w hSw
    try dsimp only at hSw
    go_simp
    all_goals with_reducible rfl
  simp only [Act.put, List.getElem_toArray, List.getElem_cons_succ, List.getElem_cons_zero, List.setIfInBounds_toArray, List.set_cons_zero, List.set_cons_succ]
  refine wpAnyH_ready (rs := [16]) (by kernel_rfl) (by simp) ?_
  refine AllReadyH.cons rfl (fun K hK => ?_) AllReadyH.nil
  go_simp
  refine ((HU.out.drewU (Sep.framed MapV.framed Locs.framed)).via Locs.framed (P' := MapV m kind cap (.slice (some ⟨sb, off, none⟩) al.length c) al (ss.set i s')) MapV.framed fun A hA => by
    obtain ⟨B, hB, hb⟩ := HAT.out A _ hA
    exact (shDo_bound hB HG.out HD.out).mono fun e w' ⟨he, hu⟩ => ⟨he, hb _ _ hu⟩).mono ?_
  rintro e w1 ⟨rfl, hU1⟩
  have H8 := Lib.hid (hU1.get (g := rb) (List.mem_cons_self ..))
  have HU1 := Lib.hid hU1
  have e0 := HKP.out _ _ HU1.out
  clear hU1
  try go_wp2_with fail
  refine hK.out _ _ ?_ (fun hHeld => ?_)
  · exact e0
  clear hK K
  try simp only [Act.put, List.getElem_toArray, List.getElem_cons_succ, List.getElem_cons_zero, List.setIfInBounds_toArray, List.set_cons_zero, List.set_cons_succ]
  clear hHeld e0
  refine wpAnyH_ready (rs := [17]) (by kernel_rfl) (by simp) ?_
  refine AllReadyH.cons rfl (fun K hK => ?_) AllReadyH.nil
  rw [if_pos (by rfl)]
  refine wp_store_row 38 (.tmp 8) (.tmp 25) rfl rb #[Value.int .i64 r.1, .bool r.2.1, .int .u64 r.2.2.1, .bool r.2.2.2.1, .int .u64 r.2.2.2.2.1, .int .u64 r.2.2.2.2.2] rfl rfl 38 _ H8.out (by kernel_rfl) rfl (res_one _ _ _ _ _ _) ?_
  have HU2 := Lib.hid (HU1.out.locs MapV.framed (M := []) ((only_setRow _ rb #[Value.int .i64 r.1, .bool r.2.1, .int .u64 r.2.2.1, .bool r.2.2.2.1, .int .u64 r.2.2.2.2.1, .int .u64 r.2.2.2.2.2]).mono fun j _ e => ⟨_, List.mem_cons_self .., e.symm⟩) (fun p hp => by simp at hp))
  have e1 := HKQ.out _ HU2.out
  refine hK.out _ _ e1 (fun hHeld => ?_)
  clear hK K
  try simp only [Act.put, List.getElem_toArray, List.getElem_cons_succ, List.getElem_cons_zero, List.setIfInBounds_toArray, List.set_cons_zero, List.set_cons_succ]
  refine wpAnyH_done (by kernel_rfl) ?_ _
  go_wp2_with fail
  refine bodyPost_ret (results_cell_row rfl _ _ rb _ _ _ _ rfl (setRow_heap _ _ _ _ _ _ H8.out) Try.underlying38 rfl (by kernel_rfl)) rfl ?_
  exact ⟨rfl, (HU2.out.drop MapV.framed).imp fun _ h => h.plain⟩

theorem cmapDo_ {m : Nat} {kind cap : Int} {al : List ShA} {ss : List Sh} {T : Nat → Prop} {w : World} (hT : MapS m kind cap al ss T w) (G : MGood kind cap al ss) {i : Nat} {op key val : Int} (hi : ofS key al.length = i) (h2 : i < ss.length) {r : ResD} {s' : Sh} (hd : shP (decide (kind = 1)) cap ss[i] op key val = (r, s')) :
    Calls Try.prog 20 #[.pointer (some ⟨m, 0, none⟩), .int .i64 op, .int .u64 key, .int .u64 val] w fun e w' => e = .returned (.agg #[.int .i64 r.1, .bool r.2.1, .int .u64 r.2.2.1, .bool r.2.2.2.1, .int .u64 r.2.2.2.2.1, .int .u64 r.2.2.2.2.2]) ∧ Upd (MapS m kind cap al (ss.set i s')) T w w' := by
  have h1 : i < al.length := by rw [G.len]; exact h2
  cases h : al[i] with
  | plain b => exact cmapDo_plain hT G hi h1 h2 hd h
  | bound g b => exact cmapDo_bound hT G hi h1 h2 hd h
theorem MGood.set {kind cap : Int} {al : List ShA} {ss : List Sh} (G : MGood kind cap al ss) (i : Nat) {s' : Sh} (h : SGood (decide (kind = 1)) cap s') : MGood kind cap al (ss.set i s') := ⟨by rw [List.length_set]; exact G.len, G.n1, G.n4, G.bd, fun s hs => by
  rcases List.mem_or_eq_of_mem_set hs with hs | rfl
  · exact G.good _ hs
  · exact h⟩
theorem MGood.place {kind cap : Int} {al : List ShA} {ss : List Sh} (G : MGood kind cap al ss) (key : Int) : ∃ i : Nat, ofS key al.length = i ∧ i < ss.length := by
  have h1 := G.n1
  have h2 := G.len
  rcases ofS_range key al.length with ⟨h0, h | h⟩
  · exact ⟨(ofS key al.length).toNat, by omega, by omega⟩
  · omega
end Go.Proofs.Ythppleegiieneaa
