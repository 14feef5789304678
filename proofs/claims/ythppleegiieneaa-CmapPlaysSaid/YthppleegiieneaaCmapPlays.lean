/- The law CmapPlays: its walk. -/
import Derived.Test.YthppleegiieneaaCMapNewBad
import Derived.Test.YthppleegiieneaaCMapAwake
import Derived.Test.YthppleegiieneaaRefMapWalk
import Derived.Test.YthppleegiieneaaCmapPartsP
import Derived.Deep.RegionHeld3
namespace Go.Proofs.Ythppleegiieneaa
open Go.RowKit
set_option linter.unusedVariables false
set_option linter.unusedSimpArgs false

/-- the two maps after k operations -/
structure PSync (kind cap : Int) (al : List ShA) (rl : List RShA) (ss : List Sh) (rs : List RSt) (k : Nat) : Prop where
  a : MGood kind cap al ss
  r : RMGood kind cap rl rs
  m : rs.map (·.1) = ss
  c : ∀ x ∈ rs, x.2 ≤ (k : Int)
theorem PSync.next {kind cap : Int} {al : List ShA} {rl : List RShA} {ss : List Sh} {rs : List RSt} {k : Nat} (H : PSync kind cap al rl ss rs k) {op key val : Int} (hk0 : 0 ≤ key ∧ key ≤ 18446744073709551615) {r : ResD} {ss2 : List Sh} (hd : mDo kind cap ss op key val = (r, ss2)) :
    ∃ rs2, PSync kind cap al rl ss2 rs2 (k + 1) ∧ (k < 3000 → ∀ (m : Nat) (T : Nat → Prop) (w : World), RMapS m cap rl rs T w → Calls Try.prog 21 #[.pointer (some ⟨m, 0, none⟩), .int .i64 op, .int .u64 key, .int .u64 val] w fun e w' => e = .returned (.agg #[.int .i64 r.1, .bool r.2.1, .int .u64 r.2.2.1, .bool r.2.2.2.1, .int .u64 r.2.2.2.2.1, .int .u64 r.2.2.2.2.2]) ∧ Upd (RMapS m cap rl rs2) T w w') := by
  obtain ⟨i, hi, h2⟩ := H.a.place key
  have hls : rs.length = ss.length := by rw [← H.m, List.length_map]
  have h2r : i < rs.length := by omega
  have hla : al.length = rl.length := by rw [H.a.len, H.r.len, hls]
  have hg : rs[i].1 = ss[i] := by simp [← H.m]
  have hn : (ofS key ss.length).toNat = i := by rw [← H.a.len, hi]; rfl
  have he := List.getElem?_eq_getElem h2
  have hG2 := mDo_good H.a op key val
  rw [hd] at hG2
  have hd0 := hd
  unfold mDo at hd
  rw [hn, he] at hd
  simp only [Prod.mk.injEq] at hd
  obtain ⟨h3, h4⟩ := hd
  have hgs := sh_good (op := op) (k := key) (v := val) (H.a.good _ (List.getElem_mem h2))
  generalize hq : shP (decide (kind = 1)) cap ss[i] op key val = q at *
  obtain ⟨q1, q2⟩ := q
  dsimp only at h3 h4 hgs
  subst h3
  subst h4
  refine ⟨rs.set i (q2, rs[i].2 + 1), ⟨hG2, ⟨by rw [List.length_set]; exact H.r.len, H.r.n1, H.r.n4, H.r.bd, fun s hs => ?_⟩, ?_, fun x hx => ?_⟩, fun hk m T w hT => ?_⟩
  · rcases List.mem_or_eq_of_mem_set hs with hs | rfl
    · exact H.r.good _ hs
    · exact hgs
  · rw [List.map_set, H.m]
  · rcases List.mem_or_eq_of_mem_set hx with hx | rfl
    · have := H.c x hx; omega
    · have := H.c _ (List.getElem_mem h2r); simp only; omega
  · have hc := H.c _ (List.getElem_mem h2r)
    exact refMapDo_ hT H.r (by rw [← hla]; exact hi) h2r hk0.1 hk0.2 (by omega) (by rw [hg]; exact hq)
theorem refMapNewU {R : (Nat → Prop) → World → Prop} {S : Nat → Prop} {w0 w : World} {kind cap n : Int} (hR : Framed R) (h : Upd R S w0 w) (h1 : 1 ≤ n) (h2 : n ≤ 4) (hok : okDef kind cap = true) :
    Calls Try.prog 18 #[.agg #[.int .i64 kind, .int .i64 cap], .int .i64 n] w fun e w' => ∃ m, e = .returned (.tuple #[.pointer (some ⟨m, 0, none⟩), .int .i64 0]) ∧ ∃ al, RMGood kind cap al (List.replicate n.toNat (([], []), 0)) ∧ Upd (Sep (RMapS m cap al (List.replicate n.toNat (([], []), 0))) R) S w0 w' :=
  (h.callNew hR (Yx := fun m S w => ∃ al, RMGood kind cap al (List.replicate n.toNat (([], []), 0)) ∧ RMapS m cap al (List.replicate n.toNat (([], []), 0)) S w) (E := fun m e => e = .returned (.tuple #[.pointer (some ⟨m, 0, none⟩), .int .i64 0])) (fun _ => Framed.ex fun _ => Framed.and (Framed.pure _) RMapS.framed) (refMapNew_ok kind cap n w h1 h2 hok)).mono fun e w' ⟨m, he, hu⟩ => by
    obtain ⟨⟨A, B, hd, hA, hB, hp, al, G, hq⟩, ho⟩ := hu
    exact ⟨m, he, al, G, ⟨B, A, fun k h1 h2 => hd k h2 h1, hB, hA, hq, hp⟩, ho⟩
theorem awake_only (w : World) : Calls Try.prog 7 #[] w fun e w' => e = .returned (.bool true) ∧ Only (fun _ => False) w w' :=
  (awake_any w).mono fun e w' ⟨he, h⟩ => ⟨he, Only.of_below h fun k h1 h2 => by omega⟩
theorem def_start (kind cap : Int) (w : World) : Upd (Blk w.heap.size (defO kind cap)) (fun _ => False) w (w.alloc (defO kind cap)) := ⟨⟨heap_alloc_new _ _, .inr (Nat.le_refl _)⟩, Only.alloc _ _ _⟩
theorem def_cells {bd : Nat} {kind cap : Int} {S : Nat → Prop} {w W : World} (h : Upd (Blk bd (defO kind cap)) S w W) : W.cell? ⟨bd, 0, none⟩ = some (.int .i64 kind) ∧ W.cell? ⟨bd, 1, none⟩ = some (.int .i64 cap) := ⟨blk_cell h.1.1 0, blk_cell h.1.1 1⟩
theorem mk_cells {P Q : (Nat → Prop) → World → Prop} {bd : Nat} {kind cap : Int} {S : Nat → Prop} {w W : World} (h : Upd (Sep (Sep P Q) (Blk bd (defO kind cap))) S w W) : W.cell? ⟨bd, 0, none⟩ = some (.int .i64 kind) ∧ W.cell? ⟨bd, 1, none⟩ = some (.int .i64 cap) := by
  obtain ⟨_, h⟩ := h.getR
  exact ⟨blk_cell h.1 0, blk_cell h.1 1⟩
theorem it_cells {w : World} {b off : Nat} {xs : List ItemD} (hc : ∀ j u, (eItem.all xs)[j]? = some u → w.cell? ⟨b, off + j, none⟩ = some u) (k : Nat) (h : k < xs.length) :
    w.cell? ⟨b, off + k * 4 + 1, none⟩ = some (.int .i64 xs[k].2.1) ∧ w.cell? ⟨b, off + k * 4 + 2, none⟩ = some (.int .u64 xs[k].2.2.1) ∧ w.cell? ⟨b, off + k * 4 + 3, none⟩ = some (.int .u64 xs[k].2.2.2) := (it_cells4 hc k h).2
theorem cell_below {w w' : World} (h : Below w.heap.size w w') {a : Addr} {v : Value} (c : w.cell? a = some v) : w'.cell? a = some v :=
  only_cell (Only.of_below h fun k h1 h2 => by omega) c
set_option maxRecDepth 100000 in
set_option maxHeartbeats 4000000 in
theorem cmapPlays_bad (kind cap n : Int) (v : Value) (w : World) (h : ¬ ((1 ≤ n ∧ n ≤ 4) ∧ okDef kind cap = true)) :
    Calls Try.prog 5 #[.agg #[.int .i64 kind, .int .i64 cap], .int .i64 n, v] w fun e w' => e = .returned (.bool true) ∧ Below w.heap.size w w' := by
  have HH := Lib.hid h
  clear h
  go_enter Try.func5, Try.ntmps5
  go_wp2_with fail
  have HB := Lib.hid (def_start kind cap w)
  generalize World.alloc w _ = wa at *
  generalize w.heap.size = bd at *
  refine (HB.out.callRead Blk.framed (E := fun e => e = .returned (.bool true)) (awake_only wa)).mono ?_
  rintro e w1 ⟨rfl, hB1⟩
  have HB1 := Lib.hid hB1
  obtain ⟨c0, c1⟩ := def_cells hB1
  clear hB1 HB
  go_wp2_with fail
  refine (HB1.out.callRead Blk.framed (E := fun e => e = .returned (.tuple #[.pointer none, .int .i64 2])) (cmapNew_bad kind cap n w1 HH.out)).mono ?_
  rintro e w2 ⟨rfl, hB2⟩
  have HB2 := Lib.hid hB2
  obtain ⟨c0, c1⟩ := def_cells hB2
  clear hB2 HB1
  go_wp2_with fail
  refine (HB2.out.callRead Blk.framed (E := fun e => e = .returned (.tuple #[.pointer none, .int .i64 2])) (refMapNew_bad kind cap n w2 HH.out)).mono ?_
  rintro e w3 ⟨rfl, hB3⟩
  have HB3 := Lib.hid hB3
  clear hB3 HB2
  go_wp2_with fail
  go_ret
  exact ⟨rfl, St.below HB3.out⟩
set_option maxRecDepth 100000 in
set_option maxHeartbeats 40000000 in
theorem cmapPlays_yes (kind cap n : Int) (hn1 : 1 ≤ n) (hn4 : n ≤ 4) (hok : okDef kind cap = true) (ds : List ItemD) (hkey : ∀ x ∈ ds, 0 ≤ x.2.2.1 ∧ x.2.2.1 ≤ 18446744073709551615) (v : Value) (w : World) (hv : Rd eItem w v ds) :
    Calls Try.prog 5 #[.agg #[.int .i64 kind, .int .i64 cap], .int .i64 n, v] w fun e w' => e = .returned (.bool true) ∧ Below w.heap.size w w' := by
  obtain ⟨hmx, ao, c, rfl, hcap, _, _⟩ := id hv
  unfold maxLen at hmx
  have HV := Lib.hid hv
  have HOK := Lib.hid hok
  have HN1 := Lib.hid hn1
  have HN4 := Lib.hid hn4
  have HKEY := Lib.hid hkey
  clear hv hok hn1 hn4 hkey
  go_enter Try.func5, Try.ntmps5
  go_wp2_with fail
  have HB := Lib.hid (def_start kind cap w)
  generalize World.alloc w _ = wa at *
  generalize w.heap.size = bd at *
  refine (HB.out.callRead Blk.framed (E := fun e => e = .returned (.bool true)) (awake_only wa)).mono ?_
  rintro e w1 ⟨rfl, hB1⟩
  have HB1 := Lib.hid hB1
  obtain ⟨c0, c1⟩ := def_cells hB1
  clear hB1 HB
  go_wp2_with fail
  refine (cmapNewU Blk.framed HB1.out HN1.out HN4.out HOK.out).mono ?_
  rintro e w2 ⟨ma, rfl, al, G, hU⟩
  have HGA := Lib.hid G
  have HU2 := Lib.hid hU
  obtain ⟨_, hbk⟩ := hU.getR
  replace c0 : w2.cell? ⟨bd, 0, none⟩ = some (.int .i64 kind) := blk_cell hbk.1 0
  replace c1 : w2.cell? ⟨bd, 1, none⟩ = some (.int .i64 cap) := blk_cell hbk.1 1
  clear G hU hbk HB1
  go_wp2_with fail
  refine (refMapNewU (Sep.framed MapS.framed Blk.framed) HU2.out HN1.out HN4.out HOK.out).mono ?_
  rintro e w3 ⟨mr, rfl, rl, G, hU⟩
  have HB3 := Lib.hid (show Upd (Sep (Sep (MapS ma kind cap al (List.replicate n.toNat ([], []))) (RMapS mr cap rl (List.replicate n.toNat (([], []), 0)))) (Blk bd (defO kind cap))) (fun _ => False) w w3 from hU.imp fun _ h => h.turn.assoc')
  have HY0 := Lib.hid (show PSync kind cap al rl (List.replicate n.toNat ([], [])) (List.replicate n.toNat (([], []), 0)) 0 from ⟨HGA.out, G, by simp, fun x hx => by obtain ⟨_, rfl⟩ := List.mem_replicate.1 hx; exact Int.le_refl 0⟩)
  have HSL0 := Lib.hid (show ((List.replicate n.toNat (([], []) : Sh)).length : Int) = n by have := HN1.out; simp; omega)
  obtain ⟨c0, c1⟩ := mk_cells HB3.out
  clear G hU HU2 HGA
  have hq : ∀ w, (binOp .neq 24 (.agg #[.int .i64 kind, .int .i64 cap]) (.agg #[.int .i64 kind, .int .i64 cap])).run Try.prog w = .ok (.bool false) w := fun w => by
    have := eDef_neq (kind, cap) (kind, cap) w
    simpa using this
  generalize (List.replicate n.toNat (([], []) : Sh)) = ss0 at *
  generalize (List.replicate n.toNat ((([], []), 0) : RSt)) = rs0 at *
  go_wp2_with fail
  refine wp_region_noPanic ?_
  refine wp_region_held_drew (S := fun W => W.cell? ⟨bd, 0, none⟩ = some (.int .i64 kind) ∧ W.cell? ⟨bd, 1, none⟩ = some (.int .i64 cap)) (by kernel_rfl) ?_ (fun hHeld => ?_)
  · exact mk_cells (HB3.out.drewU (Sep.framed (Sep.framed MapS.framed RMapS.framed) Blk.framed))
  try simp only [Act.put, List.getElem_toArray, List.getElem_cons_succ, List.getElem_cons_zero, List.setIfInBounds_toArray, List.set_cons_zero, List.set_cons_succ]
  refine wpAnyH_take (i := 0) (v := ?vpa0) rfl (by kernel_rfl) (by kernel_rfl) (by kernel_rfl) (fun _ _ _ h => h) (Or.inl ⟨by rfl, ?hypa0⟩) (by assumption) ?restpa0
  case hypa0 =>
    intro w hSw
    try dsimp only at hSw
    go_simp
    all_goals with_reducible rfl
  simp only [Act.put, List.getElem_toArray, List.getElem_cons_succ, List.getElem_cons_zero, List.setIfInBounds_toArray, List.set_cons_zero, List.set_cons_succ]
  refine wpAnyH_take (i := 1) (v := ?vpa1) rfl (by kernel_rfl) (by kernel_rfl) (by kernel_rfl) (fun _ _ _ h => h) (Or.inl ⟨by rfl, ?hypa1⟩) (by assumption) ?restpa1
  case hypa1 =>
    intro w hSw
    try dsimp only at hSw
    go_simp
    all_goals with_reducible rfl
  simp only [Act.put, List.getElem_toArray, List.getElem_cons_succ, List.getElem_cons_zero, List.setIfInBounds_toArray, List.set_cons_zero, List.set_cons_succ]
  refine wpAnyH_take (i := 2) (v := ?vpa2) rfl (by kernel_rfl) (by kernel_rfl) (by kernel_rfl) (fun _ _ _ h => h) (Or.inl ⟨by rfl, ?hypa2⟩) (by assumption) ?restpa2
  case hypa2 =>
    intro w hSw
    try dsimp only at hSw
    go_simp
    all_goals with_reducible rfl
  simp only [Act.put, List.getElem_toArray, List.getElem_cons_succ, List.getElem_cons_zero, List.setIfInBounds_toArray, List.set_cons_zero, List.set_cons_succ]
  refine wpAnyH_take (i := 3) (v := ?vpa3) rfl (by kernel_rfl) (by kernel_rfl) (by kernel_rfl) (fun _ _ _ h => h) (Or.inl ⟨by rfl, ?hypa3⟩) (by assumption) ?restpa3
  case hypa3 =>
    intro w hSw
    try dsimp only at hSw
    go_simp
    all_goals with_reducible rfl
  simp only [Act.put, List.getElem_toArray, List.getElem_cons_succ, List.getElem_cons_zero, List.setIfInBounds_toArray, List.set_cons_zero, List.set_cons_succ]
  refine wpAnyH_take (i := 4) (v := ?vpa4) rfl (by kernel_rfl) (by kernel_rfl) (by kernel_rfl) (fun _ _ _ h => h) (Or.inl ⟨by rfl, ?hypa4⟩) (by assumption) ?restpa4
  case hypa4 =>
    intro w hSw
    try dsimp only at hSw
    go_simp
    all_goals with_reducible rfl
  simp only [Act.put, List.getElem_toArray, List.getElem_cons_succ, List.getElem_cons_zero, List.setIfInBounds_toArray, List.set_cons_zero, List.set_cons_succ]
  refine wpAnyH_take (i := 5) (v := ?vpa5) rfl (by kernel_rfl) (by kernel_rfl) (by kernel_rfl) (fun _ _ _ h => h) (Or.inl ⟨by rfl, ?hypa5⟩) (by assumption) ?restpa5
  case hypa5 =>
    intro w hSw
    try dsimp only at hSw
    go_simp
    all_goals with_reducible rfl
  simp only [Act.put, List.getElem_toArray, List.getElem_cons_succ, List.getElem_cons_zero, List.setIfInBounds_toArray, List.set_cons_zero, List.set_cons_succ]
  refine wpAnyH_take (i := 6) (v := ?vpa6) rfl (by kernel_rfl) (by kernel_rfl) (by kernel_rfl) (fun _ _ _ h => h) (Or.inl ⟨by rfl, ?hypa6⟩) (by assumption) ?restpa6
  case hypa6 =>
    intro w hSw
    try dsimp only at hSw
    go_simp
    all_goals with_reducible rfl
  simp only [Act.put, List.getElem_toArray, List.getElem_cons_succ, List.getElem_cons_zero, List.setIfInBounds_toArray, List.set_cons_zero, List.set_cons_succ]
  refine wpAnyH_take (i := 7) (v := ?vpa7) rfl (by kernel_rfl) (by kernel_rfl) (by kernel_rfl) (fun _ _ _ h => h) (Or.inl ⟨by rfl, ?hypa7⟩) (by assumption) ?restpa7
  case hypa7 =>
    intro w hSw
    try dsimp only at hSw
    go_simp
    all_goals with_reducible rfl
  simp only [Act.put, List.getElem_toArray, List.getElem_cons_succ, List.getElem_cons_zero, List.setIfInBounds_toArray, List.set_cons_zero, List.set_cons_succ]
  refine wpAnyH_take (i := 9) (v := ?vpa9) rfl (by kernel_rfl) (by kernel_rfl) (by kernel_rfl) (fun _ _ _ h => h) (Or.inl ⟨by rfl, ?hypa9⟩) (by assumption) ?restpa9
  case hypa9 =>
    intro w hSw
    try dsimp only at hSw
    go_simp
    all_goals with_reducible rfl
  simp only [Act.put, List.getElem_toArray, List.getElem_cons_succ, List.getElem_cons_zero, List.setIfInBounds_toArray, List.set_cons_zero, List.set_cons_succ]
  refine wpAnyH_ready (rs := [8]) (by kernel_rfl) (by simp) ?_
  refine AllReadyH.cons rfl (fun K hK => ?_) AllReadyH.nil
  go_simp
  obtain ⟨_, hA⟩ := (HB3.out.drewU (Sep.framed (Sep.framed MapS.framed RMapS.framed) Blk.framed)).getA
  refine ((HB3.out.drewU (Sep.framed (Sep.framed MapS.framed RMapS.framed) Blk.framed)).callRead (Sep.framed (Sep.framed MapS.framed RMapS.framed) Blk.framed) (E := fun e => e = .returned (.agg #[.int .i64 kind, .int .i64 cap])) (cmapDef_ hA)).mono ?_
  rintro e w4 ⟨rfl, hB4⟩
  have HB4 := Lib.hid hB4
  clear hB4 hA
  try go_wp2_with fail
  refine hK.out _ _ ?_ (fun hHeld => ?_)
  · exact (mk_cells HB4.out)
  clear hK K
  try simp only [Act.put, List.getElem_toArray, List.getElem_cons_succ, List.getElem_cons_zero, List.setIfInBounds_toArray, List.set_cons_zero, List.set_cons_succ]
  refine wpAnyH_take (i := 10) (v := ?vpa10) rfl (by kernel_rfl) (by kernel_rfl) (by kernel_rfl) (fun _ _ _ h => h) (Or.inl ⟨by rfl, ?hypa10⟩) (by assumption) ?restpa10
  case hypa10 =>
    intro w hSw
    try dsimp only at hSw
    go_simp
    all_goals with_reducible rfl
  simp only [Act.put, List.getElem_toArray, List.getElem_cons_succ, List.getElem_cons_zero, List.setIfInBounds_toArray, List.set_cons_zero, List.set_cons_succ]
  refine wpAnyH_take (i := 11) (v := ?vpa11) rfl (by kernel_rfl) (by kernel_rfl) (by kernel_rfl) (fun _ _ _ h => h) (Or.inl ⟨by rfl, ?hypa11⟩) (by assumption) ?restpa11
  case hypa11 =>
    intro w hSw
    try dsimp only at hSw
    go_simp
    all_goals with_reducible rfl
  simp only [Act.put, List.getElem_toArray, List.getElem_cons_succ, List.getElem_cons_zero, List.setIfInBounds_toArray, List.set_cons_zero, List.set_cons_succ]
  clear hHeld
  refine wpAnyH_done (by kernel_rfl) ?_ _
  refine NoPanic.normal ?_
  clear HB3 c0 c1 hq
  go_wp2_with fail
  go_loopw [11] (fun t11 wr => ∃ (k : Nat) (ss : List Sh) (rs : List RSt), k ≤ ds.length ∧ k ≤ 3000 ∧ t11 = .int .i64 k ∧ Hid ((ss.length : Int) = n) ∧ Hid (PSync kind cap al rl ss rs k) ∧ Hid (Upd (Sep (Sep (MapS ma kind cap al ss) (RMapS mr cap rl rs)) (Blk bd (defO kind cap))) (fun _ => False) w wr)) (fun t11 _ => ds.length - (intOf t11).toNat)
  case atStart => exact ⟨0, ss0, rs0, Nat.zero_le _, by decide, rfl, HSL0, HY0, HB4⟩
  case round =>
    clear HB4 HY0 HSL0
    obtain ⟨k, ss, rs, hk, hk3, rfl, HSL, HY, V⟩ := hrel
    by_cases hlt : k < ds.length ∧ k < 3000
    · obtain ⟨hlt, hk3⟩ := hlt
      obtain ⟨_, ao', cap', hao, _, _, hx⟩ := HV.out
      obtain ⟨rfl, -, rfl⟩ : ao = ao' ∧ ds.length = ds.length ∧ c = cap' := by simpa using hao
      obtain ⟨sb, off, rfl, hc⟩ := hx (by omega)
      obtain ⟨c0, c1, c2⟩ := it_cells hc k hlt
      have hi0 : (0 : Int) ≤ (k : Int) := by omega
      have hi1 : (k : Int) < (ds.length : Int) := by omega
      have HKE := Lib.hid (HKEY.out _ (List.getElem_mem hlt))
      clear hc hx hao
      generalize ds[k].2.1 = op at *
      generalize ds[k].2.2.1 = dk at *
      generalize ds[k].2.2.2 = dv at *
      have HC0 := Lib.hid (And.intro c0 (And.intro c1 c2))
      replace c0 := cell_below (St.below V.out) c0
      replace c1 := cell_below (St.below V.out) c1
      replace c2 := cell_below (St.below V.out) c2
      obtain ⟨⟨x0, x1, x2, x3, x4, x5⟩, s2, hd⟩ : ∃ r s2, mDo kind cap ss op dk dv = (r, s2) := ⟨_, _, rfl⟩
      have HD := Lib.hid hd
      have HSL2 := Lib.hid (show (s2.length : Int) = n by have h1 := mDo_len kind cap ss op dk dv; rw [hd] at h1; rw [h1]; exact HSL.out)
      obtain ⟨rs2, hY2, hRD⟩ := HY.out.next HKE.out hd
      have HY2 := Lib.hid hY2
      have HRD := Lib.hid (fun h => hRD h mr)
      have hz := res_neq_self x0 x1 x2 x3 x4 x5
      clear hd hY2 hRD
      go_wp2_with fail
      have HKC := Lib.hid (show ∀ W, Below w.heap.size w W → W.cell? ⟨sb, off + k * 4 + 1, none⟩ = some (.int .i64 op) ∧ W.cell? ⟨sb, off + k * 4 + 2, none⟩ = some (.int .u64 dk) ∧ W.cell? ⟨sb, off + k * 4 + 3, none⟩ = some (.int .u64 dv) from fun W h => ⟨cell_below h HC0.out.1, cell_below h HC0.out.2.1, cell_below h HC0.out.2.2⟩)
      refine wp_region_noPanic ?_
      refine wp_region_held_drew (S := fun W => W.cell? ⟨sb, off + k * 4 + 1, none⟩ = some (.int .i64 op) ∧ W.cell? ⟨sb, off + k * 4 + 2, none⟩ = some (.int .u64 dk) ∧ W.cell? ⟨sb, off + k * 4 + 3, none⟩ = some (.int .u64 dv)) (by kernel_rfl) ?_ (fun hHeld => ?_)
      · exact ⟨c0, c1, c2⟩
      try simp only [Act.put, List.getElem_toArray, List.getElem_cons_succ, List.getElem_cons_zero, List.setIfInBounds_toArray, List.set_cons_zero, List.set_cons_succ]
      refine wpAnyH_take (i := 0) (v := ?vpb0) rfl (by kernel_rfl) (by kernel_rfl) (by kernel_rfl) (fun _ _ _ h => h) (Or.inl ⟨by rfl, ?hypb0⟩) (by assumption) ?restpb0
      case hypb0 =>
        intro w hSw
        try dsimp only at hSw
        go_simp
        all_goals with_reducible rfl
      simp only [Act.put, List.getElem_toArray, List.getElem_cons_succ, List.getElem_cons_zero, List.setIfInBounds_toArray, List.set_cons_zero, List.set_cons_succ]
      refine wpAnyH_take (i := 1) (v := ?vpb1) rfl (by kernel_rfl) (by kernel_rfl) (by kernel_rfl) (fun _ _ _ h => h) (Or.inl ⟨by rfl, ?hypb1⟩) (by assumption) ?restpb1
      case hypb1 =>
        intro w hSw
        try dsimp only at hSw
        go_simp
        all_goals with_reducible rfl
      simp only [Act.put, List.getElem_toArray, List.getElem_cons_succ, List.getElem_cons_zero, List.setIfInBounds_toArray, List.set_cons_zero, List.set_cons_succ]
      refine wpAnyH_take (i := 2) (v := ?vpb2) rfl (by kernel_rfl) (by kernel_rfl) (by kernel_rfl) (fun _ _ _ h => h) (Or.inl ⟨by rfl, ?hypb2⟩) (by assumption) ?restpb2
      case hypb2 =>
        intro w hSw
        try dsimp only at hSw
        go_simp
        all_goals with_reducible rfl
      simp only [Act.put, List.getElem_toArray, List.getElem_cons_succ, List.getElem_cons_zero, List.setIfInBounds_toArray, List.set_cons_zero, List.set_cons_succ]
      refine wpAnyH_take (i := 3) (v := ?vpb3) rfl (by kernel_rfl) (by kernel_rfl) (by kernel_rfl) (fun _ _ _ h => h) (Or.inl ⟨by rfl, ?hypb3⟩) (by assumption) ?restpb3
      case hypb3 =>
        intro w hSw
        try dsimp only at hSw
        go_simp
        all_goals with_reducible rfl
      simp only [Act.put, List.getElem_toArray, List.getElem_cons_succ, List.getElem_cons_zero, List.setIfInBounds_toArray, List.set_cons_zero, List.set_cons_succ]
      refine wpAnyH_take (i := 4) (v := ?vpb4) rfl (by kernel_rfl) (by kernel_rfl) (by kernel_rfl) (fun _ _ _ h => h) (Or.inl ⟨by rfl, ?hypb4⟩) (by assumption) ?restpb4
      case hypb4 =>
        intro w hSw
        try dsimp only at hSw
        go_simp
        all_goals with_reducible rfl
      simp only [Act.put, List.getElem_toArray, List.getElem_cons_succ, List.getElem_cons_zero, List.setIfInBounds_toArray, List.set_cons_zero, List.set_cons_succ]
      refine wpAnyH_take (i := 5) (v := ?vpb5) rfl (by kernel_rfl) (by kernel_rfl) (by kernel_rfl) (fun _ _ _ h => h) (Or.inl ⟨by rfl, ?hypb5⟩) (by assumption) ?restpb5
      case hypb5 =>
        intro w hSw
        try dsimp only at hSw
        go_simp
        all_goals with_reducible rfl
      simp only [Act.put, List.getElem_toArray, List.getElem_cons_succ, List.getElem_cons_zero, List.setIfInBounds_toArray, List.set_cons_zero, List.set_cons_succ]
      refine wpAnyH_take (i := 6) (v := ?vpb6) rfl (by kernel_rfl) (by kernel_rfl) (by kernel_rfl) (fun _ _ _ h => h) (Or.inl ⟨by rfl, ?hypb6⟩) (by assumption) ?restpb6
      case hypb6 =>
        intro w hSw
        try dsimp only at hSw
        go_simp
        all_goals with_reducible rfl
      simp only [Act.put, List.getElem_toArray, List.getElem_cons_succ, List.getElem_cons_zero, List.setIfInBounds_toArray, List.set_cons_zero, List.set_cons_succ]
      refine wpAnyH_take (i := 7) (v := ?vpb7) rfl (by kernel_rfl) (by kernel_rfl) (by kernel_rfl) (fun _ _ _ h => h) (Or.inl ⟨by rfl, ?hypb7⟩) (by assumption) ?restpb7
      case hypb7 =>
        intro w hSw
        try dsimp only at hSw
        go_simp
        all_goals with_reducible rfl
      simp only [Act.put, List.getElem_toArray, List.getElem_cons_succ, List.getElem_cons_zero, List.setIfInBounds_toArray, List.set_cons_zero, List.set_cons_succ]
      refine wpAnyH_take (i := 8) (v := ?vpb8) rfl (by kernel_rfl) (by kernel_rfl) (by kernel_rfl) (fun _ _ _ h => h) (Or.inl ⟨by rfl, ?hypb8⟩) (by assumption) ?restpb8
      case hypb8 =>
        intro w hSw
        try dsimp only at hSw
        go_simp
        all_goals with_reducible rfl
      simp only [Act.put, List.getElem_toArray, List.getElem_cons_succ, List.getElem_cons_zero, List.setIfInBounds_toArray, List.set_cons_zero, List.set_cons_succ]
      refine wpAnyH_take (i := 9) (v := ?vpb9) rfl (by kernel_rfl) (by kernel_rfl) (by kernel_rfl) (fun _ _ _ h => h) (Or.inl ⟨by rfl, ?hypb9⟩) (by assumption) ?restpb9
      case hypb9 =>
        intro w hSw
        try dsimp only at hSw
        go_simp
        all_goals with_reducible rfl
      simp only [Act.put, List.getElem_toArray, List.getElem_cons_succ, List.getElem_cons_zero, List.setIfInBounds_toArray, List.set_cons_zero, List.set_cons_succ]
      refine wpAnyH_take (i := 10) (v := ?vpb10) rfl (by kernel_rfl) (by kernel_rfl) (by kernel_rfl) (fun _ _ _ h => h) (Or.inl ⟨by rfl, ?hypb10⟩) (by assumption) ?restpb10
      case hypb10 =>
        intro w hSw
        try dsimp only at hSw
        go_simp
        all_goals with_reducible rfl
      simp only [Act.put, List.getElem_toArray, List.getElem_cons_succ, List.getElem_cons_zero, List.setIfInBounds_toArray, List.set_cons_zero, List.set_cons_succ]
      refine wpAnyH_take (i := 11) (v := ?vpb11) rfl (by kernel_rfl) (by kernel_rfl) (by kernel_rfl) (fun _ _ _ h => h) (Or.inl ⟨by rfl, ?hypb11⟩) (by assumption) ?restpb11
      case hypb11 =>
        intro w hSw
        try dsimp only at hSw
        go_simp
        all_goals with_reducible rfl
      simp only [Act.put, List.getElem_toArray, List.getElem_cons_succ, List.getElem_cons_zero, List.setIfInBounds_toArray, List.set_cons_zero, List.set_cons_succ]
      refine wpAnyH_take (i := 12) (v := ?vpb12) rfl (by kernel_rfl) (by kernel_rfl) (by kernel_rfl) (fun _ _ _ h => h) (Or.inl ⟨by rfl, ?hypb12⟩) (by assumption) ?restpb12
      case hypb12 =>
        intro w hSw
        try dsimp only at hSw
        go_simp
        all_goals with_reducible rfl
      simp only [Act.put, List.getElem_toArray, List.getElem_cons_succ, List.getElem_cons_zero, List.setIfInBounds_toArray, List.set_cons_zero, List.set_cons_succ]
      refine wpAnyH_take (i := 13) (v := ?vpb13) rfl (by kernel_rfl) (by kernel_rfl) (by kernel_rfl) (fun _ _ _ h => h) (Or.inl ⟨by rfl, ?hypb13⟩) (by assumption) ?restpb13
      case hypb13 =>
        intro w hSw
        try dsimp only at hSw
        go_simp
        all_goals with_reducible rfl
      simp only [Act.put, List.getElem_toArray, List.getElem_cons_succ, List.getElem_cons_zero, List.setIfInBounds_toArray, List.set_cons_zero, List.set_cons_succ]
      refine wpAnyH_take (i := 14) (v := ?vpb14) rfl (by kernel_rfl) (by kernel_rfl) (by kernel_rfl) (fun _ _ _ h => h) (Or.inl ⟨by rfl, ?hypb14⟩) (by assumption) ?restpb14
      case hypb14 =>
        intro w hSw
        try dsimp only at hSw
        go_simp
        all_goals with_reducible rfl
      simp only [Act.put, List.getElem_toArray, List.getElem_cons_succ, List.getElem_cons_zero, List.setIfInBounds_toArray, List.set_cons_zero, List.set_cons_succ]
      refine wpAnyH_take (i := 15) (v := ?vpb15) rfl (by kernel_rfl) (by kernel_rfl) (by kernel_rfl) (fun _ _ _ h => h) (Or.inl ⟨by rfl, ?hypb15⟩) (by assumption) ?restpb15
      case hypb15 =>
        intro w hSw
        try dsimp only at hSw
        go_simp
        all_goals with_reducible rfl
      simp only [Act.put, List.getElem_toArray, List.getElem_cons_succ, List.getElem_cons_zero, List.setIfInBounds_toArray, List.set_cons_zero, List.set_cons_succ]
      refine wpAnyH_take (i := 17) (v := ?vpb17) rfl (by kernel_rfl) (by kernel_rfl) (by kernel_rfl) (fun _ _ _ h => h) (Or.inl ⟨by rfl, ?hypb17⟩) (by assumption) ?restpb17
      case hypb17 =>
        intro w hSw
        try dsimp only at hSw
        go_simp
        all_goals with_reducible rfl
      simp only [Act.put, List.getElem_toArray, List.getElem_cons_succ, List.getElem_cons_zero, List.setIfInBounds_toArray, List.set_cons_zero, List.set_cons_succ]
      refine wpAnyH_take (i := 18) (v := ?vpb18) rfl (by kernel_rfl) (by kernel_rfl) (by kernel_rfl) (fun _ _ _ h => h) (Or.inl ⟨by rfl, ?hypb18⟩) (by assumption) ?restpb18
      case hypb18 =>
        intro w hSw
        try dsimp only at hSw
        go_simp
        all_goals with_reducible rfl
      simp only [Act.put, List.getElem_toArray, List.getElem_cons_succ, List.getElem_cons_zero, List.setIfInBounds_toArray, List.set_cons_zero, List.set_cons_succ]
      refine wpAnyH_take (i := 19) (v := ?vpb19) rfl (by kernel_rfl) (by kernel_rfl) (by kernel_rfl) (fun _ _ _ h => h) (Or.inl ⟨by rfl, ?hypb19⟩) (by assumption) ?restpb19
      case hypb19 =>
        intro w hSw
        try dsimp only at hSw
        go_simp
        all_goals with_reducible rfl
      simp only [Act.put, List.getElem_toArray, List.getElem_cons_succ, List.getElem_cons_zero, List.setIfInBounds_toArray, List.set_cons_zero, List.set_cons_succ]
      refine wpAnyH_take (i := 20) (v := ?vpb20) rfl (by kernel_rfl) (by kernel_rfl) (by kernel_rfl) (fun _ _ _ h => h) (Or.inl ⟨by rfl, ?hypb20⟩) (by assumption) ?restpb20
      case hypb20 =>
        intro w hSw
        try dsimp only at hSw
        go_simp
        all_goals with_reducible rfl
      simp only [Act.put, List.getElem_toArray, List.getElem_cons_succ, List.getElem_cons_zero, List.setIfInBounds_toArray, List.set_cons_zero, List.set_cons_succ]
      refine wpAnyH_take (i := 21) (v := ?vpb21) rfl (by kernel_rfl) (by kernel_rfl) (by kernel_rfl) (fun _ _ _ h => h) (Or.inl ⟨by rfl, ?hypb21⟩) (by assumption) ?restpb21
      case hypb21 =>
        intro w hSw
        try dsimp only at hSw
        go_simp
        all_goals with_reducible rfl
      simp only [Act.put, List.getElem_toArray, List.getElem_cons_succ, List.getElem_cons_zero, List.setIfInBounds_toArray, List.set_cons_zero, List.set_cons_succ]
      refine wpAnyH_take (i := 22) (v := ?vpb22) rfl (by kernel_rfl) (by kernel_rfl) (by kernel_rfl) (fun _ _ _ h => h) (Or.inl ⟨by rfl, ?hypb22⟩) (by assumption) ?restpb22
      case hypb22 =>
        intro w hSw
        try dsimp only at hSw
        go_simp
        all_goals with_reducible rfl
      simp only [Act.put, List.getElem_toArray, List.getElem_cons_succ, List.getElem_cons_zero, List.setIfInBounds_toArray, List.set_cons_zero, List.set_cons_succ]
      refine wpAnyH_take (i := 23) (v := ?vpb23) rfl (by kernel_rfl) (by kernel_rfl) (by kernel_rfl) (fun _ _ _ h => h) (Or.inl ⟨by rfl, ?hypb23⟩) (by assumption) ?restpb23
      case hypb23 =>
        intro w hSw
        try dsimp only at hSw
        go_simp
        all_goals with_reducible rfl
      simp only [Act.put, List.getElem_toArray, List.getElem_cons_succ, List.getElem_cons_zero, List.setIfInBounds_toArray, List.set_cons_zero, List.set_cons_succ]
      refine wpAnyH_take (i := 24) (v := ?vpb24) rfl (by kernel_rfl) (by kernel_rfl) (by kernel_rfl) (fun _ _ _ h => h) (Or.inl ⟨by rfl, ?hypb24⟩) (by assumption) ?restpb24
      case hypb24 =>
        intro w hSw
        try dsimp only at hSw
        go_simp
        all_goals with_reducible rfl
      simp only [Act.put, List.getElem_toArray, List.getElem_cons_succ, List.getElem_cons_zero, List.setIfInBounds_toArray, List.set_cons_zero, List.set_cons_succ]
      refine wpAnyH_take (i := 25) (v := ?vpb25) rfl (by kernel_rfl) (by kernel_rfl) (by kernel_rfl) (fun _ _ _ h => h) (Or.inl ⟨by rfl, ?hypb25⟩) (by assumption) ?restpb25
      case hypb25 =>
        intro w hSw
        try dsimp only at hSw
        go_simp
        all_goals with_reducible rfl
      simp only [Act.put, List.getElem_toArray, List.getElem_cons_succ, List.getElem_cons_zero, List.setIfInBounds_toArray, List.set_cons_zero, List.set_cons_succ]
      refine wpAnyH_take (i := 26) (v := ?vpb26) rfl (by kernel_rfl) (by kernel_rfl) (by kernel_rfl) (fun _ _ _ h => h) (Or.inl ⟨by rfl, ?hypb26⟩) (by assumption) ?restpb26
      case hypb26 =>
        intro w hSw
        try dsimp only at hSw
        go_simp
        all_goals with_reducible rfl
      simp only [Act.put, List.getElem_toArray, List.getElem_cons_succ, List.getElem_cons_zero, List.setIfInBounds_toArray, List.set_cons_zero, List.set_cons_succ]
      refine wpAnyH_take (i := 27) (v := ?vpb27) rfl (by kernel_rfl) (by kernel_rfl) (by kernel_rfl) (fun _ _ _ h => h) (Or.inl ⟨by rfl, ?hypb27⟩) (by assumption) ?restpb27
      case hypb27 =>
        intro w hSw
        try dsimp only at hSw
        go_simp
        all_goals with_reducible rfl
      simp only [Act.put, List.getElem_toArray, List.getElem_cons_succ, List.getElem_cons_zero, List.setIfInBounds_toArray, List.set_cons_zero, List.set_cons_succ]
      refine wpAnyH_take (i := 28) (v := ?vpb28) rfl (by kernel_rfl) (by kernel_rfl) (by kernel_rfl) (fun _ _ _ h => h) (Or.inl ⟨by rfl, ?hypb28⟩) (by assumption) ?restpb28
      case hypb28 =>
        intro w hSw
        try dsimp only at hSw
        go_simp
        all_goals with_reducible rfl
      simp only [Act.put, List.getElem_toArray, List.getElem_cons_succ, List.getElem_cons_zero, List.setIfInBounds_toArray, List.set_cons_zero, List.set_cons_succ]
      refine wpAnyH_take (i := 29) (v := ?vpb29) rfl (by kernel_rfl) (by kernel_rfl) (by kernel_rfl) (fun _ _ _ h => h) (Or.inl ⟨by rfl, ?hypb29⟩) (by assumption) ?restpb29
      case hypb29 =>
        intro w hSw
        try dsimp only at hSw
        go_simp
        all_goals with_reducible rfl
      simp only [Act.put, List.getElem_toArray, List.getElem_cons_succ, List.getElem_cons_zero, List.setIfInBounds_toArray, List.set_cons_zero, List.set_cons_succ]
      refine wpAnyH_take (i := 30) (v := ?vpb30) rfl (by kernel_rfl) (by kernel_rfl) (by kernel_rfl) (fun _ _ _ h => h) (Or.inl ⟨by rfl, ?hypb30⟩) (by assumption) ?restpb30
      case hypb30 =>
        intro w hSw
        try dsimp only at hSw
        go_simp
        all_goals with_reducible rfl
      simp only [Act.put, List.getElem_toArray, List.getElem_cons_succ, List.getElem_cons_zero, List.setIfInBounds_toArray, List.set_cons_zero, List.set_cons_succ]
      refine wpAnyH_take (i := 31) (v := ?vpb31) rfl (by kernel_rfl) (by kernel_rfl) (by kernel_rfl) (fun _ _ _ h => h) (Or.inl ⟨by rfl, ?hypb31⟩) (by assumption) ?restpb31
      case hypb31 =>
        intro w hSw
        try dsimp only at hSw
        go_simp
        all_goals with_reducible rfl
      simp only [Act.put, List.getElem_toArray, List.getElem_cons_succ, List.getElem_cons_zero, List.setIfInBounds_toArray, List.set_cons_zero, List.set_cons_succ]
      refine wpAnyH_take (i := 32) (v := ?vpb32) rfl (by kernel_rfl) (by kernel_rfl) (by kernel_rfl) (fun _ _ _ h => h) (Or.inl ⟨by rfl, ?hypb32⟩) (by assumption) ?restpb32
      case hypb32 =>
        intro w hSw
        try dsimp only at hSw
        go_simp
        all_goals with_reducible rfl
      simp only [Act.put, List.getElem_toArray, List.getElem_cons_succ, List.getElem_cons_zero, List.setIfInBounds_toArray, List.set_cons_zero, List.set_cons_succ]
      refine wpAnyH_ready (rs := [16]) (by kernel_rfl) (by simp) ?_
      refine AllReadyH.cons rfl (fun K hK => ?_) AllReadyH.nil
      go_simp
      refine ((V.out.drewU (Sep.framed (Sep.framed MapS.framed RMapS.framed) Blk.framed)).onA RMapS.framed Blk.framed (P' := MapS ma kind cap al s2) (E := fun e => e = .returned (.agg #[.int .i64 x0, .bool x1, .int .u64 x2, .bool x3, .int .u64 x4, .int .u64 x5])) MapS.framed fun A hA => cmapDoM hA HY.out.a HD.out).mono ?_
      rintro e wi ⟨rfl, hVi⟩
      have HVi := Lib.hid hVi
      clear hVi
      try go_wp2_with fail
      refine hK.out _ _ ?_ (fun hHeld => ?_)
      · exact (HKC.out _ (St.below HVi.out))
      clear hK K
      try simp only [Act.put, List.getElem_toArray, List.getElem_cons_succ, List.getElem_cons_zero, List.setIfInBounds_toArray, List.set_cons_zero, List.set_cons_succ]
      refine wpAnyH_ready (rs := [33]) (by kernel_rfl) (by simp) ?_
      refine AllReadyH.cons rfl (fun K hK => ?_) AllReadyH.nil
      go_simp
      refine (HVi.out.onB MapS.framed Blk.framed (Q' := RMapS mr cap rl rs2) (E := fun e => e = .returned (.agg #[.int .i64 x0, .bool x1, .int .u64 x2, .bool x3, .int .u64 x4, .int .u64 x5])) RMapS.framed fun A hA => HRD.out hk3 _ _ hA).mono ?_
      rintro e wj ⟨rfl, hVj⟩
      have HVj := Lib.hid hVj
      clear hVj
      try go_wp2_with fail
      refine hK.out _ _ ?_ (fun hHeld => ?_)
      · exact (HKC.out _ (St.below HVj.out))
      clear hK K
      try simp only [Act.put, List.getElem_toArray, List.getElem_cons_succ, List.getElem_cons_zero, List.setIfInBounds_toArray, List.set_cons_zero, List.set_cons_succ]
      refine wpAnyH_take (i := 34) (v := ?vpb34) rfl (by kernel_rfl) (by kernel_rfl) (by kernel_rfl) (fun _ _ _ h => h) (Or.inl ⟨by rfl, ?hypb34⟩) (by assumption) ?restpb34
      case hypb34 =>
        intro w hSw
        try dsimp only at hSw
        go_simp
        all_goals with_reducible rfl
      simp only [Act.put, List.getElem_toArray, List.getElem_cons_succ, List.getElem_cons_zero, List.setIfInBounds_toArray, List.set_cons_zero, List.set_cons_succ]
      clear hHeld
      refine wpAnyH_done (by kernel_rfl) ?_ _
      refine NoPanic.normal ?_
      go_wp2_with fail
      refine ⟨⟨k + 1, s2, rs2, by omega, by omega, by simp, HSL2, HY2, HVj⟩, ?_⟩
      first | omega | (simp only [intOf]; omega)
    · have HSD := Lib.hid (show k = ds.length ∨ (k < ds.length ∧ k = 3000) by omega)
      rcases HSD.out with rfl | ⟨hlt2, rfl⟩
      ·
        clear HSD
        go_wp2_with fail
        obtain ⟨_, hA⟩ := V.out.getB
        refine (V.out.callNew (Sep.framed (Sep.framed MapS.framed RMapS.framed) Blk.framed) (Yx := fun v S w => OwS ePair 65 S w v (allP ss)) (E := fun v e => e = .returned v) (fun _ => OwS.framed) (by have := refMapWalk_ hA HY.out.r; rwa [HY.out.m] at this)).mono ?_
        rintro e wa1 ⟨vr, rfl, hV1⟩
        have HQ1 := Lib.hid hV1
        clear hV1 hA
        go_wp2_with fail
        obtain ⟨_, hZ⟩ := HQ1.out.getL
        have hA := (hZ.left (Sep.framed MapS.framed RMapS.framed)).left MapS.framed
        refine (HQ1.out.callNew (Sep.framed (Sep.framed (Sep.framed MapS.framed RMapS.framed) Blk.framed) OwS.framed) (Yx := fun v S w => OwS ePair 65 S w v (allP ss)) (E := fun v e => e = .returned v) (fun _ => OwS.framed) (cmapWalk_ hA HY.out.a)).mono ?_
        rintro e wa2 ⟨vm, rfl, hV2⟩
        have HQ2 := Lib.hid hV2
        clear hV2 hA hZ
        go_wp2_with fail
        obtain ⟨_, h1⟩ := HQ2.out.getR
        obtain ⟨_, h2⟩ := HQ2.out.getB
        refine (HQ2.out.callRead (Sep.framed (Sep.framed (Sep.framed (Sep.framed MapS.framed RMapS.framed) Blk.framed) OwS.framed) OwS.framed) (E := fun e => e = .returned (.bool true)) (pairs_eq (allP ss) _ _ _ h1.rd h2.rd)).mono ?_
        rintro e wa3 ⟨rfl, hV3⟩
        have HQ3 := Lib.hid hV3
        obtain ⟨_, ⟨⟨_, a3, c3, rfl, _⟩, _⟩⟩ := hV3.getB
        clear hV3 h1 h2
        go_wp2_with fail
        obtain ⟨_, hZ⟩ := HQ3.out.getA
        have hA := (hZ.left (Sep.framed MapS.framed RMapS.framed)).left MapS.framed
        refine (HQ3.out.callRead (Sep.framed (Sep.framed (Sep.framed (Sep.framed MapS.framed RMapS.framed) Blk.framed) OwS.framed) OwS.framed) (E := fun e => e = .returned (.int .i64 ((allP ss).length : Int))) (cmapLen_ hA HY.out.a)).mono ?_
        rintro e wa4 ⟨rfl, hV4⟩
        have HX := Lib.hid (show Upd (Sep (MapS ma kind cap al ss) (RMapS mr cap rl rs)) (fun _ => False) w wa4 from hV4.imp fun _ h => (((h.left (Sep.framed (Sep.framed (Sep.framed MapS.framed RMapS.framed) Blk.framed) OwS.framed)).left (Sep.framed (Sep.framed MapS.framed RMapS.framed) Blk.framed)).left (Sep.framed MapS.framed RMapS.framed)))
        have hee : (((allP ss).length : Int) != ((allP ss).length : Int)) = false := by simp
        clear hV4 hA hZ HQ1 HQ2 HQ3 V
        go_wp2_with fail
        have hn1 := HN1.out
        have hn4 := HN4.out
        have hal : (al.length : Int) = n := by have := HY.out.a.len; have h2 := HSL.out; omega
        go_loopw [13, 14, 15] (fun t13 _ _ wr => ∃ s : Int, t13 = .int .i64 s ∧ -1 ≤ s ∧ s ≤ n + 1 ∧ Hid (Upd (Sep (MapS ma kind cap al ss) (RMapS mr cap rl rs)) (fun _ => False) w wr)) (fun t13 _ _ _ => (n + 2 - intOf t13).toNat)
        case atStart => exact ⟨-1, rfl, by omega, by omega, HX⟩
        case round =>
          clear HX
          obtain ⟨s, rfl, hs1, hs2, V⟩ := hrel
          by_cases hle : s ≤ n
          · by_cases h0 : s < 0
            · obtain rfl : s = -1 := by omega
              go_wp2_with fail
              obtain ⟨_, hA⟩ := V.out.getL
              refine (V.out.callRead (Sep.framed MapS.framed RMapS.framed) (E := fun e => e = .returned (.tuple #[.slice none 0 0, .int .i64 2])) (cmapPart_bad hA HY.out.a (-1) (.inl (by omega)))).mono ?_
              rintro e wb1 ⟨rfl, hV1⟩
              have HQ1 := Lib.hid hV1
              clear hV1 hA V
              go_wp2_with fail
              refine ⟨⟨0, rfl, by omega, by omega, HQ1⟩, ?_⟩
              first | omega | (simp only [intOf]; omega)
            · by_cases hlt : s < n
              · obtain ⟨i, rfl⟩ : ∃ i : Nat, s = (i : Int) := ⟨s.toNat, by omega⟩
                have hil : i < ss.length := by have := HSL.out; omega
                have hir : i < rs.length := by have := HY.out.m; rw [← this, List.length_map] at hil; exact hil
                have hirl : i < rl.length := by rw [HY.out.r.len]; exact hir
                have hss : rs[i].1 = ss[i] := by simp [← HY.out.m]
                have hsn : ((i : Int) == n) = false := by simp; omega
                go_wp2_with fail
                obtain ⟨_, hA⟩ := V.out.getL
                refine (V.out.callNew (Sep.framed MapS.framed RMapS.framed) (Yx := fun v S w => OwS ePair 65 S w v ss[i].1) (E := fun v e => e = .returned (.tuple #[v, .int .i64 0])) (fun _ => OwS.framed) (cmapPart_ok hA HY.out.a i hil)).mono ?_
                rintro e wb1 ⟨vp, rfl, hV1⟩
                have HQ1 := Lib.hid hV1
                obtain ⟨_, hR⟩ := hV1.getB
                obtain ⟨vs, hRV⟩ := hR.named
                obtain ⟨sb2, off2, c2, rfl⟩ := hRV.shape (by omega)
                obtain ⟨p0, p1⟩ := hRV.slot hirl
                obtain ⟨A, hA2, -⟩ := hRV.at HY.out.r.len i hirl hir
                rw [hss] at hA2
                have HSP := Lib.hid (refShPairs_ hA2)
                have hi0 : (0 : Int) ≤ (i : Int) := by omega
                have hi1 : (i : Int) < (rl.length : Int) := by omega
                generalize rl[i].rs = ra at *
                clear hV1 hA V hR hRV hA2
                go_wp2_with fail
                refine (HQ1.out.callNew (Sep.framed (Sep.framed MapS.framed RMapS.framed) OwS.framed) (Yx := fun v S w => OwS ePair 65 S w v ss[i].1) (E := fun v e => e = .returned v) (fun _ => OwS.framed) HSP.out).mono ?_
                rintro e wb2 ⟨vq, rfl, hV2⟩
                have HQ2 := Lib.hid hV2
                clear hV2 p0 p1 HSP
                go_wp2_with fail
                obtain ⟨_, h1⟩ := HQ2.out.getB
                obtain ⟨_, h2⟩ := HQ2.out.getR
                refine (HQ2.out.callRead (Sep.framed (Sep.framed (Sep.framed MapS.framed RMapS.framed) OwS.framed) OwS.framed) (E := fun e => e = .returned (.bool true)) (pairs_eq ss[i].1 _ _ _ h1.rd h2.rd)).mono ?_
                rintro e wb3 ⟨rfl, hV3⟩
                have HQ3 := Lib.hid (show Upd (Sep (MapS ma kind cap al ss) (RMapS mr cap rl rs)) (fun _ => False) w wb3 from hV3.imp fun _ h => (h.left (Sep.framed (Sep.framed MapS.framed RMapS.framed) OwS.framed)).left (Sep.framed MapS.framed RMapS.framed))
                clear hV3 h1 h2 HQ2 HQ1
                go_wp2_with fail
                refine ⟨⟨(i : Int) + 1, by simp, by omega, by omega, HQ3⟩, ?_⟩
                first | omega | (simp only [intOf]; omega)
              · obtain rfl : s = n := by omega
                have hsn : (s == s) = true := by simp
                go_wp2_with fail
                obtain ⟨_, hA⟩ := V.out.getL
                refine (V.out.callRead (Sep.framed MapS.framed RMapS.framed) (E := fun e => e = .returned (.tuple #[.slice none 0 0, .int .i64 2])) (cmapPart_bad hA HY.out.a s (.inr (by omega)))).mono ?_
                rintro e wb1 ⟨rfl, hV1⟩
                have HQ1 := Lib.hid hV1
                clear hV1 hA V
                go_wp2_with fail
                refine ⟨⟨s + 1, by simp, by omega, by omega, HQ1⟩, ?_⟩
                first | omega | (simp only [intOf]; omega)
          · go_wp2_with fail
            go_ret
            exact ⟨rfl, St.below V.out⟩
      ·
        clear HSD
        go_wp2_with fail
        obtain ⟨_, hA⟩ := V.out.getB
        refine (V.out.callNew (Sep.framed (Sep.framed MapS.framed RMapS.framed) Blk.framed) (Yx := fun v S w => OwS ePair 65 S w v (allP ss)) (E := fun v e => e = .returned v) (fun _ => OwS.framed) (by have := refMapWalk_ hA HY.out.r; rwa [HY.out.m] at this)).mono ?_
        rintro e wa1 ⟨vr, rfl, hV1⟩
        have HQ1 := Lib.hid hV1
        clear hV1 hA
        go_wp2_with fail
        obtain ⟨_, hZ⟩ := HQ1.out.getL
        have hA := (hZ.left (Sep.framed MapS.framed RMapS.framed)).left MapS.framed
        refine (HQ1.out.callNew (Sep.framed (Sep.framed (Sep.framed MapS.framed RMapS.framed) Blk.framed) OwS.framed) (Yx := fun v S w => OwS ePair 65 S w v (allP ss)) (E := fun v e => e = .returned v) (fun _ => OwS.framed) (cmapWalk_ hA HY.out.a)).mono ?_
        rintro e wa2 ⟨vm, rfl, hV2⟩
        have HQ2 := Lib.hid hV2
        clear hV2 hA hZ
        go_wp2_with fail
        obtain ⟨_, h1⟩ := HQ2.out.getR
        obtain ⟨_, h2⟩ := HQ2.out.getB
        refine (HQ2.out.callRead (Sep.framed (Sep.framed (Sep.framed (Sep.framed MapS.framed RMapS.framed) Blk.framed) OwS.framed) OwS.framed) (E := fun e => e = .returned (.bool true)) (pairs_eq (allP ss) _ _ _ h1.rd h2.rd)).mono ?_
        rintro e wa3 ⟨rfl, hV3⟩
        have HQ3 := Lib.hid hV3
        obtain ⟨_, ⟨⟨_, a3, c3, rfl, _⟩, _⟩⟩ := hV3.getB
        clear hV3 h1 h2
        go_wp2_with fail
        obtain ⟨_, hZ⟩ := HQ3.out.getA
        have hA := (hZ.left (Sep.framed MapS.framed RMapS.framed)).left MapS.framed
        refine (HQ3.out.callRead (Sep.framed (Sep.framed (Sep.framed (Sep.framed MapS.framed RMapS.framed) Blk.framed) OwS.framed) OwS.framed) (E := fun e => e = .returned (.int .i64 ((allP ss).length : Int))) (cmapLen_ hA HY.out.a)).mono ?_
        rintro e wa4 ⟨rfl, hV4⟩
        have HX := Lib.hid (show Upd (Sep (MapS ma kind cap al ss) (RMapS mr cap rl rs)) (fun _ => False) w wa4 from hV4.imp fun _ h => (((h.left (Sep.framed (Sep.framed (Sep.framed MapS.framed RMapS.framed) Blk.framed) OwS.framed)).left (Sep.framed (Sep.framed MapS.framed RMapS.framed) Blk.framed)).left (Sep.framed MapS.framed RMapS.framed)))
        have hee : (((allP ss).length : Int) != ((allP ss).length : Int)) = false := by simp
        clear hV4 hA hZ HQ1 HQ2 HQ3 V
        go_wp2_with fail
        have hn1 := HN1.out
        have hn4 := HN4.out
        have hal : (al.length : Int) = n := by have := HY.out.a.len; have h2 := HSL.out; omega
        go_loopw [13, 14, 15] (fun t13 _ _ wr => ∃ s : Int, t13 = .int .i64 s ∧ -1 ≤ s ∧ s ≤ n + 1 ∧ Hid (Upd (Sep (MapS ma kind cap al ss) (RMapS mr cap rl rs)) (fun _ => False) w wr)) (fun t13 _ _ _ => (n + 2 - intOf t13).toNat)
        case atStart => exact ⟨-1, rfl, by omega, by omega, HX⟩
        case round =>
          clear HX
          obtain ⟨s, rfl, hs1, hs2, V⟩ := hrel
          by_cases hle : s ≤ n
          · by_cases h0 : s < 0
            · obtain rfl : s = -1 := by omega
              go_wp2_with fail
              obtain ⟨_, hA⟩ := V.out.getL
              refine (V.out.callRead (Sep.framed MapS.framed RMapS.framed) (E := fun e => e = .returned (.tuple #[.slice none 0 0, .int .i64 2])) (cmapPart_bad hA HY.out.a (-1) (.inl (by omega)))).mono ?_
              rintro e wb1 ⟨rfl, hV1⟩
              have HQ1 := Lib.hid hV1
              clear hV1 hA V
              go_wp2_with fail
              refine ⟨⟨0, rfl, by omega, by omega, HQ1⟩, ?_⟩
              first | omega | (simp only [intOf]; omega)
            · by_cases hlt : s < n
              · obtain ⟨i, rfl⟩ : ∃ i : Nat, s = (i : Int) := ⟨s.toNat, by omega⟩
                have hil : i < ss.length := by have := HSL.out; omega
                have hir : i < rs.length := by have := HY.out.m; rw [← this, List.length_map] at hil; exact hil
                have hirl : i < rl.length := by rw [HY.out.r.len]; exact hir
                have hss : rs[i].1 = ss[i] := by simp [← HY.out.m]
                have hsn : ((i : Int) == n) = false := by simp; omega
                go_wp2_with fail
                obtain ⟨_, hA⟩ := V.out.getL
                refine (V.out.callNew (Sep.framed MapS.framed RMapS.framed) (Yx := fun v S w => OwS ePair 65 S w v ss[i].1) (E := fun v e => e = .returned (.tuple #[v, .int .i64 0])) (fun _ => OwS.framed) (cmapPart_ok hA HY.out.a i hil)).mono ?_
                rintro e wb1 ⟨vp, rfl, hV1⟩
                have HQ1 := Lib.hid hV1
                obtain ⟨_, hR⟩ := hV1.getB
                obtain ⟨vs, hRV⟩ := hR.named
                obtain ⟨sb2, off2, c2, rfl⟩ := hRV.shape (by omega)
                obtain ⟨p0, p1⟩ := hRV.slot hirl
                obtain ⟨A, hA2, -⟩ := hRV.at HY.out.r.len i hirl hir
                rw [hss] at hA2
                have HSP := Lib.hid (refShPairs_ hA2)
                have hi0 : (0 : Int) ≤ (i : Int) := by omega
                have hi1 : (i : Int) < (rl.length : Int) := by omega
                generalize rl[i].rs = ra at *
                clear hV1 hA V hR hRV hA2
                go_wp2_with fail
                refine (HQ1.out.callNew (Sep.framed (Sep.framed MapS.framed RMapS.framed) OwS.framed) (Yx := fun v S w => OwS ePair 65 S w v ss[i].1) (E := fun v e => e = .returned v) (fun _ => OwS.framed) HSP.out).mono ?_
                rintro e wb2 ⟨vq, rfl, hV2⟩
                have HQ2 := Lib.hid hV2
                clear hV2 p0 p1 HSP
                go_wp2_with fail
                obtain ⟨_, h1⟩ := HQ2.out.getB
                obtain ⟨_, h2⟩ := HQ2.out.getR
                refine (HQ2.out.callRead (Sep.framed (Sep.framed (Sep.framed MapS.framed RMapS.framed) OwS.framed) OwS.framed) (E := fun e => e = .returned (.bool true)) (pairs_eq ss[i].1 _ _ _ h1.rd h2.rd)).mono ?_
                rintro e wb3 ⟨rfl, hV3⟩
                have HQ3 := Lib.hid (show Upd (Sep (MapS ma kind cap al ss) (RMapS mr cap rl rs)) (fun _ => False) w wb3 from hV3.imp fun _ h => (h.left (Sep.framed (Sep.framed MapS.framed RMapS.framed) OwS.framed)).left (Sep.framed MapS.framed RMapS.framed))
                clear hV3 h1 h2 HQ2 HQ1
                go_wp2_with fail
                refine ⟨⟨(i : Int) + 1, by simp, by omega, by omega, HQ3⟩, ?_⟩
                first | omega | (simp only [intOf]; omega)
              · obtain rfl : s = n := by omega
                have hsn : (s == s) = true := by simp
                go_wp2_with fail
                obtain ⟨_, hA⟩ := V.out.getL
                refine (V.out.callRead (Sep.framed MapS.framed RMapS.framed) (E := fun e => e = .returned (.tuple #[.slice none 0 0, .int .i64 2])) (cmapPart_bad hA HY.out.a s (.inr (by omega)))).mono ?_
                rintro e wb1 ⟨rfl, hV1⟩
                have HQ1 := Lib.hid hV1
                clear hV1 hA V
                go_wp2_with fail
                refine ⟨⟨s + 1, by simp, by omega, by omega, HQ1⟩, ?_⟩
                first | omega | (simp only [intOf]; omega)
          · go_wp2_with fail
            go_ret
            exact ⟨rfl, St.below V.out⟩
end Go.Proofs.Ythppleegiieneaa
