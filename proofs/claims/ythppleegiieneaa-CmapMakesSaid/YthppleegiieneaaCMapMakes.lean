/- The law CmapMakes: its walk. -/
import Derived.Test.YthppleegiieneaaCMapAwake
import Derived.Test.YthppleegiieneaaRefShard
import Derived.Test.YthppleegiieneaaItemEnc
import Derived.Test.YthppleegiieneaaMH
import Derived.Deep.RegionHeld3
namespace Go.Proofs.Ythppleegiieneaa
open Go.RowKit
set_option linter.unusedVariables false
set_option linter.unusedSimpArgs false

abbrev itO (mp op dk dv : Int) : Obj := .cells #[.int .i64 mp, .int .i64 op, .int .u64 dk, .int .u64 dv] 42 (0, 0)
theorem awake_only (w : World) : Calls Try.prog 7 #[] w fun e w' => e = .returned (.bool true) ∧ Only (fun _ => False) w w' :=
  (awake_any w).mono fun e w' ⟨he, h⟩ => ⟨he, Only.of_below h fun k h1 h2 => by omega⟩
theorem def_start (kind cap : Int) (w : World) : Upd (Blk w.heap.size (defO kind cap)) (fun _ => False) w (w.alloc (defO kind cap)) := ⟨⟨heap_alloc_new _ _, .inr (Nat.le_refl _)⟩, Only.alloc _ _ _⟩
theorem def_cells {bd : Nat} {kind cap : Int} {S : Nat → Prop} {w W : World} (h : Upd (Blk bd (defO kind cap)) S w W) : W.cell? ⟨bd, 0, none⟩ = some (.int .i64 kind) ∧ W.cell? ⟨bd, 1, none⟩ = some (.int .i64 cap) := ⟨blk_cell h.1.1 0, blk_cell h.1.1 1⟩
theorem na_book {n : Nat} (b : Nat) (w : World) (hn : n = Try.prog.types.size + Made.depth) : (nilAhead n 67 (.pointer (some ⟨b, 0, none⟩)) "Do").run Try.prog w = .ok (some false) w := by
  rw [hn]
  kernel_rfl
theorem na_lru {n : Nat} (b : Nat) (w : World) (hn : n = Try.prog.types.size + Made.depth) : (nilAhead n 70 (.pointer (some ⟨b, 0, none⟩)) "Do").run Try.prog w = .ok (some false) w := by
  rw [hn]
  kernel_rfl
theorem it_cells {w : World} {b off : Nat} {xs : List ItemD} (hc : ∀ j u, (eItem.all xs)[j]? = some u → w.cell? ⟨b, off + j, none⟩ = some u) (k : Nat) (h : k < xs.length) :
    w.cell? ⟨b, off + k * 4 + 1, none⟩ = some (.int .i64 xs[k].2.1) ∧ w.cell? ⟨b, off + k * 4 + 2, none⟩ = some (.int .u64 xs[k].2.2.1) ∧ w.cell? ⟨b, off + k * 4 + 3, none⟩ = some (.int .u64 xs[k].2.2.2) := by
  have e1 := eItem.all_at xs k 1 h (by decide)
  have e2 := eItem.all_at xs k 2 h (by decide)
  have e3 := eItem.all_at xs k 3 h (by decide)
  have a : ∀ j, off + k * 4 + j = off + (k * 4 + j) := fun j => by omega
  exact ⟨by rw [a]; exact hc _ _ (by rw [e1]; rfl), by rw [a]; exact hc _ _ (by rw [e2]; rfl), by rw [a]; exact hc _ _ (by rw [e3]; rfl)⟩
theorem cell_below {w w' : World} (h : Below w.heap.size w w') {a : Addr} {v : Value} (c : w.cell? a = some v) : w'.cell? a = some v :=
  only_cell (Only.of_below h fun k h1 h2 => by omega) c
section
variable {P Q R : (Nat → Prop) → World → Prop} {bd g b : Nat} {kind cap : Int} {s : Sh} {S : Nat → Prop} {w W : World}
theorem mk_cells (h : Upd (Sep (Sep P Q) (Blk bd (defO kind cap))) S w W) : W.cell? ⟨bd, 0, none⟩ = some (.int .i64 kind) ∧ W.cell? ⟨bd, 1, none⟩ = some (.int .i64 cap) := by
  obtain ⟨_, h⟩ := h.getR
  exact ⟨blk_cell h.1 0, blk_cell h.1 1⟩
theorem mk_ptr (h : Upd (Sep (Sep (ShardS (.bound g b) cap s) Q) R) S w W) : W.cell? ⟨g, 0, none⟩ = some (.pointer (some ⟨b, 0, none⟩)) := by
  obtain ⟨_, h⟩ := h.getA
  exact h.ptr
theorem mk_cellsB (h : Upd (Sep (Sep (ShardS (.bound g b) cap s) Q) (Blk bd (defO kind cap))) S w W) : W.cell? ⟨bd, 0, none⟩ = some (.int .i64 kind) ∧ W.cell? ⟨bd, 1, none⟩ = some (.int .i64 cap) ∧ W.cell? ⟨g, 0, none⟩ = some (.pointer (some ⟨b, 0, none⟩)) := ⟨(mk_cells h).1, (mk_cells h).2, mk_ptr h⟩
end
set_option maxRecDepth 100000 in
set_option maxHeartbeats 4000000 in
theorem cmapMakes_bad (kind cap : Int) (v : Value) (w : World) (h : okDef kind cap = false) :
    Calls Try.prog 3 #[.agg #[.int .i64 kind, .int .i64 cap], v] w fun e w' => e = .returned (.bool true) ∧ Below w.heap.size w w' := by
  have hq := sh_eqn0
  go_enter Try.func3, Try.ntmps3
  go_wp2_with fail
  have HB := Lib.hid (def_start kind cap w)
  have hbd : w.heap.size = w.heap.size := rfl
  generalize World.alloc w _ = wa at *
  generalize w.heap.size = bd at *
  refine (HB.out.callRead Blk.framed (E := fun e => e = .returned (.bool true)) (awake_only wa)).mono ?_
  rintro e w1 ⟨rfl, hB1⟩
  have HB1 := Lib.hid hB1
  obtain ⟨c0, c1⟩ := def_cells hB1
  clear hB1 HB
  go_wp2_with fail
  refine (HB1.out.callRead Blk.framed (E := fun e => e = .returned (.tuple #[.nilIface, .int .i64 2])) (make_bad kind cap w1 h)).mono ?_
  rintro e w2 ⟨rfl, hB2⟩
  have HB2 := Lib.hid hB2
  obtain ⟨c0, c1⟩ := def_cells hB2
  clear hB2 HB1
  go_wp2_with fail
  refine (HB2.out.callRead Blk.framed (E := fun e => e = .returned (.tuple #[.pointer none, .int .i64 2])) (refMake_bad kind cap w2 h)).mono ?_
  rintro e w3 ⟨rfl, hB3⟩
  have HB3 := Lib.hid hB3
  clear hB3 HB2
  go_wp2_with fail
  go_ret
  exact ⟨rfl, St.below HB3.out⟩
set_option maxRecDepth 100000 in
set_option maxHeartbeats 40000000 in
theorem cmapMakes_yes (kind cap : Int) (hok : okDef kind cap = true) (ds : List ItemD) (v : Value) (w : World) (hv : Rd eItem w v ds) :
    Calls Try.prog 3 #[.agg #[.int .i64 kind, .int .i64 cap], v] w fun e w' => e = .returned (.bool true) ∧ Below w.heap.size w w' := by
  obtain ⟨hmx, ao, c, rfl, hcap, _, _⟩ := id hv
  unfold maxLen at hmx
  have HV := Lib.hid hv
  have HOK := Lib.hid hok
  have HSG := Lib.hid (show SGood (decide (kind = 1)) cap ([], []) by obtain ⟨_, h1, h2⟩ := okDef_iff.1 hok; exact sgood_nil h1 h2)
  have hq := sh_eqn
  clear hv hok
  go_enter Try.func3, Try.ntmps3
  go_wp2_with fail
  have HB := Lib.hid (def_start kind cap w)
  generalize World.alloc w _ = wa at *
  generalize w.heap.size = bd at *
  refine (HB.out.callRead Blk.framed (E := fun e => e = .returned (.bool true)) (awake_only wa)).mono ?_
  rintro e w1 ⟨rfl, hB1⟩
  have HB1 := Lib.hid hB1
  obtain ⟨c0, c1⟩ := def_cells hB1
  clear hB1 HB
  go_wp2_with fail
  refine (HB1.out.callNew Blk.framed (Yx := fun a S w => a.bd = decide (kind = 1) ∧ ShardS a cap ([], []) S w) (E := fun a e => e = .returned (.tuple #[a.val, .int .i64 0])) (fun _ => Framed.and (Framed.pure _) ShardS.framed) (make_ok kind cap w1 HOK.out)).mono ?_
  rintro e w2 ⟨a, rfl, hB2⟩
  have HBD := Lib.hid (show a.bd = decide (kind = 1) by obtain ⟨_, h, _⟩ := hB2.getR; exact h)
  have HB2 := Lib.hid (show Upd (Sep (Blk bd (defO kind cap)) (ShardS a cap ([], []))) (fun _ => False) w w2 from hB2.imp fun _ h => h.imp (fun _ h => h) fun _ h => h.2)
  obtain ⟨_, hbk⟩ := hB2.getL
  replace c0 : w2.cell? ⟨bd, 0, none⟩ = some (.int .i64 kind) := blk_cell hbk.1 0
  replace c1 : w2.cell? ⟨bd, 1, none⟩ = some (.int .i64 cap) := blk_cell hbk.1 1
  clear hB2 HB1 hbk
  go_wp2_with fail
  refine (HB2.out.callNew (Sep.framed Blk.framed ShardS.framed) (Yx := fun a S w => a.bd = decide (kind = 1) ∧ RShardS a cap ([], []) 0 S w) (E := fun a e => e = .returned (.tuple #[.pointer (some ⟨a.rs, 0, none⟩), .int .i64 0])) (fun _ => Framed.and (Framed.pure _) RShardS.framed) (refMake_ok kind cap w2 HOK.out)).mono ?_
  rintro e w3 ⟨ra, rfl, hB3⟩
  have HRBD := Lib.hid (show ra.bd = decide (kind = 1) by obtain ⟨_, h, _⟩ := hB3.getR; exact h)
  have HB3 := Lib.hid (show Upd (Sep (Sep (ShardS a cap ([], [])) (RShardS ra cap ([], []) 0)) (Blk bd (defO kind cap))) (fun _ => False) w w3 from hB3.imp fun _ h => (h.imp (fun _ h => h) fun _ h => h.2).assoc.swap)
  obtain ⟨_, hbk⟩ := HB3.out.getR
  replace c0 : w3.cell? ⟨bd, 0, none⟩ = some (.int .i64 kind) := blk_cell hbk.1 0
  replace c1 : w3.cell? ⟨bd, 1, none⟩ = some (.int .i64 cap) := blk_cell hbk.1 1
  clear hB3 HB2 hbk
  obtain ⟨rs, hrs⟩ : ∃ rs, rs = ra.rs := ⟨_, rfl⟩
  have HRDO := Lib.hid (show ∀ (bd : Bool), bd = decide (kind = 1) → ∀ (s s' : Sh) (n : Int) (T : Nat → Prop) (W : World) (op key val : Int) (r : ResD), RShardS ra cap s n T W → SGood bd cap s → n < 4611686018427387904 → shP bd cap s op key val = (r, s') → Calls Try.prog 10 #[.pointer (some ⟨rs, 0, none⟩), .int .i64 op, .int .u64 key, .int .u64 val] W fun e w' => e = .returned (.agg #[.int .i64 r.1, .bool r.2.1, .int .u64 r.2.2.1, .bool r.2.2.2.1, .int .u64 r.2.2.2.2.1, .int .u64 r.2.2.2.2.2]) ∧ Upd (RShardS ra cap s' (n + 1)) T W w' from fun bd hb s s' n T W op key val r hT G hn hd => by
    subst hrs
    have hq : ra.bd = bd := by rw [HRBD.out, hb]
    subst hq
    exact refShDo_ hT G hn hd)
  have HRPA := Lib.hid (show ∀ (s : Sh) (n : Int) (T : Nat → Prop) (W : World), RShardS ra cap s n T W → Calls Try.prog 12 #[.pointer (some ⟨rs, 0, none⟩)] W fun e w' => ∃ v', e = .returned v' ∧ OwS ePair 65 (fun k => W.heap.size ≤ k) w' v' s.1 ∧ Only (fun _ => False) W w' from fun s n T W hT => by
    subst hrs
    exact refShPairs_ hT)
  rw [← hrs]
  clear hrs
  cases a with
  | plain b =>
    have h1 := cm_book_cap b
    have h2 := cm_book_len b
    have hcc : (cap != cap) = false := by simp
    simp only [ShA.val]
    go_wp2_with fail
    refine wp_region_noPanic ?_
    refine wp_region_held_drew (S := fun W => W.cell? ⟨bd, 0, none⟩ = some (.int .i64 kind) ∧ W.cell? ⟨bd, 1, none⟩ = some (.int .i64 cap)) (by kernel_rfl) ?_ (fun hHeld => ?_)
    · exact mk_cells (HB3.out.drewU (Sep.framed (Sep.framed ShardS.framed RShardS.framed) Blk.framed))
    try simp only [Act.put, List.getElem_toArray, List.getElem_cons_succ, List.getElem_cons_zero, List.setIfInBounds_toArray, List.set_cons_zero, List.set_cons_succ]
    refine wpAnyH_take (i := 0) (v := ?vpa0) rfl (by kernel_rfl) (by kernel_rfl) (by kernel_rfl) (fun _ _ _ h => h) (Or.inl ⟨by rfl, ?hypa0⟩) (by assumption) ?restpa0
    case hypa0 =>
      intro w hSw
      try dsimp only at hSw
      go_simp
      all_goals with_reducible rfl
    simp only [Act.put, List.getElem_toArray, List.getElem_cons_succ, List.getElem_cons_zero, List.setIfInBounds_toArray, List.set_cons_zero, List.set_cons_succ]
    refine wpAnyH_take (i := 1) (v := ?vpa1) rfl (by kernel_rfl) (by kernel_rfl) (by kernel_rfl) (fun _ _ _ h => h) (Or.inl ⟨by rfl, ?hypa1⟩) (by assumption) ?restpa1
    case hypa1 =>
      intro w hSw
      try dsimp only at hSw
      go_simp
      all_goals with_reducible rfl
    simp only [Act.put, List.getElem_toArray, List.getElem_cons_succ, List.getElem_cons_zero, List.setIfInBounds_toArray, List.set_cons_zero, List.set_cons_succ]
    refine wpAnyH_take (i := 2) (v := ?vpa2) rfl (by kernel_rfl) (by kernel_rfl) (by kernel_rfl) (fun _ _ _ h => h) (Or.inl ⟨by rfl, ?hypa2⟩) (by assumption) ?restpa2
    case hypa2 =>
      intro w hSw
      try dsimp only at hSw
      go_simp
      all_goals with_reducible rfl
    simp only [Act.put, List.getElem_toArray, List.getElem_cons_succ, List.getElem_cons_zero, List.setIfInBounds_toArray, List.set_cons_zero, List.set_cons_succ]
    refine wpAnyH_take (i := 3) (v := ?vpa3) rfl (by kernel_rfl) (by kernel_rfl) (by kernel_rfl) (fun _ _ _ h => h) (Or.inl ⟨by rfl, ?hypa3⟩) (by assumption) ?restpa3
    case hypa3 =>
      intro w hSw
      try dsimp only at hSw
      go_simp
      all_goals with_reducible rfl
    simp only [Act.put, List.getElem_toArray, List.getElem_cons_succ, List.getElem_cons_zero, List.setIfInBounds_toArray, List.set_cons_zero, List.set_cons_succ]
    refine wpAnyH_take (i := 4) (v := ?vpa4) rfl (by kernel_rfl) (by kernel_rfl) (by kernel_rfl) (fun _ _ _ h => h) (Or.inl ⟨by rfl, ?hypa4⟩) (by assumption) ?restpa4
    case hypa4 =>
      intro w hSw
      try dsimp only at hSw
      go_simp
      all_goals with_reducible rfl
    simp only [Act.put, List.getElem_toArray, List.getElem_cons_succ, List.getElem_cons_zero, List.setIfInBounds_toArray, List.set_cons_zero, List.set_cons_succ]
    refine wpAnyH_take (i := 5) (v := ?vpa5) rfl (by kernel_rfl) (by kernel_rfl) (by kernel_rfl) (fun _ _ _ h => h) (Or.inl ⟨by rfl, ?hypa5⟩) (by assumption) ?restpa5
    case hypa5 =>
      intro w hSw
      try dsimp only at hSw
      go_simp
      all_goals with_reducible rfl
    simp only [Act.put, List.getElem_toArray, List.getElem_cons_succ, List.getElem_cons_zero, List.setIfInBounds_toArray, List.set_cons_zero, List.set_cons_succ]
    refine wpAnyH_take (i := 6) (v := ?vpa6) rfl (by kernel_rfl) (by kernel_rfl) (by kernel_rfl) (fun _ _ _ h => h) (Or.inl ⟨by rfl, ?hypa6⟩) (by assumption) ?restpa6
    case hypa6 =>
      intro w hSw
      try dsimp only at hSw
      go_simp
      all_goals with_reducible rfl
    simp only [Act.put, List.getElem_toArray, List.getElem_cons_succ, List.getElem_cons_zero, List.setIfInBounds_toArray, List.set_cons_zero, List.set_cons_succ]
    refine wpAnyH_take (i := 7) (v := ?vpa7) rfl (by kernel_rfl) (by kernel_rfl) (by kernel_rfl) (fun _ _ _ h => h) (Or.inl ⟨by rfl, ?hypa7⟩) (by assumption) ?restpa7
    case hypa7 =>
      intro w hSw
      try dsimp only at hSw
      go_simp
      all_goals with_reducible rfl
    simp only [Act.put, List.getElem_toArray, List.getElem_cons_succ, List.getElem_cons_zero, List.setIfInBounds_toArray, List.set_cons_zero, List.set_cons_succ]
    refine wpAnyH_take (i := 9) (v := ?vpa9) rfl (by kernel_rfl) (by kernel_rfl) (by kernel_rfl) (fun _ _ _ h => h) (Or.inl ⟨by rfl, ?hypa9⟩) (by assumption) ?restpa9
    case hypa9 =>
      intro w hSw
      try dsimp only at hSw
      go_simp
      all_goals with_reducible rfl
    simp only [Act.put, List.getElem_toArray, List.getElem_cons_succ, List.getElem_cons_zero, List.setIfInBounds_toArray, List.set_cons_zero, List.set_cons_succ]
    refine wpAnyH_take (i := 10) (v := ?vpa10) rfl (by kernel_rfl) (by kernel_rfl) (by kernel_rfl) (fun _ _ _ h => h) (Or.inl ⟨by rfl, ?hypa10⟩) (by assumption) ?restpa10
    case hypa10 =>
      intro w hSw
      try dsimp only at hSw
      go_simp
      all_goals with_reducible rfl
    simp only [Act.put, List.getElem_toArray, List.getElem_cons_succ, List.getElem_cons_zero, List.setIfInBounds_toArray, List.set_cons_zero, List.set_cons_succ]
    refine wpAnyH_ready (rs := [8]) (by kernel_rfl) (by simp) ?_
    refine AllReadyH.cons rfl (fun K hK => ?_) AllReadyH.nil
    go_simp
    obtain ⟨_, hA⟩ := (HB3.out.drewU (Sep.framed (Sep.framed ShardS.framed RShardS.framed) Blk.framed)).getA
    refine ((HB3.out.drewU (Sep.framed (Sep.framed ShardS.framed RShardS.framed) Blk.framed)).callRead (Sep.framed (Sep.framed ShardS.framed RShardS.framed) Blk.framed) (E := fun e => e = .returned (.int .i64 cap)) (shCap_plain hA)).mono ?_
    rintro e w4 ⟨rfl, hB4⟩
    have HB4 := Lib.hid hB4
    clear hB4 hA
    try go_wp2_with fail
    refine hK.out _ _ ?_ (fun hHeld => ?_)
    · exact (mk_cells HB4.out)
    clear hK K
    try simp only [Act.put, List.getElem_toArray, List.getElem_cons_succ, List.getElem_cons_zero, List.setIfInBounds_toArray, List.set_cons_zero, List.set_cons_succ]
    refine wpAnyH_take (i := 11) (v := ?vpa11) rfl (by kernel_rfl) (by kernel_rfl) (by kernel_rfl) (fun _ _ _ h => h) (Or.inl ⟨by rfl, ?hypa11⟩) (by assumption) ?restpa11
    case hypa11 =>
      intro w hSw
      try dsimp only at hSw
      go_simp
      all_goals with_reducible rfl
    simp only [Act.put, List.getElem_toArray, List.getElem_cons_succ, List.getElem_cons_zero, List.setIfInBounds_toArray, List.set_cons_zero, List.set_cons_succ]
    refine wpAnyH_take (i := 12) (v := ?vpa12) rfl (by kernel_rfl) (by kernel_rfl) (by kernel_rfl) (fun _ _ _ h => h) (Or.inl ⟨by rfl, ?hypa12⟩) (by assumption) ?restpa12
    case hypa12 =>
      intro w hSw
      try dsimp only at hSw
      go_simp
      all_goals with_reducible rfl
    simp only [Act.put, List.getElem_toArray, List.getElem_cons_succ, List.getElem_cons_zero, List.setIfInBounds_toArray, List.set_cons_zero, List.set_cons_succ]
    refine wpAnyH_take (i := 13) (v := ?vpa13) rfl (by kernel_rfl) (by kernel_rfl) (by kernel_rfl) (fun _ _ _ h => h) (Or.inl ⟨by rfl, ?hypa13⟩) (by assumption) ?restpa13
    case hypa13 =>
      intro w hSw
      try dsimp only at hSw
      go_simp
      all_goals with_reducible rfl
    simp only [Act.put, List.getElem_toArray, List.getElem_cons_succ, List.getElem_cons_zero, List.setIfInBounds_toArray, List.set_cons_zero, List.set_cons_succ]
    refine wpAnyH_take (i := 14) (v := ?vpa14) rfl (by kernel_rfl) (by kernel_rfl) (by kernel_rfl) (fun _ _ _ h => h) (Or.inl ⟨by rfl, ?hypa14⟩) (by assumption) ?restpa14
    case hypa14 =>
      intro w hSw
      try dsimp only at hSw
      go_simp
      all_goals with_reducible rfl
    simp only [Act.put, List.getElem_toArray, List.getElem_cons_succ, List.getElem_cons_zero, List.setIfInBounds_toArray, List.set_cons_zero, List.set_cons_succ]
    refine wpAnyH_ready (rs := [15]) (by kernel_rfl) (by simp) ?_
    refine AllReadyH.cons rfl (fun K hK => ?_) AllReadyH.nil
    go_simp
    obtain ⟨_, hA⟩ := HB4.out.getA
    refine (HB4.out.callRead (Sep.framed (Sep.framed ShardS.framed RShardS.framed) Blk.framed) (E := fun e => e = .returned (.int .i64 0)) (shLen_plain hA)).mono ?_
    rintro e w5 ⟨rfl, hB5⟩
    have HB5 := Lib.hid hB5
    clear hB5 hA
    try go_wp2_with fail
    refine hK.out _ _ ?_ (fun hHeld => ?_)
    · exact (mk_cells HB5.out)
    clear hK K
    try simp only [Act.put, List.getElem_toArray, List.getElem_cons_succ, List.getElem_cons_zero, List.setIfInBounds_toArray, List.set_cons_zero, List.set_cons_succ]
    refine wpAnyH_take (i := 16) (v := ?vpa16) rfl (by kernel_rfl) (by kernel_rfl) (by kernel_rfl) (fun _ _ _ h => h) (Or.inl ⟨by rfl, ?hypa16⟩) (by assumption) ?restpa16
    case hypa16 =>
      intro w hSw
      try dsimp only at hSw
      go_simp
      all_goals with_reducible rfl
    simp only [Act.put, List.getElem_toArray, List.getElem_cons_succ, List.getElem_cons_zero, List.setIfInBounds_toArray, List.set_cons_zero, List.set_cons_succ]
    refine wpAnyH_take (i := 17) (v := ?vpa17) rfl (by kernel_rfl) (by kernel_rfl) (by kernel_rfl) (fun _ _ _ h => h) (Or.inl ⟨by rfl, ?hypa17⟩) (by assumption) ?restpa17
    case hypa17 =>
      intro w hSw
      try dsimp only at hSw
      go_simp
      all_goals with_reducible rfl
    simp only [Act.put, List.getElem_toArray, List.getElem_cons_succ, List.getElem_cons_zero, List.setIfInBounds_toArray, List.set_cons_zero, List.set_cons_succ]
    clear hHeld
    refine wpAnyH_done (by kernel_rfl) ?_ _
    refine NoPanic.normal ?_
    clear HB3 HB4 c0 c1 h1 h2 hcc
    have HK := Lib.hid (show false = decide (kind = 1) from HBD.out)
    have HG0 := Lib.hid (show SGood false cap ([], []) by rw [HK.out]; exact HSG.out)
    clear HSG HOK HBD HRBD
    go_wp2_with fail
    go_loopw [9] (fun t9 wr => ∃ (k : Nat) (s : Sh), k ≤ ds.length ∧ k ≤ 3000 ∧ t9 = .int .i64 k ∧ Hid (SGood false cap s) ∧ Hid (Upd (Sep (Sep (ShardS (.plain b) cap s) (RShardS ra cap s (k : Int))) (Blk bd (defO kind cap))) (fun _ => False) w wr)) (fun t9 _ => ds.length - (intOf t9).toNat)
    case atStart => exact ⟨0, ([], []), Nat.zero_le _, by decide, rfl, HG0, HB5⟩
    case round =>
      clear HB5 HG0
      obtain ⟨k, s, hk, hk3, rfl, HG, V⟩ := hrel
      by_cases hlt : k < ds.length ∧ k < 3000
      · obtain ⟨hlt, hl3⟩ := hlt
        obtain ⟨_, ao', cap', hao, _, _, hx⟩ := HV.out
        obtain ⟨rfl, -, rfl⟩ : ao = ao' ∧ ds.length = ds.length ∧ c = cap' := by simpa using hao
        obtain ⟨sb, off, rfl, hc⟩ := hx (by omega)
        obtain ⟨c0, c1, c2⟩ := it_cells hc k hlt
        have hi0 : (0 : Int) ≤ (k : Int) := by omega
        have hi1 : (k : Int) < (ds.length : Int) := by omega
        clear hc hx hao
        generalize ds[k].2.1 = op at *
        generalize ds[k].2.2.1 = dk at *
        generalize ds[k].2.2.2 = dv at *
        have HC0 := Lib.hid (And.intro c0 (And.intro c1 c2))
        replace c0 := cell_below (St.below V.out) c0
        replace c1 := cell_below (St.below V.out) c1
        replace c2 := cell_below (St.below V.out) c2
        obtain ⟨⟨x0, x1, x2, x3, x4, x5⟩, s2, hd⟩ : ∃ r s2, shP false cap s op dk dv = (r, s2) := ⟨_, _, rfl⟩
        have HD := Lib.hid hd
        have HG2 := Lib.hid (show SGood false cap s2 by have := sh_good (op := op) (k := dk) (v := dv) HG.out; rwa [hd] at this)
        have hz := res_neq_self x0 x1 x2 x3 x4 x5
        have hcm := cm_book_do b op dk dv
        clear hd
        go_wp2_with fail
        have HKC := Lib.hid (show ∀ W, Below w.heap.size w W → W.cell? ⟨sb, off + k * 4 + 1, none⟩ = some (.int .i64 op) ∧ W.cell? ⟨sb, off + k * 4 + 2, none⟩ = some (.int .u64 dk) ∧ W.cell? ⟨sb, off + k * 4 + 3, none⟩ = some (.int .u64 dv) from fun W h => ⟨cell_below h HC0.out.1, cell_below h HC0.out.2.1, cell_below h HC0.out.2.2⟩)
        refine wp_region_noPanic ?_
        refine wp_region_held_drew (S := fun W => W.cell? ⟨sb, off + k * 4 + 1, none⟩ = some (.int .i64 op) ∧ W.cell? ⟨sb, off + k * 4 + 2, none⟩ = some (.int .u64 dk) ∧ W.cell? ⟨sb, off + k * 4 + 3, none⟩ = some (.int .u64 dv)) (by kernel_rfl) ?_ (fun hHeld => ?_)
        · exact ⟨c0, c1, c2⟩
        try simp only [Act.put, List.getElem_toArray, List.getElem_cons_succ, List.getElem_cons_zero, List.setIfInBounds_toArray, List.set_cons_zero, List.set_cons_succ]
        refine wpAnyH_take (i := 0) (v := ?vpb0) rfl (by kernel_rfl) (by kernel_rfl) (by kernel_rfl) (fun _ _ _ h => h) (Or.inl ⟨by rfl, ?hypb0⟩) (by assumption) ?restpb0
        case hypb0 =>
          intro w hSw
          try dsimp only at hSw
          go_simp
          all_goals with_reducible rfl
        simp only [Act.put, List.getElem_toArray, List.getElem_cons_succ, List.getElem_cons_zero, List.setIfInBounds_toArray, List.set_cons_zero, List.set_cons_succ]
        refine wpAnyH_take (i := 1) (v := ?vpb1) rfl (by kernel_rfl) (by kernel_rfl) (by kernel_rfl) (fun _ _ _ h => h) (Or.inl ⟨by rfl, ?hypb1⟩) (by assumption) ?restpb1
        case hypb1 =>
          intro w hSw
          try dsimp only at hSw
          go_simp
          all_goals with_reducible rfl
        simp only [Act.put, List.getElem_toArray, List.getElem_cons_succ, List.getElem_cons_zero, List.setIfInBounds_toArray, List.set_cons_zero, List.set_cons_succ]
        refine wpAnyH_take (i := 2) (v := ?vpb2) rfl (by kernel_rfl) (by kernel_rfl) (by kernel_rfl) (fun _ _ _ h => h) (Or.inl ⟨by rfl, ?hypb2⟩) (by assumption) ?restpb2
        case hypb2 =>
          intro w hSw
          try dsimp only at hSw
          go_simp
          all_goals with_reducible rfl
        simp only [Act.put, List.getElem_toArray, List.getElem_cons_succ, List.getElem_cons_zero, List.setIfInBounds_toArray, List.set_cons_zero, List.set_cons_succ]
        refine wpAnyH_take (i := 3) (v := ?vpb3) rfl (by kernel_rfl) (by kernel_rfl) (by kernel_rfl) (fun _ _ _ h => h) (Or.inl ⟨by rfl, ?hypb3⟩) (by assumption) ?restpb3
        case hypb3 =>
          intro w hSw
          try dsimp only at hSw
          go_simp
          all_goals with_reducible rfl
        simp only [Act.put, List.getElem_toArray, List.getElem_cons_succ, List.getElem_cons_zero, List.setIfInBounds_toArray, List.set_cons_zero, List.set_cons_succ]
        refine wpAnyH_take (i := 4) (v := ?vpb4) rfl (by kernel_rfl) (by kernel_rfl) (by kernel_rfl) (fun _ _ _ h => h) (Or.inl ⟨by rfl, ?hypb4⟩) (by assumption) ?restpb4
        case hypb4 =>
          intro w hSw
          try dsimp only at hSw
          go_simp
          all_goals with_reducible rfl
        simp only [Act.put, List.getElem_toArray, List.getElem_cons_succ, List.getElem_cons_zero, List.setIfInBounds_toArray, List.set_cons_zero, List.set_cons_succ]
        refine wpAnyH_take (i := 5) (v := ?vpb5) rfl (by kernel_rfl) (by kernel_rfl) (by kernel_rfl) (fun _ _ _ h => h) (Or.inl ⟨by rfl, ?hypb5⟩) (by assumption) ?restpb5
        case hypb5 =>
          intro w hSw
          try dsimp only at hSw
          go_simp
          all_goals with_reducible rfl
        simp only [Act.put, List.getElem_toArray, List.getElem_cons_succ, List.getElem_cons_zero, List.setIfInBounds_toArray, List.set_cons_zero, List.set_cons_succ]
        refine wpAnyH_take (i := 6) (v := ?vpb6) rfl (by kernel_rfl) (by kernel_rfl) (by kernel_rfl) (fun _ _ _ h => h) (Or.inl ⟨by rfl, ?hypb6⟩) (by assumption) ?restpb6
        case hypb6 =>
          intro w hSw
          try dsimp only at hSw
          go_simp
          all_goals with_reducible rfl
        simp only [Act.put, List.getElem_toArray, List.getElem_cons_succ, List.getElem_cons_zero, List.setIfInBounds_toArray, List.set_cons_zero, List.set_cons_succ]
        refine wpAnyH_take (i := 7) (v := ?vpb7) rfl (by kernel_rfl) (by kernel_rfl) (by kernel_rfl) (fun _ _ _ h => h) (Or.inl ⟨by rfl, ?hypb7⟩) (by assumption) ?restpb7
        case hypb7 =>
          intro w hSw
          try dsimp only at hSw
          go_simp
          all_goals with_reducible rfl
        simp only [Act.put, List.getElem_toArray, List.getElem_cons_succ, List.getElem_cons_zero, List.setIfInBounds_toArray, List.set_cons_zero, List.set_cons_succ]
        refine wpAnyH_take (i := 8) (v := ?vpb8) rfl (by kernel_rfl) (by kernel_rfl) (by kernel_rfl) (fun _ _ _ h => h) (Or.inl ⟨by rfl, ?hypb8⟩) (by assumption) ?restpb8
        case hypb8 =>
          intro w hSw
          try dsimp only at hSw
          go_simp
          all_goals with_reducible rfl
        simp only [Act.put, List.getElem_toArray, List.getElem_cons_succ, List.getElem_cons_zero, List.setIfInBounds_toArray, List.set_cons_zero, List.set_cons_succ]
        refine wpAnyH_take (i := 9) (v := ?vpb9) rfl (by kernel_rfl) (by kernel_rfl) (by kernel_rfl) (fun _ _ _ h => h) (Or.inl ⟨by rfl, ?hypb9⟩) (by assumption) ?restpb9
        case hypb9 =>
          intro w hSw
          try dsimp only at hSw
          go_simp
          all_goals with_reducible rfl
        simp only [Act.put, List.getElem_toArray, List.getElem_cons_succ, List.getElem_cons_zero, List.setIfInBounds_toArray, List.set_cons_zero, List.set_cons_succ]
        refine wpAnyH_take (i := 10) (v := ?vpb10) rfl (by kernel_rfl) (by kernel_rfl) (by kernel_rfl) (fun _ _ _ h => h) (Or.inl ⟨by rfl, ?hypb10⟩) (by assumption) ?restpb10
        case hypb10 =>
          intro w hSw
          try dsimp only at hSw
          go_simp
          all_goals with_reducible rfl
        simp only [Act.put, List.getElem_toArray, List.getElem_cons_succ, List.getElem_cons_zero, List.setIfInBounds_toArray, List.set_cons_zero, List.set_cons_succ]
        refine wpAnyH_take (i := 11) (v := ?vpb11) rfl (by kernel_rfl) (by kernel_rfl) (by kernel_rfl) (fun _ _ _ h => h) (Or.inl ⟨by rfl, ?hypb11⟩) (by assumption) ?restpb11
        case hypb11 =>
          intro w hSw
          try dsimp only at hSw
          go_simp
          all_goals with_reducible rfl
        simp only [Act.put, List.getElem_toArray, List.getElem_cons_succ, List.getElem_cons_zero, List.setIfInBounds_toArray, List.set_cons_zero, List.set_cons_succ]
        refine wpAnyH_take (i := 12) (v := ?vpb12) rfl (by kernel_rfl) (by kernel_rfl) (by kernel_rfl) (fun _ _ _ h => h) (Or.inl ⟨by rfl, ?hypb12⟩) (by assumption) ?restpb12
        case hypb12 =>
          intro w hSw
          try dsimp only at hSw
          go_simp
          all_goals with_reducible rfl
        simp only [Act.put, List.getElem_toArray, List.getElem_cons_succ, List.getElem_cons_zero, List.setIfInBounds_toArray, List.set_cons_zero, List.set_cons_succ]
        refine wpAnyH_take (i := 13) (v := ?vpb13) rfl (by kernel_rfl) (by kernel_rfl) (by kernel_rfl) (fun _ _ _ h => h) (Or.inl ⟨by rfl, ?hypb13⟩) (by assumption) ?restpb13
        case hypb13 =>
          intro w hSw
          try dsimp only at hSw
          go_simp
          all_goals with_reducible rfl
        simp only [Act.put, List.getElem_toArray, List.getElem_cons_succ, List.getElem_cons_zero, List.setIfInBounds_toArray, List.set_cons_zero, List.set_cons_succ]
        refine wpAnyH_take (i := 14) (v := ?vpb14) rfl (by kernel_rfl) (by kernel_rfl) (by kernel_rfl) (fun _ _ _ h => h) (Or.inl ⟨by rfl, ?hypb14⟩) (by assumption) ?restpb14
        case hypb14 =>
          intro w hSw
          try dsimp only at hSw
          go_simp
          all_goals with_reducible rfl
        simp only [Act.put, List.getElem_toArray, List.getElem_cons_succ, List.getElem_cons_zero, List.setIfInBounds_toArray, List.set_cons_zero, List.set_cons_succ]
        refine wpAnyH_take (i := 15) (v := ?vpb15) rfl (by kernel_rfl) (by kernel_rfl) (by kernel_rfl) (fun _ _ _ h => h) (Or.inl ⟨by rfl, ?hypb15⟩) (by assumption) ?restpb15
        case hypb15 =>
          intro w hSw
          try dsimp only at hSw
          go_simp
          all_goals with_reducible rfl
        simp only [Act.put, List.getElem_toArray, List.getElem_cons_succ, List.getElem_cons_zero, List.setIfInBounds_toArray, List.set_cons_zero, List.set_cons_succ]
        refine wpAnyH_take (i := 16) (v := ?vpb16) rfl (by kernel_rfl) (by kernel_rfl) (by kernel_rfl) (fun _ _ _ h => h) (Or.inl ⟨by rfl, ?hypb16⟩) (by assumption) ?restpb16
        case hypb16 =>
          intro w hSw
          try dsimp only at hSw
          go_simp
          all_goals with_reducible rfl
        simp only [Act.put, List.getElem_toArray, List.getElem_cons_succ, List.getElem_cons_zero, List.setIfInBounds_toArray, List.set_cons_zero, List.set_cons_succ]
        refine wpAnyH_take (i := 17) (v := ?vpb17) rfl (by kernel_rfl) (by kernel_rfl) (by kernel_rfl) (fun _ _ _ h => h) (Or.inl ⟨by rfl, ?hypb17⟩) (by assumption) ?restpb17
        case hypb17 =>
          intro w hSw
          try dsimp only at hSw
          go_simp
          rw [na_book b _ (by kernel_rfl)]
          exact rfl
        simp only [Act.put, List.getElem_toArray, List.getElem_cons_succ, List.getElem_cons_zero, List.setIfInBounds_toArray, List.set_cons_zero, List.set_cons_succ]
        refine wpAnyH_take (i := 18) (v := ?vpb18) rfl (by kernel_rfl) (by kernel_rfl) (by kernel_rfl) (fun _ _ _ h => h) (Or.inl ⟨by rfl, ?hypb18⟩) (by assumption) ?restpb18
        case hypb18 =>
          intro w hSw
          try dsimp only at hSw
          go_simp
          all_goals with_reducible rfl
        simp only [Act.put, List.getElem_toArray, List.getElem_cons_succ, List.getElem_cons_zero, List.setIfInBounds_toArray, List.set_cons_zero, List.set_cons_succ]
        refine wpAnyH_take (i := 20) (v := ?vpb20) rfl (by kernel_rfl) (by kernel_rfl) (by kernel_rfl) (fun _ _ _ h => h) (Or.inl ⟨by rfl, ?hypb20⟩) (by assumption) ?restpb20
        case hypb20 =>
          intro w hSw
          try dsimp only at hSw
          go_simp
          all_goals with_reducible rfl
        simp only [Act.put, List.getElem_toArray, List.getElem_cons_succ, List.getElem_cons_zero, List.setIfInBounds_toArray, List.set_cons_zero, List.set_cons_succ]
        refine wpAnyH_take (i := 21) (v := ?vpb21) rfl (by kernel_rfl) (by kernel_rfl) (by kernel_rfl) (fun _ _ _ h => h) (Or.inl ⟨by rfl, ?hypb21⟩) (by assumption) ?restpb21
        case hypb21 =>
          intro w hSw
          try dsimp only at hSw
          go_simp
          all_goals with_reducible rfl
        simp only [Act.put, List.getElem_toArray, List.getElem_cons_succ, List.getElem_cons_zero, List.setIfInBounds_toArray, List.set_cons_zero, List.set_cons_succ]
        refine wpAnyH_take (i := 22) (v := ?vpb22) rfl (by kernel_rfl) (by kernel_rfl) (by kernel_rfl) (fun _ _ _ h => h) (Or.inl ⟨by rfl, ?hypb22⟩) (by assumption) ?restpb22
        case hypb22 =>
          intro w hSw
          try dsimp only at hSw
          go_simp
          all_goals with_reducible rfl
        simp only [Act.put, List.getElem_toArray, List.getElem_cons_succ, List.getElem_cons_zero, List.setIfInBounds_toArray, List.set_cons_zero, List.set_cons_succ]
        refine wpAnyH_take (i := 23) (v := ?vpb23) rfl (by kernel_rfl) (by kernel_rfl) (by kernel_rfl) (fun _ _ _ h => h) (Or.inl ⟨by rfl, ?hypb23⟩) (by assumption) ?restpb23
        case hypb23 =>
          intro w hSw
          try dsimp only at hSw
          go_simp
          all_goals with_reducible rfl
        simp only [Act.put, List.getElem_toArray, List.getElem_cons_succ, List.getElem_cons_zero, List.setIfInBounds_toArray, List.set_cons_zero, List.set_cons_succ]
        refine wpAnyH_take (i := 24) (v := ?vpb24) rfl (by kernel_rfl) (by kernel_rfl) (by kernel_rfl) (fun _ _ _ h => h) (Or.inl ⟨by rfl, ?hypb24⟩) (by assumption) ?restpb24
        case hypb24 =>
          intro w hSw
          try dsimp only at hSw
          go_simp
          all_goals with_reducible rfl
        simp only [Act.put, List.getElem_toArray, List.getElem_cons_succ, List.getElem_cons_zero, List.setIfInBounds_toArray, List.set_cons_zero, List.set_cons_succ]
        refine wpAnyH_take (i := 25) (v := ?vpb25) rfl (by kernel_rfl) (by kernel_rfl) (by kernel_rfl) (fun _ _ _ h => h) (Or.inl ⟨by rfl, ?hypb25⟩) (by assumption) ?restpb25
        case hypb25 =>
          intro w hSw
          try dsimp only at hSw
          go_simp
          all_goals with_reducible rfl
        simp only [Act.put, List.getElem_toArray, List.getElem_cons_succ, List.getElem_cons_zero, List.setIfInBounds_toArray, List.set_cons_zero, List.set_cons_succ]
        refine wpAnyH_take (i := 26) (v := ?vpb26) rfl (by kernel_rfl) (by kernel_rfl) (by kernel_rfl) (fun _ _ _ h => h) (Or.inl ⟨by rfl, ?hypb26⟩) (by assumption) ?restpb26
        case hypb26 =>
          intro w hSw
          try dsimp only at hSw
          go_simp
          all_goals with_reducible rfl
        simp only [Act.put, List.getElem_toArray, List.getElem_cons_succ, List.getElem_cons_zero, List.setIfInBounds_toArray, List.set_cons_zero, List.set_cons_succ]
        refine wpAnyH_take (i := 27) (v := ?vpb27) rfl (by kernel_rfl) (by kernel_rfl) (by kernel_rfl) (fun _ _ _ h => h) (Or.inl ⟨by rfl, ?hypb27⟩) (by assumption) ?restpb27
        case hypb27 =>
          intro w hSw
          try dsimp only at hSw
          go_simp
          all_goals with_reducible rfl
        simp only [Act.put, List.getElem_toArray, List.getElem_cons_succ, List.getElem_cons_zero, List.setIfInBounds_toArray, List.set_cons_zero, List.set_cons_succ]
        refine wpAnyH_take (i := 28) (v := ?vpb28) rfl (by kernel_rfl) (by kernel_rfl) (by kernel_rfl) (fun _ _ _ h => h) (Or.inl ⟨by rfl, ?hypb28⟩) (by assumption) ?restpb28
        case hypb28 =>
          intro w hSw
          try dsimp only at hSw
          go_simp
          all_goals with_reducible rfl
        simp only [Act.put, List.getElem_toArray, List.getElem_cons_succ, List.getElem_cons_zero, List.setIfInBounds_toArray, List.set_cons_zero, List.set_cons_succ]
        refine wpAnyH_take (i := 29) (v := ?vpb29) rfl (by kernel_rfl) (by kernel_rfl) (by kernel_rfl) (fun _ _ _ h => h) (Or.inl ⟨by rfl, ?hypb29⟩) (by assumption) ?restpb29
        case hypb29 =>
          intro w hSw
          try dsimp only at hSw
          go_simp
          all_goals with_reducible rfl
        simp only [Act.put, List.getElem_toArray, List.getElem_cons_succ, List.getElem_cons_zero, List.setIfInBounds_toArray, List.set_cons_zero, List.set_cons_succ]
        refine wpAnyH_take (i := 30) (v := ?vpb30) rfl (by kernel_rfl) (by kernel_rfl) (by kernel_rfl) (fun _ _ _ h => h) (Or.inl ⟨by rfl, ?hypb30⟩) (by assumption) ?restpb30
        case hypb30 =>
          intro w hSw
          try dsimp only at hSw
          go_simp
          all_goals with_reducible rfl
        simp only [Act.put, List.getElem_toArray, List.getElem_cons_succ, List.getElem_cons_zero, List.setIfInBounds_toArray, List.set_cons_zero, List.set_cons_succ]
        refine wpAnyH_take (i := 31) (v := ?vpb31) rfl (by kernel_rfl) (by kernel_rfl) (by kernel_rfl) (fun _ _ _ h => h) (Or.inl ⟨by rfl, ?hypb31⟩) (by assumption) ?restpb31
        case hypb31 =>
          intro w hSw
          try dsimp only at hSw
          go_simp
          all_goals with_reducible rfl
        simp only [Act.put, List.getElem_toArray, List.getElem_cons_succ, List.getElem_cons_zero, List.setIfInBounds_toArray, List.set_cons_zero, List.set_cons_succ]
        refine wpAnyH_take (i := 32) (v := ?vpb32) rfl (by kernel_rfl) (by kernel_rfl) (by kernel_rfl) (fun _ _ _ h => h) (Or.inl ⟨by rfl, ?hypb32⟩) (by assumption) ?restpb32
        case hypb32 =>
          intro w hSw
          try dsimp only at hSw
          go_simp
          all_goals with_reducible rfl
        simp only [Act.put, List.getElem_toArray, List.getElem_cons_succ, List.getElem_cons_zero, List.setIfInBounds_toArray, List.set_cons_zero, List.set_cons_succ]
        refine wpAnyH_take (i := 33) (v := ?vpb33) rfl (by kernel_rfl) (by kernel_rfl) (by kernel_rfl) (fun _ _ _ h => h) (Or.inl ⟨by rfl, ?hypb33⟩) (by assumption) ?restpb33
        case hypb33 =>
          intro w hSw
          try dsimp only at hSw
          go_simp
          all_goals with_reducible rfl
        simp only [Act.put, List.getElem_toArray, List.getElem_cons_succ, List.getElem_cons_zero, List.setIfInBounds_toArray, List.set_cons_zero, List.set_cons_succ]
        refine wpAnyH_take (i := 34) (v := ?vpb34) rfl (by kernel_rfl) (by kernel_rfl) (by kernel_rfl) (fun _ _ _ h => h) (Or.inl ⟨by rfl, ?hypb34⟩) (by assumption) ?restpb34
        case hypb34 =>
          intro w hSw
          try dsimp only at hSw
          go_simp
          all_goals with_reducible rfl
        simp only [Act.put, List.getElem_toArray, List.getElem_cons_succ, List.getElem_cons_zero, List.setIfInBounds_toArray, List.set_cons_zero, List.set_cons_succ]
        refine wpAnyH_take (i := 35) (v := ?vpb35) rfl (by kernel_rfl) (by kernel_rfl) (by kernel_rfl) (fun _ _ _ h => h) (Or.inl ⟨by rfl, ?hypb35⟩) (by assumption) ?restpb35
        case hypb35 =>
          intro w hSw
          try dsimp only at hSw
          go_simp
          all_goals with_reducible rfl
        simp only [Act.put, List.getElem_toArray, List.getElem_cons_succ, List.getElem_cons_zero, List.setIfInBounds_toArray, List.set_cons_zero, List.set_cons_succ]
        refine wpAnyH_ready (rs := [19]) (by kernel_rfl) (by simp) ?_
        refine AllReadyH.cons rfl (fun K hK => ?_) AllReadyH.nil
        go_simp
        refine ((V.out.drewU (Sep.framed (Sep.framed ShardS.framed RShardS.framed) Blk.framed)).onA RShardS.framed Blk.framed (P' := ShardS (.plain b) cap s2) (E := fun e => e = .returned (.agg #[.int .i64 x0, .bool x1, .int .u64 x2, .bool x3, .int .u64 x4, .int .u64 x5])) ShardS.framed fun A hA => shDo_plain hA HG.out HD.out).mono ?_
        rintro e wi ⟨rfl, hVi⟩
        have HVi := Lib.hid hVi
        clear hVi
        try go_wp2_with fail
        refine hK.out _ _ ?_ (fun hHeld => ?_)
        · exact (HKC.out _ (St.below HVi.out))
        clear hK K
        try simp only [Act.put, List.getElem_toArray, List.getElem_cons_succ, List.getElem_cons_zero, List.setIfInBounds_toArray, List.set_cons_zero, List.set_cons_succ]
        refine wpAnyH_ready (rs := [36]) (by kernel_rfl) (by simp) ?_
        refine AllReadyH.cons rfl (fun K hK => ?_) AllReadyH.nil
        go_simp
        refine (HVi.out.onB ShardS.framed Blk.framed (Q' := RShardS ra cap s2 ((k : Int) + 1)) (E := fun e => e = .returned (.agg #[.int .i64 x0, .bool x1, .int .u64 x2, .bool x3, .int .u64 x4, .int .u64 x5])) RShardS.framed fun A hA => HRDO.out _ HK.out s s2 k A _ op dk dv (x0, x1, x2, x3, x4, x5) hA HG.out (by omega) HD.out).mono ?_
        rintro e wj ⟨rfl, hVj⟩
        have HVj := Lib.hid hVj
        clear hVj
        try go_wp2_with fail
        refine hK.out _ _ ?_ (fun hHeld => ?_)
        · exact (HKC.out _ (St.below HVj.out))
        clear hK K
        try simp only [Act.put, List.getElem_toArray, List.getElem_cons_succ, List.getElem_cons_zero, List.setIfInBounds_toArray, List.set_cons_zero, List.set_cons_succ]
        refine wpAnyH_take (i := 37) (v := ?vpb37) rfl (by kernel_rfl) (by kernel_rfl) (by kernel_rfl) (fun _ _ _ h => h) (Or.inl ⟨by rfl, ?hypb37⟩) (by assumption) ?restpb37
        case hypb37 =>
          intro w hSw
          try dsimp only at hSw
          go_simp
          all_goals with_reducible rfl
        simp only [Act.put, List.getElem_toArray, List.getElem_cons_succ, List.getElem_cons_zero, List.setIfInBounds_toArray, List.set_cons_zero, List.set_cons_succ]
        clear hHeld
        refine wpAnyH_done (by kernel_rfl) ?_ _
        refine NoPanic.normal ?_
        go_wp2_with fail
        refine ⟨⟨k + 1, s2, by omega, by omega, by simp, HG2, by exact_mod_cast HVj⟩, ?_⟩
        first | omega | (simp only [intOf]; omega)
      · have hor : k = ds.length ∨ (k < ds.length ∧ k = 3000) := by omega
        rcases hor with rfl | ⟨hlt2, rfl⟩
        · have hp := cm_book_pairs b
          have hl := cm_book_len b
          go_wp2_with fail
          obtain ⟨_, hA⟩ := V.out.getA
          refine (V.out.callKeep (Sep.framed ShardS.framed RShardS.framed) Blk.framed (Yx := fun v S w => OwS ePair 65 S w v s.1) (E := fun v e => e = .returned v) (fun _ => OwS.framed) (shPairs_plain hA HG.out)).mono ?_
          rintro e v1w ⟨v1, rfl, hV1⟩
          have HQ1 := Lib.hid (hV1.rest (R' := fun S w => OwS ePair 65 S w v1 s.1) fun _ h => h.2)
          clear hV1 hA
          go_wp2_with fail
          obtain ⟨_, hA⟩ := HQ1.out.getB
          refine (HQ1.out.callKeep (Sep.framed ShardS.framed RShardS.framed) OwS.framed (Yx := fun v S w => OwS ePair 65 S w v s.1) (E := fun v e => e = .returned v) (fun _ => OwS.framed) (HRPA.out s _ _ _ hA)).mono ?_
          rintro e v2w ⟨v2, rfl, hV2⟩
          have HQ2 := Lib.hid hV2
          clear hV2 hA
          go_wp2_with fail
          obtain ⟨_, ho1, ho2⟩ := HQ2.out.getR
          refine (HQ2.out.callRead (Sep.framed (Sep.framed ShardS.framed RShardS.framed) (Framed.and OwS.framed OwS.framed)) (E := fun e => e = .returned (.bool true)) (pairs_eq s.1 _ _ _ ho1.rd ho2.rd)).mono ?_
          rintro e v3w ⟨rfl, hV3⟩
          have HQ3 := Lib.hid (hV3.rest (R' := Emp) fun _ _ => trivial)
          clear hV3 ho1 ho2
          go_wp2_with fail
          obtain ⟨_, hA⟩ := HQ3.out.getA
          refine (HQ3.out.callRead (Sep.framed (Sep.framed ShardS.framed RShardS.framed) Emp.framed) (E := fun e => e = .returned (.int .i64 s.1.length)) (shLen_plain hA)).mono ?_
          rintro e v4w ⟨rfl, hV4⟩
          have HQ4 := Lib.hid hV4
          clear hV4 hA
          go_wp2_with fail
          obtain ⟨_, hA⟩ := HQ4.out.getB
          refine (HQ4.out.callKeep (Sep.framed ShardS.framed RShardS.framed) Emp.framed (Yx := fun v S w => OwS ePair 65 S w v s.1) (E := fun v e => e = .returned v) (fun _ => OwS.framed) (HRPA.out s _ _ _ hA)).mono ?_
          rintro e v5w ⟨v5, rfl, hV5⟩
          obtain ⟨_, -, ⟨⟨_, ao5, cp5, rfl, _⟩, _⟩⟩ := hV5.getR
          have HQ5 := Lib.hid hV5
          have hee : ((s.1.length : Int) == (s.1.length : Int)) = true := by simp
          clear hV5 hA
          go_wp2_with fail
          go_ret
          exact ⟨rfl, St.below HQ5.out⟩
        · have hp := cm_book_pairs b
          have hl := cm_book_len b
          go_wp2_with fail
          obtain ⟨_, hA⟩ := V.out.getA
          refine (V.out.callKeep (Sep.framed ShardS.framed RShardS.framed) Blk.framed (Yx := fun v S w => OwS ePair 65 S w v s.1) (E := fun v e => e = .returned v) (fun _ => OwS.framed) (shPairs_plain hA HG.out)).mono ?_
          rintro e v1w ⟨v1, rfl, hV1⟩
          have HQ1 := Lib.hid (hV1.rest (R' := fun S w => OwS ePair 65 S w v1 s.1) fun _ h => h.2)
          clear hV1 hA
          go_wp2_with fail
          obtain ⟨_, hA⟩ := HQ1.out.getB
          refine (HQ1.out.callKeep (Sep.framed ShardS.framed RShardS.framed) OwS.framed (Yx := fun v S w => OwS ePair 65 S w v s.1) (E := fun v e => e = .returned v) (fun _ => OwS.framed) (HRPA.out s _ _ _ hA)).mono ?_
          rintro e v2w ⟨v2, rfl, hV2⟩
          have HQ2 := Lib.hid hV2
          clear hV2 hA
          go_wp2_with fail
          obtain ⟨_, ho1, ho2⟩ := HQ2.out.getR
          refine (HQ2.out.callRead (Sep.framed (Sep.framed ShardS.framed RShardS.framed) (Framed.and OwS.framed OwS.framed)) (E := fun e => e = .returned (.bool true)) (pairs_eq s.1 _ _ _ ho1.rd ho2.rd)).mono ?_
          rintro e v3w ⟨rfl, hV3⟩
          have HQ3 := Lib.hid (hV3.rest (R' := Emp) fun _ _ => trivial)
          clear hV3 ho1 ho2
          go_wp2_with fail
          obtain ⟨_, hA⟩ := HQ3.out.getA
          refine (HQ3.out.callRead (Sep.framed (Sep.framed ShardS.framed RShardS.framed) Emp.framed) (E := fun e => e = .returned (.int .i64 s.1.length)) (shLen_plain hA)).mono ?_
          rintro e v4w ⟨rfl, hV4⟩
          have HQ4 := Lib.hid hV4
          clear hV4 hA
          go_wp2_with fail
          obtain ⟨_, hA⟩ := HQ4.out.getB
          refine (HQ4.out.callKeep (Sep.framed ShardS.framed RShardS.framed) Emp.framed (Yx := fun v S w => OwS ePair 65 S w v s.1) (E := fun v e => e = .returned v) (fun _ => OwS.framed) (HRPA.out s _ _ _ hA)).mono ?_
          rintro e v5w ⟨v5, rfl, hV5⟩
          obtain ⟨_, -, ⟨⟨_, ao5, cp5, rfl, _⟩, _⟩⟩ := hV5.getR
          have HQ5 := Lib.hid hV5
          have hee : ((s.1.length : Int) == (s.1.length : Int)) = true := by simp
          clear hV5 hA
          go_wp2_with fail
          go_ret
          exact ⟨rfl, St.below HQ5.out⟩
  | bound g b =>
    have h1 := sh_eqn
    have h2 := sh_eqn
    have hcc : (cap != cap) = false := by simp
    simp only [ShA.val]
    go_wp2_with fail
    refine wp_region_noPanic ?_
    refine wp_region_held_drew (S := fun W => W.cell? ⟨bd, 0, none⟩ = some (.int .i64 kind) ∧ W.cell? ⟨bd, 1, none⟩ = some (.int .i64 cap) ∧ W.cell? ⟨g, 0, none⟩ = some (.pointer (some ⟨b, 0, none⟩))) (by kernel_rfl) ?_ (fun hHeld => ?_)
    · exact mk_cellsB (HB3.out.drewU (Sep.framed (Sep.framed ShardS.framed RShardS.framed) Blk.framed))
    try simp only [Act.put, List.getElem_toArray, List.getElem_cons_succ, List.getElem_cons_zero, List.setIfInBounds_toArray, List.set_cons_zero, List.set_cons_succ]
    refine wpAnyH_take (i := 0) (v := ?vqa0) rfl (by kernel_rfl) (by kernel_rfl) (by kernel_rfl) (fun _ _ _ h => h) (Or.inl ⟨by rfl, ?hyqa0⟩) (by assumption) ?restqa0
    case hyqa0 =>
      intro w hSw
      try dsimp only at hSw
      go_simp
      all_goals with_reducible rfl
    simp only [Act.put, List.getElem_toArray, List.getElem_cons_succ, List.getElem_cons_zero, List.setIfInBounds_toArray, List.set_cons_zero, List.set_cons_succ]
    refine wpAnyH_take (i := 1) (v := ?vqa1) rfl (by kernel_rfl) (by kernel_rfl) (by kernel_rfl) (fun _ _ _ h => h) (Or.inl ⟨by rfl, ?hyqa1⟩) (by assumption) ?restqa1
    case hyqa1 =>
      intro w hSw
      try dsimp only at hSw
      go_simp
      all_goals with_reducible rfl
    simp only [Act.put, List.getElem_toArray, List.getElem_cons_succ, List.getElem_cons_zero, List.setIfInBounds_toArray, List.set_cons_zero, List.set_cons_succ]
    refine wpAnyH_take (i := 2) (v := ?vqa2) rfl (by kernel_rfl) (by kernel_rfl) (by kernel_rfl) (fun _ _ _ h => h) (Or.inl ⟨by rfl, ?hyqa2⟩) (by assumption) ?restqa2
    case hyqa2 =>
      intro w hSw
      try dsimp only at hSw
      go_simp
      all_goals with_reducible rfl
    simp only [Act.put, List.getElem_toArray, List.getElem_cons_succ, List.getElem_cons_zero, List.setIfInBounds_toArray, List.set_cons_zero, List.set_cons_succ]
    refine wpAnyH_take (i := 3) (v := ?vqa3) rfl (by kernel_rfl) (by kernel_rfl) (by kernel_rfl) (fun _ _ _ h => h) (Or.inl ⟨by rfl, ?hyqa3⟩) (by assumption) ?restqa3
    case hyqa3 =>
      intro w hSw
      try dsimp only at hSw
      go_simp
      all_goals with_reducible rfl
    simp only [Act.put, List.getElem_toArray, List.getElem_cons_succ, List.getElem_cons_zero, List.setIfInBounds_toArray, List.set_cons_zero, List.set_cons_succ]
    refine wpAnyH_take (i := 4) (v := ?vqa4) rfl (by kernel_rfl) (by kernel_rfl) (by kernel_rfl) (fun _ _ _ h => h) (Or.inl ⟨by rfl, ?hyqa4⟩) (by assumption) ?restqa4
    case hyqa4 =>
      intro w hSw
      try dsimp only at hSw
      go_simp
      all_goals with_reducible rfl
    simp only [Act.put, List.getElem_toArray, List.getElem_cons_succ, List.getElem_cons_zero, List.setIfInBounds_toArray, List.set_cons_zero, List.set_cons_succ]
    refine wpAnyH_take (i := 5) (v := ?vqa5) rfl (by kernel_rfl) (by kernel_rfl) (by kernel_rfl) (fun _ _ _ h => h) (Or.inl ⟨by rfl, ?hyqa5⟩) (by assumption) ?restqa5
    case hyqa5 =>
      intro w hSw
      try dsimp only at hSw
      go_simp
      all_goals with_reducible rfl
    simp only [Act.put, List.getElem_toArray, List.getElem_cons_succ, List.getElem_cons_zero, List.setIfInBounds_toArray, List.set_cons_zero, List.set_cons_succ]
    refine wpAnyH_take (i := 6) (v := ?vqa6) rfl (by kernel_rfl) (by kernel_rfl) (by kernel_rfl) (fun _ _ _ h => h) (Or.inl ⟨by rfl, ?hyqa6⟩) (by assumption) ?restqa6
    case hyqa6 =>
      intro w hSw
      try dsimp only at hSw
      go_simp
      all_goals with_reducible rfl
    simp only [Act.put, List.getElem_toArray, List.getElem_cons_succ, List.getElem_cons_zero, List.setIfInBounds_toArray, List.set_cons_zero, List.set_cons_succ]
    refine wpAnyH_take (i := 7) (v := ?vqa7) rfl (by kernel_rfl) (by kernel_rfl) (by kernel_rfl) (fun _ _ _ h => h) (Or.inl ⟨by rfl, ?hyqa7⟩) (by assumption) ?restqa7
    case hyqa7 =>
      intro w hSw
      try dsimp only at hSw
      go_simp
      all_goals with_reducible rfl
    simp only [Act.put, List.getElem_toArray, List.getElem_cons_succ, List.getElem_cons_zero, List.setIfInBounds_toArray, List.set_cons_zero, List.set_cons_succ]
    refine wpAnyH_take (i := 9) (v := ?vqa9) rfl (by kernel_rfl) (by kernel_rfl) (by kernel_rfl) (fun _ _ _ h => h) (Or.inl ⟨by rfl, ?hyqa9⟩) (by assumption) ?restqa9
    case hyqa9 =>
      intro w hSw
      try dsimp only at hSw
      go_simp
      all_goals with_reducible rfl
    simp only [Act.put, List.getElem_toArray, List.getElem_cons_succ, List.getElem_cons_zero, List.setIfInBounds_toArray, List.set_cons_zero, List.set_cons_succ]
    refine wpAnyH_take (i := 10) (v := ?vqa10) rfl (by kernel_rfl) (by kernel_rfl) (by kernel_rfl) (fun _ _ _ h => h) (Or.inl ⟨by rfl, ?hyqa10⟩) (by assumption) ?restqa10
    case hyqa10 =>
      intro w hSw
      try dsimp only at hSw
      go_simp
      all_goals with_reducible rfl
    simp only [Act.put, List.getElem_toArray, List.getElem_cons_succ, List.getElem_cons_zero, List.setIfInBounds_toArray, List.set_cons_zero, List.set_cons_succ]
    refine wpAnyH_ready (rs := [8]) (by kernel_rfl) (by simp) ?_
    refine AllReadyH.cons rfl (fun K hK => ?_) AllReadyH.nil
    go_simp
    rw [cm_lru_n g b _ hHeld.2.2 "Cap" 52 (by kernel_rfl) (by kernel_rfl)]
    go_wp2_with fail
    obtain ⟨_, hA⟩ := (HB3.out.drewU (Sep.framed (Sep.framed ShardS.framed RShardS.framed) Blk.framed)).getA
    refine ((HB3.out.drewU (Sep.framed (Sep.framed ShardS.framed RShardS.framed) Blk.framed)).callRead (Sep.framed (Sep.framed ShardS.framed RShardS.framed) Blk.framed) (E := fun e => e = .returned (.int .i64 cap)) (shCap_bound hA)).mono ?_
    rintro e w4 ⟨rfl, hB4⟩
    have HB4 := Lib.hid hB4
    clear hB4 hA
    try go_wp2_with fail
    refine hK.out _ _ ?_ (fun hHeld => ?_)
    · exact (mk_cellsB HB4.out)
    clear hK K
    try simp only [Act.put, List.getElem_toArray, List.getElem_cons_succ, List.getElem_cons_zero, List.setIfInBounds_toArray, List.set_cons_zero, List.set_cons_succ]
    refine wpAnyH_take (i := 11) (v := ?vqa11) rfl (by kernel_rfl) (by kernel_rfl) (by kernel_rfl) (fun _ _ _ h => h) (Or.inl ⟨by rfl, ?hyqa11⟩) (by assumption) ?restqa11
    case hyqa11 =>
      intro w hSw
      try dsimp only at hSw
      go_simp
      all_goals with_reducible rfl
    simp only [Act.put, List.getElem_toArray, List.getElem_cons_succ, List.getElem_cons_zero, List.setIfInBounds_toArray, List.set_cons_zero, List.set_cons_succ]
    refine wpAnyH_take (i := 12) (v := ?vqa12) rfl (by kernel_rfl) (by kernel_rfl) (by kernel_rfl) (fun _ _ _ h => h) (Or.inl ⟨by rfl, ?hyqa12⟩) (by assumption) ?restqa12
    case hyqa12 =>
      intro w hSw
      try dsimp only at hSw
      go_simp
      all_goals with_reducible rfl
    simp only [Act.put, List.getElem_toArray, List.getElem_cons_succ, List.getElem_cons_zero, List.setIfInBounds_toArray, List.set_cons_zero, List.set_cons_succ]
    refine wpAnyH_take (i := 13) (v := ?vqa13) rfl (by kernel_rfl) (by kernel_rfl) (by kernel_rfl) (fun _ _ _ h => h) (Or.inl ⟨by rfl, ?hyqa13⟩) (by assumption) ?restqa13
    case hyqa13 =>
      intro w hSw
      try dsimp only at hSw
      go_simp
      all_goals with_reducible rfl
    simp only [Act.put, List.getElem_toArray, List.getElem_cons_succ, List.getElem_cons_zero, List.setIfInBounds_toArray, List.set_cons_zero, List.set_cons_succ]
    refine wpAnyH_take (i := 14) (v := ?vqa14) rfl (by kernel_rfl) (by kernel_rfl) (by kernel_rfl) (fun _ _ _ h => h) (Or.inl ⟨by rfl, ?hyqa14⟩) (by assumption) ?restqa14
    case hyqa14 =>
      intro w hSw
      try dsimp only at hSw
      go_simp
      all_goals with_reducible rfl
    simp only [Act.put, List.getElem_toArray, List.getElem_cons_succ, List.getElem_cons_zero, List.setIfInBounds_toArray, List.set_cons_zero, List.set_cons_succ]
    refine wpAnyH_ready (rs := [15]) (by kernel_rfl) (by simp) ?_
    refine AllReadyH.cons rfl (fun K hK => ?_) AllReadyH.nil
    go_simp
    rw [cm_lru_n g b _ hHeld.2.2 "Len" 54 (by kernel_rfl) (by kernel_rfl)]
    go_wp2_with fail
    obtain ⟨_, hA⟩ := HB4.out.getA
    refine (HB4.out.callRead (Sep.framed (Sep.framed ShardS.framed RShardS.framed) Blk.framed) (E := fun e => e = .returned (.int .i64 0)) (shLen_bound hA)).mono ?_
    rintro e w5 ⟨rfl, hB5⟩
    have HB5 := Lib.hid hB5
    clear hB5 hA
    try go_wp2_with fail
    refine hK.out _ _ ?_ (fun hHeld => ?_)
    · exact (mk_cellsB HB5.out)
    clear hK K
    try simp only [Act.put, List.getElem_toArray, List.getElem_cons_succ, List.getElem_cons_zero, List.setIfInBounds_toArray, List.set_cons_zero, List.set_cons_succ]
    refine wpAnyH_take (i := 16) (v := ?vqa16) rfl (by kernel_rfl) (by kernel_rfl) (by kernel_rfl) (fun _ _ _ h => h) (Or.inl ⟨by rfl, ?hyqa16⟩) (by assumption) ?restqa16
    case hyqa16 =>
      intro w hSw
      try dsimp only at hSw
      go_simp
      all_goals with_reducible rfl
    simp only [Act.put, List.getElem_toArray, List.getElem_cons_succ, List.getElem_cons_zero, List.setIfInBounds_toArray, List.set_cons_zero, List.set_cons_succ]
    refine wpAnyH_take (i := 17) (v := ?vqa17) rfl (by kernel_rfl) (by kernel_rfl) (by kernel_rfl) (fun _ _ _ h => h) (Or.inl ⟨by rfl, ?hyqa17⟩) (by assumption) ?restqa17
    case hyqa17 =>
      intro w hSw
      try dsimp only at hSw
      go_simp
      all_goals with_reducible rfl
    simp only [Act.put, List.getElem_toArray, List.getElem_cons_succ, List.getElem_cons_zero, List.setIfInBounds_toArray, List.set_cons_zero, List.set_cons_succ]
    clear hHeld
    refine wpAnyH_done (by kernel_rfl) ?_ _
    refine NoPanic.normal ?_
    clear HB3 HB4 c0 c1 h1 h2 hcc
    have HK := Lib.hid (show true = decide (kind = 1) from HBD.out)
    have HG0 := Lib.hid (show SGood true cap ([], []) by rw [HK.out]; exact HSG.out)
    clear HSG HOK HBD HRBD
    go_wp2_with fail
    go_loopw [9] (fun t9 wr => ∃ (k : Nat) (s : Sh), k ≤ ds.length ∧ k ≤ 3000 ∧ t9 = .int .i64 k ∧ Hid (SGood true cap s) ∧ Hid (Upd (Sep (Sep (ShardS (.bound g b) cap s) (RShardS ra cap s (k : Int))) (Blk bd (defO kind cap))) (fun _ => False) w wr)) (fun t9 _ => ds.length - (intOf t9).toNat)
    case atStart => exact ⟨0, ([], []), Nat.zero_le _, by decide, rfl, HG0, HB5⟩
    case round =>
      clear HB5 HG0
      obtain ⟨k, s, hk, hk3, rfl, HG, V⟩ := hrel
      by_cases hlt : k < ds.length ∧ k < 3000
      · obtain ⟨hlt, hl3⟩ := hlt
        obtain ⟨_, ao', cap', hao, _, _, hx⟩ := HV.out
        obtain ⟨rfl, -, rfl⟩ : ao = ao' ∧ ds.length = ds.length ∧ c = cap' := by simpa using hao
        obtain ⟨sb, off, rfl, hc⟩ := hx (by omega)
        obtain ⟨c0, c1, c2⟩ := it_cells hc k hlt
        have hi0 : (0 : Int) ≤ (k : Int) := by omega
        have hi1 : (k : Int) < (ds.length : Int) := by omega
        clear hc hx hao
        generalize ds[k].2.1 = op at *
        generalize ds[k].2.2.1 = dk at *
        generalize ds[k].2.2.2 = dv at *
        have HC0 := Lib.hid (And.intro c0 (And.intro c1 c2))
        replace c0 := cell_below (St.below V.out) c0
        replace c1 := cell_below (St.below V.out) c1
        replace c2 := cell_below (St.below V.out) c2
        obtain ⟨⟨x0, x1, x2, x3, x4, x5⟩, s2, hd⟩ : ∃ r s2, shP true cap s op dk dv = (r, s2) := ⟨_, _, rfl⟩
        have HD := Lib.hid hd
        have HG2 := Lib.hid (show SGood true cap s2 by have := sh_good (op := op) (k := dk) (v := dv) HG.out; rwa [hd] at this)
        have hz := res_neq_self x0 x1 x2 x3 x4 x5
        have hcm := cm_lru_do g op dk dv
        clear hd
        go_wp2_with fail
        have HKC := Lib.hid (show ∀ W, Below w.heap.size w W → W.cell? ⟨sb, off + k * 4 + 1, none⟩ = some (.int .i64 op) ∧ W.cell? ⟨sb, off + k * 4 + 2, none⟩ = some (.int .u64 dk) ∧ W.cell? ⟨sb, off + k * 4 + 3, none⟩ = some (.int .u64 dv) from fun W h => ⟨cell_below h HC0.out.1, cell_below h HC0.out.2.1, cell_below h HC0.out.2.2⟩)
        refine wp_region_noPanic ?_
        refine wp_region_held_drew (S := fun W => W.cell? ⟨sb, off + k * 4 + 1, none⟩ = some (.int .i64 op) ∧ W.cell? ⟨sb, off + k * 4 + 2, none⟩ = some (.int .u64 dk) ∧ W.cell? ⟨sb, off + k * 4 + 3, none⟩ = some (.int .u64 dv)) (by kernel_rfl) ?_ (fun hHeld => ?_)
        · exact ⟨c0, c1, c2⟩
        try simp only [Act.put, List.getElem_toArray, List.getElem_cons_succ, List.getElem_cons_zero, List.setIfInBounds_toArray, List.set_cons_zero, List.set_cons_succ]
        refine wpAnyH_take (i := 0) (v := ?vqb0) rfl (by kernel_rfl) (by kernel_rfl) (by kernel_rfl) (fun _ _ _ h => h) (Or.inl ⟨by rfl, ?hyqb0⟩) (by assumption) ?restqb0
        case hyqb0 =>
          intro w hSw
          try dsimp only at hSw
          go_simp
          all_goals with_reducible rfl
        simp only [Act.put, List.getElem_toArray, List.getElem_cons_succ, List.getElem_cons_zero, List.setIfInBounds_toArray, List.set_cons_zero, List.set_cons_succ]
        refine wpAnyH_take (i := 1) (v := ?vqb1) rfl (by kernel_rfl) (by kernel_rfl) (by kernel_rfl) (fun _ _ _ h => h) (Or.inl ⟨by rfl, ?hyqb1⟩) (by assumption) ?restqb1
        case hyqb1 =>
          intro w hSw
          try dsimp only at hSw
          go_simp
          all_goals with_reducible rfl
        simp only [Act.put, List.getElem_toArray, List.getElem_cons_succ, List.getElem_cons_zero, List.setIfInBounds_toArray, List.set_cons_zero, List.set_cons_succ]
        refine wpAnyH_take (i := 2) (v := ?vqb2) rfl (by kernel_rfl) (by kernel_rfl) (by kernel_rfl) (fun _ _ _ h => h) (Or.inl ⟨by rfl, ?hyqb2⟩) (by assumption) ?restqb2
        case hyqb2 =>
          intro w hSw
          try dsimp only at hSw
          go_simp
          all_goals with_reducible rfl
        simp only [Act.put, List.getElem_toArray, List.getElem_cons_succ, List.getElem_cons_zero, List.setIfInBounds_toArray, List.set_cons_zero, List.set_cons_succ]
        refine wpAnyH_take (i := 3) (v := ?vqb3) rfl (by kernel_rfl) (by kernel_rfl) (by kernel_rfl) (fun _ _ _ h => h) (Or.inl ⟨by rfl, ?hyqb3⟩) (by assumption) ?restqb3
        case hyqb3 =>
          intro w hSw
          try dsimp only at hSw
          go_simp
          all_goals with_reducible rfl
        simp only [Act.put, List.getElem_toArray, List.getElem_cons_succ, List.getElem_cons_zero, List.setIfInBounds_toArray, List.set_cons_zero, List.set_cons_succ]
        refine wpAnyH_take (i := 4) (v := ?vqb4) rfl (by kernel_rfl) (by kernel_rfl) (by kernel_rfl) (fun _ _ _ h => h) (Or.inl ⟨by rfl, ?hyqb4⟩) (by assumption) ?restqb4
        case hyqb4 =>
          intro w hSw
          try dsimp only at hSw
          go_simp
          all_goals with_reducible rfl
        simp only [Act.put, List.getElem_toArray, List.getElem_cons_succ, List.getElem_cons_zero, List.setIfInBounds_toArray, List.set_cons_zero, List.set_cons_succ]
        refine wpAnyH_take (i := 5) (v := ?vqb5) rfl (by kernel_rfl) (by kernel_rfl) (by kernel_rfl) (fun _ _ _ h => h) (Or.inl ⟨by rfl, ?hyqb5⟩) (by assumption) ?restqb5
        case hyqb5 =>
          intro w hSw
          try dsimp only at hSw
          go_simp
          all_goals with_reducible rfl
        simp only [Act.put, List.getElem_toArray, List.getElem_cons_succ, List.getElem_cons_zero, List.setIfInBounds_toArray, List.set_cons_zero, List.set_cons_succ]
        refine wpAnyH_take (i := 6) (v := ?vqb6) rfl (by kernel_rfl) (by kernel_rfl) (by kernel_rfl) (fun _ _ _ h => h) (Or.inl ⟨by rfl, ?hyqb6⟩) (by assumption) ?restqb6
        case hyqb6 =>
          intro w hSw
          try dsimp only at hSw
          go_simp
          all_goals with_reducible rfl
        simp only [Act.put, List.getElem_toArray, List.getElem_cons_succ, List.getElem_cons_zero, List.setIfInBounds_toArray, List.set_cons_zero, List.set_cons_succ]
        refine wpAnyH_take (i := 7) (v := ?vqb7) rfl (by kernel_rfl) (by kernel_rfl) (by kernel_rfl) (fun _ _ _ h => h) (Or.inl ⟨by rfl, ?hyqb7⟩) (by assumption) ?restqb7
        case hyqb7 =>
          intro w hSw
          try dsimp only at hSw
          go_simp
          all_goals with_reducible rfl
        simp only [Act.put, List.getElem_toArray, List.getElem_cons_succ, List.getElem_cons_zero, List.setIfInBounds_toArray, List.set_cons_zero, List.set_cons_succ]
        refine wpAnyH_take (i := 8) (v := ?vqb8) rfl (by kernel_rfl) (by kernel_rfl) (by kernel_rfl) (fun _ _ _ h => h) (Or.inl ⟨by rfl, ?hyqb8⟩) (by assumption) ?restqb8
        case hyqb8 =>
          intro w hSw
          try dsimp only at hSw
          go_simp
          all_goals with_reducible rfl
        simp only [Act.put, List.getElem_toArray, List.getElem_cons_succ, List.getElem_cons_zero, List.setIfInBounds_toArray, List.set_cons_zero, List.set_cons_succ]
        refine wpAnyH_take (i := 9) (v := ?vqb9) rfl (by kernel_rfl) (by kernel_rfl) (by kernel_rfl) (fun _ _ _ h => h) (Or.inl ⟨by rfl, ?hyqb9⟩) (by assumption) ?restqb9
        case hyqb9 =>
          intro w hSw
          try dsimp only at hSw
          go_simp
          all_goals with_reducible rfl
        simp only [Act.put, List.getElem_toArray, List.getElem_cons_succ, List.getElem_cons_zero, List.setIfInBounds_toArray, List.set_cons_zero, List.set_cons_succ]
        refine wpAnyH_take (i := 10) (v := ?vqb10) rfl (by kernel_rfl) (by kernel_rfl) (by kernel_rfl) (fun _ _ _ h => h) (Or.inl ⟨by rfl, ?hyqb10⟩) (by assumption) ?restqb10
        case hyqb10 =>
          intro w hSw
          try dsimp only at hSw
          go_simp
          all_goals with_reducible rfl
        simp only [Act.put, List.getElem_toArray, List.getElem_cons_succ, List.getElem_cons_zero, List.setIfInBounds_toArray, List.set_cons_zero, List.set_cons_succ]
        refine wpAnyH_take (i := 11) (v := ?vqb11) rfl (by kernel_rfl) (by kernel_rfl) (by kernel_rfl) (fun _ _ _ h => h) (Or.inl ⟨by rfl, ?hyqb11⟩) (by assumption) ?restqb11
        case hyqb11 =>
          intro w hSw
          try dsimp only at hSw
          go_simp
          all_goals with_reducible rfl
        simp only [Act.put, List.getElem_toArray, List.getElem_cons_succ, List.getElem_cons_zero, List.setIfInBounds_toArray, List.set_cons_zero, List.set_cons_succ]
        refine wpAnyH_take (i := 12) (v := ?vqb12) rfl (by kernel_rfl) (by kernel_rfl) (by kernel_rfl) (fun _ _ _ h => h) (Or.inl ⟨by rfl, ?hyqb12⟩) (by assumption) ?restqb12
        case hyqb12 =>
          intro w hSw
          try dsimp only at hSw
          go_simp
          all_goals with_reducible rfl
        simp only [Act.put, List.getElem_toArray, List.getElem_cons_succ, List.getElem_cons_zero, List.setIfInBounds_toArray, List.set_cons_zero, List.set_cons_succ]
        refine wpAnyH_take (i := 13) (v := ?vqb13) rfl (by kernel_rfl) (by kernel_rfl) (by kernel_rfl) (fun _ _ _ h => h) (Or.inl ⟨by rfl, ?hyqb13⟩) (by assumption) ?restqb13
        case hyqb13 =>
          intro w hSw
          try dsimp only at hSw
          go_simp
          all_goals with_reducible rfl
        simp only [Act.put, List.getElem_toArray, List.getElem_cons_succ, List.getElem_cons_zero, List.setIfInBounds_toArray, List.set_cons_zero, List.set_cons_succ]
        refine wpAnyH_take (i := 14) (v := ?vqb14) rfl (by kernel_rfl) (by kernel_rfl) (by kernel_rfl) (fun _ _ _ h => h) (Or.inl ⟨by rfl, ?hyqb14⟩) (by assumption) ?restqb14
        case hyqb14 =>
          intro w hSw
          try dsimp only at hSw
          go_simp
          all_goals with_reducible rfl
        simp only [Act.put, List.getElem_toArray, List.getElem_cons_succ, List.getElem_cons_zero, List.setIfInBounds_toArray, List.set_cons_zero, List.set_cons_succ]
        refine wpAnyH_take (i := 15) (v := ?vqb15) rfl (by kernel_rfl) (by kernel_rfl) (by kernel_rfl) (fun _ _ _ h => h) (Or.inl ⟨by rfl, ?hyqb15⟩) (by assumption) ?restqb15
        case hyqb15 =>
          intro w hSw
          try dsimp only at hSw
          go_simp
          all_goals with_reducible rfl
        simp only [Act.put, List.getElem_toArray, List.getElem_cons_succ, List.getElem_cons_zero, List.setIfInBounds_toArray, List.set_cons_zero, List.set_cons_succ]
        refine wpAnyH_take (i := 16) (v := ?vqb16) rfl (by kernel_rfl) (by kernel_rfl) (by kernel_rfl) (fun _ _ _ h => h) (Or.inl ⟨by rfl, ?hyqb16⟩) (by assumption) ?restqb16
        case hyqb16 =>
          intro w hSw
          try dsimp only at hSw
          go_simp
          all_goals with_reducible rfl
        simp only [Act.put, List.getElem_toArray, List.getElem_cons_succ, List.getElem_cons_zero, List.setIfInBounds_toArray, List.set_cons_zero, List.set_cons_succ]
        refine wpAnyH_take (i := 17) (v := ?vqb17) rfl (by kernel_rfl) (by kernel_rfl) (by kernel_rfl) (fun _ _ _ h => h) (Or.inl ⟨by rfl, ?hyqb17⟩) (by assumption) ?restqb17
        case hyqb17 =>
          intro w hSw
          try dsimp only at hSw
          go_simp
          rw [na_lru g _ (by kernel_rfl)]
          exact rfl
        simp only [Act.put, List.getElem_toArray, List.getElem_cons_succ, List.getElem_cons_zero, List.setIfInBounds_toArray, List.set_cons_zero, List.set_cons_succ]
        refine wpAnyH_take (i := 18) (v := ?vqb18) rfl (by kernel_rfl) (by kernel_rfl) (by kernel_rfl) (fun _ _ _ h => h) (Or.inl ⟨by rfl, ?hyqb18⟩) (by assumption) ?restqb18
        case hyqb18 =>
          intro w hSw
          try dsimp only at hSw
          go_simp
          all_goals with_reducible rfl
        simp only [Act.put, List.getElem_toArray, List.getElem_cons_succ, List.getElem_cons_zero, List.setIfInBounds_toArray, List.set_cons_zero, List.set_cons_succ]
        refine wpAnyH_take (i := 20) (v := ?vqb20) rfl (by kernel_rfl) (by kernel_rfl) (by kernel_rfl) (fun _ _ _ h => h) (Or.inl ⟨by rfl, ?hyqb20⟩) (by assumption) ?restqb20
        case hyqb20 =>
          intro w hSw
          try dsimp only at hSw
          go_simp
          all_goals with_reducible rfl
        simp only [Act.put, List.getElem_toArray, List.getElem_cons_succ, List.getElem_cons_zero, List.setIfInBounds_toArray, List.set_cons_zero, List.set_cons_succ]
        refine wpAnyH_take (i := 21) (v := ?vqb21) rfl (by kernel_rfl) (by kernel_rfl) (by kernel_rfl) (fun _ _ _ h => h) (Or.inl ⟨by rfl, ?hyqb21⟩) (by assumption) ?restqb21
        case hyqb21 =>
          intro w hSw
          try dsimp only at hSw
          go_simp
          all_goals with_reducible rfl
        simp only [Act.put, List.getElem_toArray, List.getElem_cons_succ, List.getElem_cons_zero, List.setIfInBounds_toArray, List.set_cons_zero, List.set_cons_succ]
        refine wpAnyH_take (i := 22) (v := ?vqb22) rfl (by kernel_rfl) (by kernel_rfl) (by kernel_rfl) (fun _ _ _ h => h) (Or.inl ⟨by rfl, ?hyqb22⟩) (by assumption) ?restqb22
        case hyqb22 =>
          intro w hSw
          try dsimp only at hSw
          go_simp
          all_goals with_reducible rfl
        simp only [Act.put, List.getElem_toArray, List.getElem_cons_succ, List.getElem_cons_zero, List.setIfInBounds_toArray, List.set_cons_zero, List.set_cons_succ]
        refine wpAnyH_take (i := 23) (v := ?vqb23) rfl (by kernel_rfl) (by kernel_rfl) (by kernel_rfl) (fun _ _ _ h => h) (Or.inl ⟨by rfl, ?hyqb23⟩) (by assumption) ?restqb23
        case hyqb23 =>
          intro w hSw
          try dsimp only at hSw
          go_simp
          all_goals with_reducible rfl
        simp only [Act.put, List.getElem_toArray, List.getElem_cons_succ, List.getElem_cons_zero, List.setIfInBounds_toArray, List.set_cons_zero, List.set_cons_succ]
        refine wpAnyH_take (i := 24) (v := ?vqb24) rfl (by kernel_rfl) (by kernel_rfl) (by kernel_rfl) (fun _ _ _ h => h) (Or.inl ⟨by rfl, ?hyqb24⟩) (by assumption) ?restqb24
        case hyqb24 =>
          intro w hSw
          try dsimp only at hSw
          go_simp
          all_goals with_reducible rfl
        simp only [Act.put, List.getElem_toArray, List.getElem_cons_succ, List.getElem_cons_zero, List.setIfInBounds_toArray, List.set_cons_zero, List.set_cons_succ]
        refine wpAnyH_take (i := 25) (v := ?vqb25) rfl (by kernel_rfl) (by kernel_rfl) (by kernel_rfl) (fun _ _ _ h => h) (Or.inl ⟨by rfl, ?hyqb25⟩) (by assumption) ?restqb25
        case hyqb25 =>
          intro w hSw
          try dsimp only at hSw
          go_simp
          all_goals with_reducible rfl
        simp only [Act.put, List.getElem_toArray, List.getElem_cons_succ, List.getElem_cons_zero, List.setIfInBounds_toArray, List.set_cons_zero, List.set_cons_succ]
        refine wpAnyH_take (i := 26) (v := ?vqb26) rfl (by kernel_rfl) (by kernel_rfl) (by kernel_rfl) (fun _ _ _ h => h) (Or.inl ⟨by rfl, ?hyqb26⟩) (by assumption) ?restqb26
        case hyqb26 =>
          intro w hSw
          try dsimp only at hSw
          go_simp
          all_goals with_reducible rfl
        simp only [Act.put, List.getElem_toArray, List.getElem_cons_succ, List.getElem_cons_zero, List.setIfInBounds_toArray, List.set_cons_zero, List.set_cons_succ]
        refine wpAnyH_take (i := 27) (v := ?vqb27) rfl (by kernel_rfl) (by kernel_rfl) (by kernel_rfl) (fun _ _ _ h => h) (Or.inl ⟨by rfl, ?hyqb27⟩) (by assumption) ?restqb27
        case hyqb27 =>
          intro w hSw
          try dsimp only at hSw
          go_simp
          all_goals with_reducible rfl
        simp only [Act.put, List.getElem_toArray, List.getElem_cons_succ, List.getElem_cons_zero, List.setIfInBounds_toArray, List.set_cons_zero, List.set_cons_succ]
        refine wpAnyH_take (i := 28) (v := ?vqb28) rfl (by kernel_rfl) (by kernel_rfl) (by kernel_rfl) (fun _ _ _ h => h) (Or.inl ⟨by rfl, ?hyqb28⟩) (by assumption) ?restqb28
        case hyqb28 =>
          intro w hSw
          try dsimp only at hSw
          go_simp
          all_goals with_reducible rfl
        simp only [Act.put, List.getElem_toArray, List.getElem_cons_succ, List.getElem_cons_zero, List.setIfInBounds_toArray, List.set_cons_zero, List.set_cons_succ]
        refine wpAnyH_take (i := 29) (v := ?vqb29) rfl (by kernel_rfl) (by kernel_rfl) (by kernel_rfl) (fun _ _ _ h => h) (Or.inl ⟨by rfl, ?hyqb29⟩) (by assumption) ?restqb29
        case hyqb29 =>
          intro w hSw
          try dsimp only at hSw
          go_simp
          all_goals with_reducible rfl
        simp only [Act.put, List.getElem_toArray, List.getElem_cons_succ, List.getElem_cons_zero, List.setIfInBounds_toArray, List.set_cons_zero, List.set_cons_succ]
        refine wpAnyH_take (i := 30) (v := ?vqb30) rfl (by kernel_rfl) (by kernel_rfl) (by kernel_rfl) (fun _ _ _ h => h) (Or.inl ⟨by rfl, ?hyqb30⟩) (by assumption) ?restqb30
        case hyqb30 =>
          intro w hSw
          try dsimp only at hSw
          go_simp
          all_goals with_reducible rfl
        simp only [Act.put, List.getElem_toArray, List.getElem_cons_succ, List.getElem_cons_zero, List.setIfInBounds_toArray, List.set_cons_zero, List.set_cons_succ]
        refine wpAnyH_take (i := 31) (v := ?vqb31) rfl (by kernel_rfl) (by kernel_rfl) (by kernel_rfl) (fun _ _ _ h => h) (Or.inl ⟨by rfl, ?hyqb31⟩) (by assumption) ?restqb31
        case hyqb31 =>
          intro w hSw
          try dsimp only at hSw
          go_simp
          all_goals with_reducible rfl
        simp only [Act.put, List.getElem_toArray, List.getElem_cons_succ, List.getElem_cons_zero, List.setIfInBounds_toArray, List.set_cons_zero, List.set_cons_succ]
        refine wpAnyH_take (i := 32) (v := ?vqb32) rfl (by kernel_rfl) (by kernel_rfl) (by kernel_rfl) (fun _ _ _ h => h) (Or.inl ⟨by rfl, ?hyqb32⟩) (by assumption) ?restqb32
        case hyqb32 =>
          intro w hSw
          try dsimp only at hSw
          go_simp
          all_goals with_reducible rfl
        simp only [Act.put, List.getElem_toArray, List.getElem_cons_succ, List.getElem_cons_zero, List.setIfInBounds_toArray, List.set_cons_zero, List.set_cons_succ]
        refine wpAnyH_take (i := 33) (v := ?vqb33) rfl (by kernel_rfl) (by kernel_rfl) (by kernel_rfl) (fun _ _ _ h => h) (Or.inl ⟨by rfl, ?hyqb33⟩) (by assumption) ?restqb33
        case hyqb33 =>
          intro w hSw
          try dsimp only at hSw
          go_simp
          all_goals with_reducible rfl
        simp only [Act.put, List.getElem_toArray, List.getElem_cons_succ, List.getElem_cons_zero, List.setIfInBounds_toArray, List.set_cons_zero, List.set_cons_succ]
        refine wpAnyH_take (i := 34) (v := ?vqb34) rfl (by kernel_rfl) (by kernel_rfl) (by kernel_rfl) (fun _ _ _ h => h) (Or.inl ⟨by rfl, ?hyqb34⟩) (by assumption) ?restqb34
        case hyqb34 =>
          intro w hSw
          try dsimp only at hSw
          go_simp
          all_goals with_reducible rfl
        simp only [Act.put, List.getElem_toArray, List.getElem_cons_succ, List.getElem_cons_zero, List.setIfInBounds_toArray, List.set_cons_zero, List.set_cons_succ]
        refine wpAnyH_take (i := 35) (v := ?vqb35) rfl (by kernel_rfl) (by kernel_rfl) (by kernel_rfl) (fun _ _ _ h => h) (Or.inl ⟨by rfl, ?hyqb35⟩) (by assumption) ?restqb35
        case hyqb35 =>
          intro w hSw
          try dsimp only at hSw
          go_simp
          all_goals with_reducible rfl
        simp only [Act.put, List.getElem_toArray, List.getElem_cons_succ, List.getElem_cons_zero, List.setIfInBounds_toArray, List.set_cons_zero, List.set_cons_succ]
        refine wpAnyH_ready (rs := [19]) (by kernel_rfl) (by simp) ?_
        refine AllReadyH.cons rfl (fun K hK => ?_) AllReadyH.nil
        go_simp
        refine ((V.out.drewU (Sep.framed (Sep.framed ShardS.framed RShardS.framed) Blk.framed)).onA RShardS.framed Blk.framed (P' := ShardS (.bound g b) cap s2) (E := fun e => e = .returned (.agg #[.int .i64 x0, .bool x1, .int .u64 x2, .bool x3, .int .u64 x4, .int .u64 x5])) ShardS.framed fun A hA => shDo_bound hA HG.out HD.out).mono ?_
        rintro e wi ⟨rfl, hVi⟩
        have HVi := Lib.hid hVi
        clear hVi
        try go_wp2_with fail
        refine hK.out _ _ ?_ (fun hHeld => ?_)
        · exact (HKC.out _ (St.below HVi.out))
        clear hK K
        try simp only [Act.put, List.getElem_toArray, List.getElem_cons_succ, List.getElem_cons_zero, List.setIfInBounds_toArray, List.set_cons_zero, List.set_cons_succ]
        refine wpAnyH_ready (rs := [36]) (by kernel_rfl) (by simp) ?_
        refine AllReadyH.cons rfl (fun K hK => ?_) AllReadyH.nil
        go_simp
        refine (HVi.out.onB ShardS.framed Blk.framed (Q' := RShardS ra cap s2 ((k : Int) + 1)) (E := fun e => e = .returned (.agg #[.int .i64 x0, .bool x1, .int .u64 x2, .bool x3, .int .u64 x4, .int .u64 x5])) RShardS.framed fun A hA => HRDO.out _ HK.out s s2 k A _ op dk dv (x0, x1, x2, x3, x4, x5) hA HG.out (by omega) HD.out).mono ?_
        rintro e wj ⟨rfl, hVj⟩
        have HVj := Lib.hid hVj
        clear hVj
        try go_wp2_with fail
        refine hK.out _ _ ?_ (fun hHeld => ?_)
        · exact (HKC.out _ (St.below HVj.out))
        clear hK K
        try simp only [Act.put, List.getElem_toArray, List.getElem_cons_succ, List.getElem_cons_zero, List.setIfInBounds_toArray, List.set_cons_zero, List.set_cons_succ]
        refine wpAnyH_take (i := 37) (v := ?vqb37) rfl (by kernel_rfl) (by kernel_rfl) (by kernel_rfl) (fun _ _ _ h => h) (Or.inl ⟨by rfl, ?hyqb37⟩) (by assumption) ?restqb37
        case hyqb37 =>
          intro w hSw
          try dsimp only at hSw
          go_simp
          all_goals with_reducible rfl
        simp only [Act.put, List.getElem_toArray, List.getElem_cons_succ, List.getElem_cons_zero, List.setIfInBounds_toArray, List.set_cons_zero, List.set_cons_succ]
        clear hHeld
        refine wpAnyH_done (by kernel_rfl) ?_ _
        refine NoPanic.normal ?_
        go_wp2_with fail
        refine ⟨⟨k + 1, s2, by omega, by omega, by simp, HG2, by exact_mod_cast HVj⟩, ?_⟩
        first | omega | (simp only [intOf]; omega)
      · have hor : k = ds.length ∨ (k < ds.length ∧ k = 3000) := by omega
        rcases hor with rfl | ⟨hlt2, rfl⟩
        · have hp := sh_eqn
          have hl := sh_eqn
          go_wp2_with fail
          rw [cm_lru_n g b _ (mk_ptr V.out) "Pairs" 55 (by kernel_rfl) (by kernel_rfl)]
          go_wp2_with fail
          obtain ⟨_, hA⟩ := V.out.getA
          refine (V.out.callKeep (Sep.framed ShardS.framed RShardS.framed) Blk.framed (Yx := fun v S w => OwS ePair 65 S w v s.1) (E := fun v e => e = .returned v) (fun _ => OwS.framed) (shPairs_bound hA HG.out)).mono ?_
          rintro e v1w ⟨v1, rfl, hV1⟩
          have HQ1 := Lib.hid (hV1.rest (R' := fun S w => OwS ePair 65 S w v1 s.1) fun _ h => h.2)
          clear hV1 hA
          go_wp2_with fail
          obtain ⟨_, hA⟩ := HQ1.out.getB
          refine (HQ1.out.callKeep (Sep.framed ShardS.framed RShardS.framed) OwS.framed (Yx := fun v S w => OwS ePair 65 S w v s.1) (E := fun v e => e = .returned v) (fun _ => OwS.framed) (HRPA.out s _ _ _ hA)).mono ?_
          rintro e v2w ⟨v2, rfl, hV2⟩
          have HQ2 := Lib.hid hV2
          clear hV2 hA
          go_wp2_with fail
          obtain ⟨_, ho1, ho2⟩ := HQ2.out.getR
          refine (HQ2.out.callRead (Sep.framed (Sep.framed ShardS.framed RShardS.framed) (Framed.and OwS.framed OwS.framed)) (E := fun e => e = .returned (.bool true)) (pairs_eq s.1 _ _ _ ho1.rd ho2.rd)).mono ?_
          rintro e v3w ⟨rfl, hV3⟩
          have HQ3 := Lib.hid (hV3.rest (R' := Emp) fun _ _ => trivial)
          clear hV3 ho1 ho2
          go_wp2_with fail
          rw [cm_lru_n g b _ (mk_ptr HQ3.out) "Len" 54 (by kernel_rfl) (by kernel_rfl)]
          go_wp2_with fail
          obtain ⟨_, hA⟩ := HQ3.out.getA
          refine (HQ3.out.callRead (Sep.framed (Sep.framed ShardS.framed RShardS.framed) Emp.framed) (E := fun e => e = .returned (.int .i64 s.1.length)) (shLen_bound hA)).mono ?_
          rintro e v4w ⟨rfl, hV4⟩
          have HQ4 := Lib.hid hV4
          clear hV4 hA
          go_wp2_with fail
          obtain ⟨_, hA⟩ := HQ4.out.getB
          refine (HQ4.out.callKeep (Sep.framed ShardS.framed RShardS.framed) Emp.framed (Yx := fun v S w => OwS ePair 65 S w v s.1) (E := fun v e => e = .returned v) (fun _ => OwS.framed) (HRPA.out s _ _ _ hA)).mono ?_
          rintro e v5w ⟨v5, rfl, hV5⟩
          obtain ⟨_, -, ⟨⟨_, ao5, cp5, rfl, _⟩, _⟩⟩ := hV5.getR
          have HQ5 := Lib.hid hV5
          have hee : ((s.1.length : Int) == (s.1.length : Int)) = true := by simp
          clear hV5 hA
          go_wp2_with fail
          go_ret
          exact ⟨rfl, St.below HQ5.out⟩
        · have hp := sh_eqn
          have hl := sh_eqn
          go_wp2_with fail
          rw [cm_lru_n g b _ (mk_ptr V.out) "Pairs" 55 (by kernel_rfl) (by kernel_rfl)]
          go_wp2_with fail
          obtain ⟨_, hA⟩ := V.out.getA
          refine (V.out.callKeep (Sep.framed ShardS.framed RShardS.framed) Blk.framed (Yx := fun v S w => OwS ePair 65 S w v s.1) (E := fun v e => e = .returned v) (fun _ => OwS.framed) (shPairs_bound hA HG.out)).mono ?_
          rintro e v1w ⟨v1, rfl, hV1⟩
          have HQ1 := Lib.hid (hV1.rest (R' := fun S w => OwS ePair 65 S w v1 s.1) fun _ h => h.2)
          clear hV1 hA
          go_wp2_with fail
          obtain ⟨_, hA⟩ := HQ1.out.getB
          refine (HQ1.out.callKeep (Sep.framed ShardS.framed RShardS.framed) OwS.framed (Yx := fun v S w => OwS ePair 65 S w v s.1) (E := fun v e => e = .returned v) (fun _ => OwS.framed) (HRPA.out s _ _ _ hA)).mono ?_
          rintro e v2w ⟨v2, rfl, hV2⟩
          have HQ2 := Lib.hid hV2
          clear hV2 hA
          go_wp2_with fail
          obtain ⟨_, ho1, ho2⟩ := HQ2.out.getR
          refine (HQ2.out.callRead (Sep.framed (Sep.framed ShardS.framed RShardS.framed) (Framed.and OwS.framed OwS.framed)) (E := fun e => e = .returned (.bool true)) (pairs_eq s.1 _ _ _ ho1.rd ho2.rd)).mono ?_
          rintro e v3w ⟨rfl, hV3⟩
          have HQ3 := Lib.hid (hV3.rest (R' := Emp) fun _ _ => trivial)
          clear hV3 ho1 ho2
          go_wp2_with fail
          rw [cm_lru_n g b _ (mk_ptr HQ3.out) "Len" 54 (by kernel_rfl) (by kernel_rfl)]
          go_wp2_with fail
          obtain ⟨_, hA⟩ := HQ3.out.getA
          refine (HQ3.out.callRead (Sep.framed (Sep.framed ShardS.framed RShardS.framed) Emp.framed) (E := fun e => e = .returned (.int .i64 s.1.length)) (shLen_bound hA)).mono ?_
          rintro e v4w ⟨rfl, hV4⟩
          have HQ4 := Lib.hid hV4
          clear hV4 hA
          go_wp2_with fail
          obtain ⟨_, hA⟩ := HQ4.out.getB
          refine (HQ4.out.callKeep (Sep.framed ShardS.framed RShardS.framed) Emp.framed (Yx := fun v S w => OwS ePair 65 S w v s.1) (E := fun v e => e = .returned v) (fun _ => OwS.framed) (HRPA.out s _ _ _ hA)).mono ?_
          rintro e v5w ⟨v5, rfl, hV5⟩
          obtain ⟨_, -, ⟨⟨_, ao5, cp5, rfl, _⟩, _⟩⟩ := hV5.getR
          have HQ5 := Lib.hid hV5
          have hee : ((s.1.length : Int) == (s.1.length : Int)) = true := by simp
          clear hV5 hA
          go_wp2_with fail
          go_ret
          exact ⟨rfl, St.below HQ5.out⟩
end Go.Proofs.Ythppleegiieneaa
