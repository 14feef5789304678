/- The law CmapParts: its walk. -/
import Derived.Test.YthppleegiieneaaCMapNewBad
import Derived.Test.YthppleegiieneaaCMapAwake
import Derived.Test.YthppleegiieneaaCmapPartsP
import Derived.Deep.RegionHeld3
namespace Go.Proofs.Ythppleegiieneaa
open Go.RowKit
set_option linter.unusedVariables false
set_option linter.unusedSimpArgs false

theorem awake_only (w : World) : Calls Try.prog 7 #[] w fun e w' => e = .returned (.bool true) ∧ Only (fun _ => False) w w' :=
  (awake_any w).mono fun e w' ⟨he, h⟩ => ⟨he, Only.of_below h fun k h1 h2 => by omega⟩
theorem def_start (kind cap : Int) (w : World) : Upd (Blk w.heap.size (defO kind cap)) (fun _ => False) w (w.alloc (defO kind cap)) := ⟨⟨heap_alloc_new _ _, .inr (Nat.le_refl _)⟩, Only.alloc _ _ _⟩
theorem def_cells {bd : Nat} {kind cap : Int} {S : Nat → Prop} {w W : World} (h : Upd (Blk bd (defO kind cap)) S w W) : W.cell? ⟨bd, 0, none⟩ = some (.int .i64 kind) ∧ W.cell? ⟨bd, 1, none⟩ = some (.int .i64 cap) := ⟨blk_cell h.1.1 0, blk_cell h.1.1 1⟩
theorem it_cells {w : World} {b off : Nat} {xs : List ItemD} (hc : ∀ j u, (eItem.all xs)[j]? = some u → w.cell? ⟨b, off + j, none⟩ = some u) (k : Nat) (h : k < xs.length) :
    w.cell? ⟨b, off + k * 4 + 1, none⟩ = some (.int .i64 xs[k].2.1) ∧ w.cell? ⟨b, off + k * 4 + 2, none⟩ = some (.int .u64 xs[k].2.2.1) ∧ w.cell? ⟨b, off + k * 4 + 3, none⟩ = some (.int .u64 xs[k].2.2.2) := (it_cells4 hc k h).2
theorem cell_below {w w' : World} (h : Below w.heap.size w w') {a : Addr} {v : Value} (c : w.cell? a = some v) : w'.cell? a = some v :=
  only_cell (Only.of_below h fun k h1 h2 => by omega) c
theorem na_book {n : Nat} (b : Nat) (w : World) (hn : n = Try.prog.types.size + Made.depth) : (nilAhead n 67 (.pointer (some ⟨b, 0, none⟩)) "Do").run Try.prog w = .ok (some false) w := by
  rw [hn]
  kernel_rfl
theorem na_lru {n : Nat} (b : Nat) (w : World) (hn : n = Try.prog.types.size + Made.depth) : (nilAhead n 70 (.pointer (some ⟨b, 0, none⟩)) "Do").run Try.prog w = .ok (some false) w := by
  rw [hn]
  kernel_rfl
theorem res_slot {W0 : World} {ax : Option Addr} {n cx : Nat} {rs : List ResD} (hl : rs.length = n) (h : Rd eRes W0 (.slice ax n cx) rs) {k : Nat} (hk : k < rs.length) :
    ∃ rb ro, ax = some ⟨rb, ro, none⟩ ∧ Hid (∀ W, Rd eRes W (.slice ax n cx) rs → W.cell? ⟨rb, ro + k * 6, none⟩ = some (.int .i64 rs[k].1) ∧ W.cell? ⟨rb, ro + k * 6 + 1, none⟩ = some (.bool rs[k].2.1) ∧ W.cell? ⟨rb, ro + k * 6 + 2, none⟩ = some (.int .u64 rs[k].2.2.1) ∧ W.cell? ⟨rb, ro + k * 6 + 3, none⟩ = some (.bool rs[k].2.2.2.1) ∧ W.cell? ⟨rb, ro + k * 6 + 4, none⟩ = some (.int .u64 rs[k].2.2.2.2.1) ∧ W.cell? ⟨rb, ro + k * 6 + 5, none⟩ = some (.int .u64 rs[k].2.2.2.2.2)) := by
  obtain ⟨_, a1, c1, he, _, _, hx⟩ := h
  obtain ⟨rb, ro, hab, _⟩ := hx (by omega)
  have ha : ax = a1 := by simp at he; exact he.1
  refine ⟨rb, ro, ha.trans hab, Lib.hid fun W hW => ?_⟩
  obtain ⟨_, a2, c2, he2, _, _, hx2⟩ := hW
  obtain ⟨rb2, ro2, hab2, hc⟩ := hx2 (by omega)
  have ha2 : ax = a2 := by simp at he2; exact he2.1
  have hbb : (⟨rb, ro, none⟩ : Addr) = ⟨rb2, ro2, none⟩ := by rw [← ha, ha2, hab2] at hab; exact (Option.some.inj hab).symm
  obtain ⟨rfl, rfl⟩ : rb = rb2 ∧ ro = ro2 := by simpa using hbb
  have e0 := eRes.all_at rs k 0 hk (by decide)
  have e1 := eRes.all_at rs k 1 hk (by decide)
  have e2 := eRes.all_at rs k 2 hk (by decide)
  have e3 := eRes.all_at rs k 3 hk (by decide)
  have e4 := eRes.all_at rs k 4 hk (by decide)
  have e5 := eRes.all_at rs k 5 hk (by decide)
  have a : ∀ j, ro + k * 6 + j = ro + (k * 6 + j) := fun j => by omega
  exact ⟨by have := hc _ _ e0; exact this, by rw [a]; exact hc _ _ (by rw [e1]; rfl), by rw [a]; exact hc _ _ (by rw [e2]; rfl), by rw [a]; exact hc _ _ (by rw [e3]; rfl), by rw [a]; exact hc _ _ (by rw [e4]; rfl), by rw [a]; exact hc _ _ (by rw [e5]; rfl)⟩
section
variable {P Q Y Z : (Nat → Prop) → World → Prop} {bd g b : Nat} {kind cap : Int} {s : Sh} {S : Nat → Prop} {w W : World}
theorem cp_plain1 (h : Upd (Sep P (fun S w => (Q S w ∧ Blk bd (defO kind cap) S w) ∧ Y S w)) S w W) : W.cell? ⟨bd, 1, none⟩ = some (.int .i64 cap) := by
  obtain ⟨_, ⟨_, h⟩, _⟩ := h.getR
  exact blk_cell h.1 1
theorem cp_plain2 (h : Upd (Sep P (fun S w => ((Q S w ∧ Blk bd (defO kind cap) S w) ∧ Y S w) ∧ Z S w)) S w W) : W.cell? ⟨bd, 1, none⟩ = some (.int .i64 cap) := by
  obtain ⟨_, ⟨⟨_, h⟩, _⟩, _⟩ := h.getR
  exact blk_cell h.1 1
theorem cp_bound1 (h : Upd (Sep (Sep (ShardS (.bound g b) cap s) P) (fun S w => (Q S w ∧ Blk bd (defO kind cap) S w) ∧ Y S w)) S w W) : W.cell? ⟨bd, 1, none⟩ = some (.int .i64 cap) ∧ W.cell? ⟨g, 0, none⟩ = some (.pointer (some ⟨b, 0, none⟩)) := by
  obtain ⟨_, h2⟩ := h.getA
  exact ⟨cp_plain1 h, h2.ptr⟩
theorem cp_bound2 (h : Upd (Sep (Sep (ShardS (.bound g b) cap s) P) (fun S w => ((Q S w ∧ Blk bd (defO kind cap) S w) ∧ Y S w) ∧ Z S w)) S w W) : W.cell? ⟨bd, 1, none⟩ = some (.int .i64 cap) ∧ W.cell? ⟨g, 0, none⟩ = some (.pointer (some ⟨b, 0, none⟩)) := by
  obtain ⟨_, h2⟩ := h.getA
  exact ⟨cp_plain2 h, h2.ptr⟩
end
set_option maxRecDepth 100000 in
set_option maxHeartbeats 4000000 in
theorem cmapParts_bad (kind cap n : Int) (v : Value) (w : World) (h : ¬ ((1 ≤ n ∧ n ≤ 4) ∧ okDef kind cap = true)) :
    Calls Try.prog 4 #[.agg #[.int .i64 kind, .int .i64 cap], .int .i64 n, v] w fun e w' => e = .returned (.bool true) ∧ Below w.heap.size w w' := by
  have HH := Lib.hid h
  clear h
  go_enter Try.func4, Try.ntmps4
  go_wp2_with fail
  have HB := Lib.hid (def_start kind cap w)
  generalize World.alloc w _ = wa at *
  generalize w.heap.size = bd at *
  refine (HB.out.callRead Blk.framed (E := fun e => e = .returned (.bool true)) (awake_only wa)).mono ?_
  rintro e w1 ⟨rfl, hB1⟩
  have HB1 := Lib.hid hB1
  obtain ⟨c0, c1⟩ := def_cells hB1
  clear hB1 HB
  go_wp2_with fail
  refine (HB1.out.callRead Blk.framed (E := fun e => e = .returned (.tuple #[.pointer none, .int .i64 2])) (cmapNew_bad kind cap n w1 HH.out)).mono ?_
  rintro e w2 ⟨rfl, hB2⟩
  have HB2 := Lib.hid hB2
  clear hB2 HB1 c0 c1
  go_wp2_with fail
  go_ret
  exact ⟨rfl, St.below HB2.out⟩
set_option maxRecDepth 100000 in
set_option maxHeartbeats 40000000 in
theorem cmapParts_yes (kind cap n : Int) (hn1 : 1 ≤ n) (hn4 : n ≤ 4) (hok : okDef kind cap = true) (ds : List ItemD) (v : Value) (w : World) (hv : Rd eItem w v ds) :
    Calls Try.prog 4 #[.agg #[.int .i64 kind, .int .i64 cap], .int .i64 n, v] w fun e w' => e = .returned (.bool true) ∧ Below w.heap.size w w' := by
  obtain ⟨hmx, ao, c, rfl, hcap, _, _⟩ := id hv
  unfold maxLen at hmx
  have HV := Lib.hid hv
  have HOK := Lib.hid hok
  have HN1 := Lib.hid hn1
  have HN4 := Lib.hid hn4
  have HSG := Lib.hid (show SGood (decide (kind = 1)) cap ([], []) by obtain ⟨_, h1, h2⟩ := okDef_iff.1 hok; exact sgood_nil h1 h2)
  clear hv hok hn1 hn4
  go_enter Try.func4, Try.ntmps4
  go_wp2_with fail
  have HB := Lib.hid (def_start kind cap w)
  generalize World.alloc w _ = wa at *
  generalize w.heap.size = bd at *
  refine (HB.out.callRead Blk.framed (E := fun e => e = .returned (.bool true)) (awake_only wa)).mono ?_
  rintro e w1 ⟨rfl, hB1⟩
  have HB1 := Lib.hid hB1
  obtain ⟨c0, c1⟩ := def_cells hB1
  clear hB1 HB
  go_wp2_with fail
  refine (cmapNewU Blk.framed HB1.out HN1.out HN4.out HOK.out).mono ?_
  rintro e w2 ⟨ma, rfl, al, G, hU⟩
  have HU2 := Lib.hid hU
  have HG0 := Lib.hid G
  clear hU HB1 c0 c1 G
  by_cases h3 : 3000 < ds.length
  · go_wp2_with fail
    go_ret
    exact ⟨rfl, St.below HU2.out⟩
  · have h3' : (ds.length : Int) ≤ 3000 := by omega
    have hb3 : ds.length ≤ 3000 := by omega
    have HOW := Lib.hid (OwS.of_ow (Ow.lit (E := eItem) w2 w2.heap.size #[] 42 0 [] (by simp [Enc.all]) rfl (by simp) (Nat.le_refl _)))
    have HRD := Lib.hid ((HV.out.only HU2.out.2).only (Only.alloc _ w2 (.cells #[] 42 (0, 0))))
    go_wp2_with (at_builtin; refine wl_appendS (E := eItem) rfl _ _ _ rfl 42 32 eItem_slice _ _ [] rfl HOW.out _ ds rfl HRD.out (by simp only [List.length_nil]; omega) (by unfold maxLen; simp only [List.length_nil]; omega) ?_)
    intro vi w4 hown4 hO4
    have HI := Lib.hid (HU2.out.add (Sep.framed MapS.framed Blk.framed) (Q := fun S w => OwS eItem 42 S w vi ds) OwS.framed (OwS.framed.mono _ _ _ hown4 fun k _ h => h.elim id fun h => Nat.le_of_succ_le h) ((Only.alloc (fun _ => False) w2 (.cells #[] 42 (0, 0))).trans hO4 fun j hj h => by omega))
    obtain ⟨⟨_, ai, ci, rfl, _⟩, _⟩ := hown4
    have HI2 := Lib.hid (show Upd (Sep (fun A w => MapS ma kind cap al (List.replicate n.toNat ([], [])) A w ∧ ∀ k, (Value.slice ai ds.length ci).ownBlock = some k → ¬ A k) (Sep (Blk bd (defO kind cap)) (fun S w => OwS eItem 42 S w (.slice ai ds.length ci) ds))) (fun _ => False) w w4 from by
      obtain ⟨h, ho⟩ := HI.out
      refine ⟨?_, ho⟩
      obtain ⟨A, B, hd, hA, hB, hp, hq⟩ := h.assoc
      refine ⟨A, B, hd, hA, hB, ⟨hp, fun k hk ha => hd k ha ?_⟩, hq⟩
      obtain ⟨_, C, _, _, hC, _, hw⟩ := hq
      exact hC k (hw.2 k hk))
    clear hO4 HOW HRD HI
    have HLN := Lib.hid (show ((List.replicate n.toNat (([], []) : Sh)).length : Int) = n by have := HN1.out; simp; omega)
    have HAN0 := Lib.hid (show ∀ s : Nat, (s : Int) < n → ∃ h : s < (List.replicate n.toNat (([], []) : Sh)).length, (List.replicate n.toNat (([], []) : Sh))[s] = ([], []) from fun s hs => ⟨by have := HLN.out; omega, by simp⟩)
    generalize (List.replicate n.toNat (([], []) : Sh)) = ss0 at *
    obtain ⟨rs, st, hE⟩ : ∃ rs st, mBatch kind cap ss0 ds = (rs, st) := ⟨_, _, rfl⟩
    have HE := Lib.hid hE
    have HRL := Lib.hid (show rs.length = ds.length by have := mBatch_len (kind := kind) (cap := cap) (ss := ss0) ds; rwa [hE] at this)
    have HSL := Lib.hid (show (st.length : Int) = n by have := mBatch_len2 kind cap ds ss0; rw [hE] at this; have := HLN.out; simp only at *; omega)
    have HGA := Lib.hid (show MGood kind cap al st by have := mBatch_good HG0.out ds; rwa [hE] at this)
    have HANS := Lib.hid (show ∀ s : Nat, (s : Int) < n → ∀ k (hk : k < ds.length), ofS ds[k].2.2.1 n = s → rs[k]? = some (shP (decide (kind = 1)) cap (oneRun kind cap n s ([], []) (ds.take k)) ds[k].2.1 ds[k].2.2.1 ds[k].2.2.2).1 from fun s hs k hk hof => by
      obtain ⟨h, he⟩ := HAN0.out s hs
      have := part_ans (kind := kind) (cap := cap) h hk (by rw [HLN.out]; exact hof)
      rwa [hE, HLN.out, he] at this)
    have HAT := Lib.hid (show ∀ s : Nat, (s : Int) < n → st[s]? = some (oneRun kind cap n s ([], []) ds) from fun s hs => by
      obtain ⟨h, he⟩ := HAN0.out s hs
      have := mBatch_at kind cap ds ss0 s h
      rwa [hE, HLN.out, he] at this)
    clear hE
    go_wp2_with fail
    refine (HI2.out.on1x (Sep.framed Blk.framed OwS.framed) (Px := fun v' => Sep (MapS ma kind cap al st) (fun S w => OwS eRes 38 S w v' rs)) (E := fun v' e => e = .returned v') (fun _ => Sep.framed MapS.framed OwS.framed) fun A hA => by
      have := cmapBatch_ hA.1 HG0.out (by obtain ⟨_, h⟩ := HI2.out.getR; exact (h.right OwS.framed).rd) hA.2 hb3
      rwa [HE.out] at this).mono ?_
    rintro e w5 ⟨vx, rfl, h5⟩
    have H5 := Lib.hid (show Upd (Sep (MapS ma kind cap al st) (fun S w => OwS eRes 38 S w vx rs ∧ Blk bd (defO kind cap) S w)) (fun _ => False) w w5 from h5.imp fun _ h => h.assoc.imp (fun _ h => h) fun _ h => ⟨h.left OwS.framed, (h.right (Sep.framed Blk.framed OwS.framed)).left Blk.framed⟩)
    obtain ⟨ax, cx, rfl⟩ : ∃ ax cx, vx = .slice ax ds.length cx := by
      obtain ⟨_, ⟨⟨_, ax, cx, rfl, _⟩, _⟩, _⟩ := H5.out.getR
      exact ⟨ax, cx, by rw [HRL.out]⟩
    have hne : (((ds.length : Nat) : Int) != ((ds.length : Nat) : Int)) = false := by simp
    clear h5 HI2 HG0 HE HAN0
    go_wp2_with fail
    go_loopw [11, 10, 12, 13, 14, 15] (fun t11 t10 _ _ _ _ wr => ∃ s : Nat, (s : Int) ≤ n ∧ t11 = .int .i64 s ∧ t10 = .int .i64 ((allP (st.take s)).length : Int) ∧ Hid (Upd (Sep (MapS ma kind cap al st) (fun S w => OwS eRes 38 S w (.slice ax ds.length cx) rs ∧ Blk bd (defO kind cap) S w)) (fun _ => False) w wr)) (fun t11 _ _ _ _ _ _ => n.toNat - (intOf t11).toNat)
    case atStart => exact ⟨0, by have := HN1.out; omega, rfl, rfl, H5⟩
    case round =>
    clear H5
    obtain ⟨s, hs, rfl, rfl, V0⟩ := hrel
    by_cases hsn : (s : Int) < n
    · obtain ⟨_, _, hbk⟩ := V0.out.getR
      have c0 := (blk_cell hbk.1 0).trans rfl
      have c1 := (blk_cell hbk.1 1).trans rfl
      clear hbk
      go_wp2_with fail
      refine (V0.out.callNew (Sep.framed MapS.framed (Framed.and OwS.framed Blk.framed)) (Yx := fun a S w => a.bd = decide (kind = 1) ∧ ShardS a cap ([], []) S w) (E := fun a e => e = .returned (.tuple #[a.val, .int .i64 0])) (fun _ => Framed.and (Framed.pure _) ShardS.framed) (make_ok kind cap _ HOK.out)).mono ?_
      rintro e w6 ⟨a, rfl, hU⟩
      have HBD := Lib.hid (show a.bd = decide (kind = 1) by obtain ⟨_, h, _⟩ := hU.getR; exact h)
      have HU := Lib.hid (show Upd (Sep (Sep (ShardS a cap ([], [])) (MapS ma kind cap al st)) (fun S w => OwS eRes 38 S w (.slice ax ds.length cx) rs ∧ Blk bd (defO kind cap) S w)) (fun _ => False) w w6 from hU.imp fun _ h => (h.swap.imp (fun _ h => h.2) fun _ h => h).assoc')
      clear hU V0
      cases a with
      | plain b =>
        have h1 := sh_eqn
        have HK := Lib.hid (show false = decide (kind = 1) from HBD.out)
        simp only [ShA.val]
        go_wp2_with fail
        clear c0 c1 h1
        go_loopw [14] (fun t14 wr => ∃ (k : Nat) (s1 : Sh), k ≤ ds.length ∧ t14 = .int .i64 k ∧ Hid (oneRun kind cap n s ([], []) (ds.take k) = s1) ∧ Hid (SGood false cap s1) ∧ Hid (Upd (Sep (Sep (ShardS (.plain b) cap s1) (MapS ma kind cap al st)) (fun S w => OwS eRes 38 S w (.slice ax ds.length cx) rs ∧ Blk bd (defO kind cap) S w)) (fun _ => False) w wr)) (fun t14 _ => ds.length - (intOf t14).toNat)
        case atStart => exact ⟨0, ([], []), Nat.zero_le _, rfl, Lib.hid rfl, Lib.hid (by rw [HK.out]; exact HSG.out), HU⟩
        case round =>
          clear HU HBD
          obtain ⟨k, s1, hk, rfl, HR1, HG, V⟩ := hrel
          by_cases hlt : k < ds.length
          · obtain ⟨_, ao', cap', hao, _, _, hx⟩ := HV.out
            obtain ⟨rfl, -, rfl⟩ : ao = ao' ∧ ds.length = ds.length ∧ c = cap' := by simpa using hao
            obtain ⟨sb, off, rfl, hc⟩ := hx (by omega)
            obtain ⟨c0, c1, c2⟩ := it_cells hc k hlt
            have hi0 : (0 : Int) ≤ (k : Int) := by omega
            have hi1 : (k : Int) < (ds.length : Int) := by omega
            have HAN := Lib.hid (HANS.out s hsn k hlt)
            have HDS := Lib.hid (show ds.take (k + 1) = ds.take k ++ [ds[k]] from (List.take_append_getElem hlt).symm)
            clear hc hx hao
            generalize hit : ds[k] = it at *
            obtain ⟨mp, op, dk, dv⟩ := it
            dsimp only at c0 c1 c2 HAN
            have HC0 := Lib.hid (And.intro c0 (And.intro c1 c2))
            replace c0 := cell_below (St.below V.out) c0
            replace c1 := cell_below (St.below V.out) c1
            replace c2 := cell_below (St.below V.out) c2
            have hkr : k < rs.length := by rw [HRL.out]; exact hlt
            obtain ⟨rb, ro, rfl, HRC⟩ : ∃ rb ro, ax = some ⟨rb, ro, none⟩ ∧ Hid (∀ W, Rd eRes W (.slice ax ds.length cx) rs → W.cell? ⟨rb, ro + k * 6, none⟩ = some (.int .i64 rs[k].1) ∧ W.cell? ⟨rb, ro + k * 6 + 1, none⟩ = some (.bool rs[k].2.1) ∧ W.cell? ⟨rb, ro + k * 6 + 2, none⟩ = some (.int .u64 rs[k].2.2.1) ∧ W.cell? ⟨rb, ro + k * 6 + 3, none⟩ = some (.bool rs[k].2.2.2.1) ∧ W.cell? ⟨rb, ro + k * 6 + 4, none⟩ = some (.int .u64 rs[k].2.2.2.2.1) ∧ W.cell? ⟨rb, ro + k * 6 + 5, none⟩ = some (.int .u64 rs[k].2.2.2.2.2)) := by
              obtain ⟨_, hz, _⟩ := V.out.getR
              exact res_slot HRL.out hz.rd hkr
            have HRK := Lib.hid (List.getElem?_eq_getElem hkr)
            generalize rs[k] = rk at *
            obtain ⟨x0, x1, x2, x3, x4, x5⟩ := rk
            dsimp only at HRC
            have HKI := Lib.hid (show ∀ W, Below w.heap.size w W → (W.cell? ⟨sb, off + k * 4 + 1, none⟩ = some (.int .i64 op) ∧ W.cell? ⟨sb, off + k * 4 + 2, none⟩ = some (.int .u64 dk) ∧ W.cell? ⟨sb, off + k * 4 + 3, none⟩ = some (.int .u64 dv)) from fun W h => ⟨cell_below h HC0.out.1, cell_below h HC0.out.2.1, cell_below h HC0.out.2.2⟩)
            have HKR := Lib.hid (show ∀ (P : (Nat → Prop) → World → Prop) W, Upd (Sep P (fun S w => OwS eRes 38 S w (.slice (some ⟨rb, ro, none⟩) ds.length cx) rs ∧ Blk bd (defO kind cap) S w)) (fun _ => False) w W → (W.cell? ⟨rb, ro + k * 6, none⟩ = some (.int .i64 x0) ∧ W.cell? ⟨rb, ro + k * 6 + 1, none⟩ = some (.bool x1) ∧ W.cell? ⟨rb, ro + k * 6 + 2, none⟩ = some (.int .u64 x2) ∧ W.cell? ⟨rb, ro + k * 6 + 3, none⟩ = some (.bool x3) ∧ W.cell? ⟨rb, ro + k * 6 + 4, none⟩ = some (.int .u64 x4) ∧ W.cell? ⟨rb, ro + k * 6 + 5, none⟩ = some (.int .u64 x5)) from fun P W h => by
              obtain ⟨_, hz, _⟩ := h.getR
              exact HRC.out W hz.rd)
            obtain ⟨r0, r1, r2, r3, r4, r5⟩ := HKR.out _ _ V.out
            have HOF := Lib.hid (fun w => of_any dk n w (by have := HN4.out; omega))
            by_cases hof : ofS dk n = s
            · have hofb : (ofS dk n == (s : Int)) = true := by simpa using hof
              obtain ⟨s2, hd⟩ : ∃ s2, shP false cap s1 op dk dv = ((x0, x1, x2, x3, x4, x5), s2) := by
                have h := HAN.out hof
                rw [HRK.out, HR1.out, ← HK.out] at h
                exact ⟨_, Prod.ext (Option.some.inj h).symm rfl⟩
              have HD := Lib.hid hd
              have HG2 := Lib.hid (show SGood false cap s2 by have := sh_good (op := op) (k := dk) (v := dv) HG.out; rwa [hd] at this)
              have HR2 := Lib.hid (show oneRun kind cap n s ([], []) (ds.take (k + 1)) = s2 by rw [HDS.out, oneRun_snoc, HR1.out]; unfold oneStep; rw [if_pos hof, ← HK.out, hd])
              have hz := res_neq_self x0 x1 x2 x3 x4 x5
              have hcm := cm_book_do b op dk dv
              clear hd hof
              go_wp2_with fail
              refine wp_region_noPanic ?_
              refine wp_region_held_drew (S := fun W => (W.cell? ⟨sb, off + k * 4 + 1, none⟩ = some (.int .i64 op) ∧ W.cell? ⟨sb, off + k * 4 + 2, none⟩ = some (.int .u64 dk) ∧ W.cell? ⟨sb, off + k * 4 + 3, none⟩ = some (.int .u64 dv)) ∧ (W.cell? ⟨rb, ro + k * 6, none⟩ = some (.int .i64 x0) ∧ W.cell? ⟨rb, ro + k * 6 + 1, none⟩ = some (.bool x1) ∧ W.cell? ⟨rb, ro + k * 6 + 2, none⟩ = some (.int .u64 x2) ∧ W.cell? ⟨rb, ro + k * 6 + 3, none⟩ = some (.bool x3) ∧ W.cell? ⟨rb, ro + k * 6 + 4, none⟩ = some (.int .u64 x4) ∧ W.cell? ⟨rb, ro + k * 6 + 5, none⟩ = some (.int .u64 x5))) (by kernel_rfl) ?_ (fun hHeld => ?_)
              · exact ⟨⟨c0, c1, c2⟩, ⟨r0, r1, r2, r3, r4, r5⟩⟩
              try simp only [Act.put, List.getElem_toArray, List.getElem_cons_succ, List.getElem_cons_zero, List.setIfInBounds_toArray, List.set_cons_zero, List.set_cons_succ]
              refine wpAnyH_take (i := 0) (v := ?vpa0) rfl (by kernel_rfl) (by kernel_rfl) (by kernel_rfl) (fun _ _ _ h => h) (Or.inl ⟨by rfl, ?hypa0⟩) (by assumption) ?restpa0
              case hypa0 =>
                intro w hSw
                try dsimp only at hSw
                go_simp
                all_goals with_reducible rfl
              simp only [Act.put, List.getElem_toArray, List.getElem_cons_succ, List.getElem_cons_zero, List.setIfInBounds_toArray, List.set_cons_zero, List.set_cons_succ]
              refine wpAnyH_take (i := 1) (v := ?vpa1) rfl (by kernel_rfl) (by kernel_rfl) (by kernel_rfl) (fun _ _ _ h => h) (Or.inl ⟨by rfl, ?hypa1⟩) (by assumption) ?restpa1
              case hypa1 =>
                intro w hSw
                try dsimp only at hSw
                go_simp
                all_goals with_reducible rfl
              simp only [Act.put, List.getElem_toArray, List.getElem_cons_succ, List.getElem_cons_zero, List.setIfInBounds_toArray, List.set_cons_zero, List.set_cons_succ]
              refine wpAnyH_take (i := 2) (v := ?vpa2) rfl (by kernel_rfl) (by kernel_rfl) (by kernel_rfl) (fun _ _ _ h => h) (Or.inl ⟨by rfl, ?hypa2⟩) (by assumption) ?restpa2
              case hypa2 =>
                intro w hSw
                try dsimp only at hSw
                go_simp
                all_goals with_reducible rfl
              simp only [Act.put, List.getElem_toArray, List.getElem_cons_succ, List.getElem_cons_zero, List.setIfInBounds_toArray, List.set_cons_zero, List.set_cons_succ]
              refine wpAnyH_take (i := 3) (v := ?vpa3) rfl (by kernel_rfl) (by kernel_rfl) (by kernel_rfl) (fun _ _ _ h => h) (Or.inl ⟨by rfl, ?hypa3⟩) (by assumption) ?restpa3
              case hypa3 =>
                intro w hSw
                try dsimp only at hSw
                go_simp
                all_goals with_reducible rfl
              simp only [Act.put, List.getElem_toArray, List.getElem_cons_succ, List.getElem_cons_zero, List.setIfInBounds_toArray, List.set_cons_zero, List.set_cons_succ]
              refine wpAnyH_take (i := 4) (v := ?vpa4) rfl (by kernel_rfl) (by kernel_rfl) (by kernel_rfl) (fun _ _ _ h => h) (Or.inl ⟨by rfl, ?hypa4⟩) (by assumption) ?restpa4
              case hypa4 =>
                intro w hSw
                try dsimp only at hSw
                go_simp
                all_goals with_reducible rfl
              simp only [Act.put, List.getElem_toArray, List.getElem_cons_succ, List.getElem_cons_zero, List.setIfInBounds_toArray, List.set_cons_zero, List.set_cons_succ]
              refine wpAnyH_take (i := 5) (v := ?vpa5) rfl (by kernel_rfl) (by kernel_rfl) (by kernel_rfl) (fun _ _ _ h => h) (Or.inl ⟨by rfl, ?hypa5⟩) (by assumption) ?restpa5
              case hypa5 =>
                intro w hSw
                try dsimp only at hSw
                go_simp
                all_goals with_reducible rfl
              simp only [Act.put, List.getElem_toArray, List.getElem_cons_succ, List.getElem_cons_zero, List.setIfInBounds_toArray, List.set_cons_zero, List.set_cons_succ]
              refine wpAnyH_take (i := 7) (v := ?vpa7) rfl (by kernel_rfl) (by kernel_rfl) (by kernel_rfl) (fun _ _ _ h => h) (Or.inl ⟨by rfl, ?hypa7⟩) (by assumption) ?restpa7
              case hypa7 =>
                intro w hSw
                try dsimp only at hSw
                go_simp
                all_goals with_reducible rfl
              simp only [Act.put, List.getElem_toArray, List.getElem_cons_succ, List.getElem_cons_zero, List.setIfInBounds_toArray, List.set_cons_zero, List.set_cons_succ]
              refine wpAnyH_ready (rs := [6]) (by kernel_rfl) (by simp) ?_
              refine AllReadyH.cons rfl (fun K hK => ?_) AllReadyH.nil
              go_simp
              refine (HOF.out _).mono ?_
              rintro e wo ⟨rfl, rfl⟩
              try go_wp2_with fail
              refine hK.out _ _ ?_ (fun hHeld => ?_)
              · exact hHeld
              clear hK K
              try simp only [Act.put, List.getElem_toArray, List.getElem_cons_succ, List.getElem_cons_zero, List.setIfInBounds_toArray, List.set_cons_zero, List.set_cons_succ]
              refine wpAnyH_take (i := 8) (v := ?vpa8) rfl (by kernel_rfl) (by kernel_rfl) (by kernel_rfl) (fun _ _ _ h => h) (Or.inl ⟨by rfl, ?hypa8⟩) (by assumption) ?restpa8
              case hypa8 =>
                intro w hSw
                try dsimp only at hSw
                go_simp
                all_goals with_reducible rfl
              simp only [Act.put, List.getElem_toArray, List.getElem_cons_succ, List.getElem_cons_zero, List.setIfInBounds_toArray, List.set_cons_zero, List.set_cons_succ]
              refine wpAnyH_take (i := 9) (v := ?vpa9) rfl (by kernel_rfl) (by kernel_rfl) (by kernel_rfl) (fun _ _ _ h => h) (Or.inl ⟨by rfl, ?hypa9⟩) (by assumption) ?restpa9
              case hypa9 =>
                intro w hSw
                try dsimp only at hSw
                go_simp
                all_goals with_reducible rfl
              simp only [Act.put, List.getElem_toArray, List.getElem_cons_succ, List.getElem_cons_zero, List.setIfInBounds_toArray, List.set_cons_zero, List.set_cons_succ]
              refine wpAnyH_take (i := 10) (v := ?vpa10) rfl (by kernel_rfl) (by kernel_rfl) (by kernel_rfl) (fun _ _ _ h => h) (Or.inl ⟨by rfl, ?hypa10⟩) (by assumption) ?restpa10
              case hypa10 =>
                intro w hSw
                try dsimp only at hSw
                go_simp
                all_goals with_reducible rfl
              simp only [Act.put, List.getElem_toArray, List.getElem_cons_succ, List.getElem_cons_zero, List.setIfInBounds_toArray, List.set_cons_zero, List.set_cons_succ]
              refine wpAnyH_take (i := 11) (v := ?vpa11) rfl (by kernel_rfl) (by kernel_rfl) (by kernel_rfl) (fun _ _ _ h => h) (Or.inl ⟨by rfl, ?hypa11⟩) (by assumption) ?restpa11
              case hypa11 =>
                intro w hSw
                try dsimp only at hSw
                go_simp
                all_goals with_reducible rfl
              simp only [Act.put, List.getElem_toArray, List.getElem_cons_succ, List.getElem_cons_zero, List.setIfInBounds_toArray, List.set_cons_zero, List.set_cons_succ]
              refine wpAnyH_take (i := 12) (v := ?vpa12) rfl (by kernel_rfl) (by kernel_rfl) (by kernel_rfl) (fun _ _ _ h => h) (Or.inl ⟨by rfl, ?hypa12⟩) (by assumption) ?restpa12
              case hypa12 =>
                intro w hSw
                try dsimp only at hSw
                go_simp
                all_goals with_reducible rfl
              simp only [Act.put, List.getElem_toArray, List.getElem_cons_succ, List.getElem_cons_zero, List.setIfInBounds_toArray, List.set_cons_zero, List.set_cons_succ]
              refine wpAnyH_take (i := 13) (v := ?vpa13) rfl (by kernel_rfl) (by kernel_rfl) (by kernel_rfl) (fun _ _ _ h => h) (Or.inl ⟨by rfl, ?hypa13⟩) (by assumption) ?restpa13
              case hypa13 =>
                intro w hSw
                try dsimp only at hSw
                go_simp
                all_goals with_reducible rfl
              simp only [Act.put, List.getElem_toArray, List.getElem_cons_succ, List.getElem_cons_zero, List.setIfInBounds_toArray, List.set_cons_zero, List.set_cons_succ]
              refine wpAnyH_take (i := 14) (v := ?vpa14) rfl (by kernel_rfl) (by kernel_rfl) (by kernel_rfl) (fun _ _ _ h => h) (Or.inl ⟨by rfl, ?hypa14⟩) (by assumption) ?restpa14
              case hypa14 =>
                intro w hSw
                try dsimp only at hSw
                go_simp
                all_goals with_reducible rfl
              simp only [Act.put, List.getElem_toArray, List.getElem_cons_succ, List.getElem_cons_zero, List.setIfInBounds_toArray, List.set_cons_zero, List.set_cons_succ]
              refine wpAnyH_take (i := 15) (v := ?vpa15) rfl (by kernel_rfl) (by kernel_rfl) (by kernel_rfl) (fun _ _ _ h => h) (Or.inl ⟨by rfl, ?hypa15⟩) (by assumption) ?restpa15
              case hypa15 =>
                intro w hSw
                try dsimp only at hSw
                go_simp
                all_goals with_reducible rfl
              simp only [Act.put, List.getElem_toArray, List.getElem_cons_succ, List.getElem_cons_zero, List.setIfInBounds_toArray, List.set_cons_zero, List.set_cons_succ]
              refine wpAnyH_take (i := 16) (v := ?vpa16) rfl (by kernel_rfl) (by kernel_rfl) (by kernel_rfl) (fun _ _ _ h => h) (Or.inl ⟨by rfl, ?hypa16⟩) (by assumption) ?restpa16
              case hypa16 =>
                intro w hSw
                try dsimp only at hSw
                go_simp
                all_goals with_reducible rfl
              simp only [Act.put, List.getElem_toArray, List.getElem_cons_succ, List.getElem_cons_zero, List.setIfInBounds_toArray, List.set_cons_zero, List.set_cons_succ]
              refine wpAnyH_take (i := 17) (v := ?vpa17) rfl (by kernel_rfl) (by kernel_rfl) (by kernel_rfl) (fun _ _ _ h => h) (Or.inl ⟨by rfl, ?hypa17⟩) (by assumption) ?restpa17
              case hypa17 =>
                intro w hSw
                try dsimp only at hSw
                go_simp
                all_goals with_reducible rfl
              simp only [Act.put, List.getElem_toArray, List.getElem_cons_succ, List.getElem_cons_zero, List.setIfInBounds_toArray, List.set_cons_zero, List.set_cons_succ]
              refine wpAnyH_take (i := 18) (v := ?vpa18) rfl (by kernel_rfl) (by kernel_rfl) (by kernel_rfl) (fun _ _ _ h => h) (Or.inl ⟨by rfl, ?hypa18⟩) (by assumption) ?restpa18
              case hypa18 =>
                intro w hSw
                try dsimp only at hSw
                go_simp
                all_goals with_reducible rfl
              simp only [Act.put, List.getElem_toArray, List.getElem_cons_succ, List.getElem_cons_zero, List.setIfInBounds_toArray, List.set_cons_zero, List.set_cons_succ]
              refine wpAnyH_take (i := 19) (v := ?vpa19) rfl (by kernel_rfl) (by kernel_rfl) (by kernel_rfl) (fun _ _ _ h => h) (Or.inl ⟨by rfl, ?hypa19⟩) (by assumption) ?restpa19
              case hypa19 =>
                intro w hSw
                try dsimp only at hSw
                go_simp
                all_goals with_reducible rfl
              simp only [Act.put, List.getElem_toArray, List.getElem_cons_succ, List.getElem_cons_zero, List.setIfInBounds_toArray, List.set_cons_zero, List.set_cons_succ]
              refine wpAnyH_take (i := 20) (v := ?vpa20) rfl (by kernel_rfl) (by kernel_rfl) (by kernel_rfl) (fun _ _ _ h => h) (Or.inl ⟨by rfl, ?hypa20⟩) (by assumption) ?restpa20
              case hypa20 =>
                intro w hSw
                try dsimp only at hSw
                go_simp
                all_goals with_reducible rfl
              simp only [Act.put, List.getElem_toArray, List.getElem_cons_succ, List.getElem_cons_zero, List.setIfInBounds_toArray, List.set_cons_zero, List.set_cons_succ]
              refine wpAnyH_take (i := 21) (v := ?vpa21) rfl (by kernel_rfl) (by kernel_rfl) (by kernel_rfl) (fun _ _ _ h => h) (Or.inl ⟨by rfl, ?hypa21⟩) (by assumption) ?restpa21
              case hypa21 =>
                intro w hSw
                try dsimp only at hSw
                go_simp
                all_goals with_reducible rfl
              simp only [Act.put, List.getElem_toArray, List.getElem_cons_succ, List.getElem_cons_zero, List.setIfInBounds_toArray, List.set_cons_zero, List.set_cons_succ]
              refine wpAnyH_take (i := 22) (v := ?vpa22) rfl (by kernel_rfl) (by kernel_rfl) (by kernel_rfl) (fun _ _ _ h => h) (Or.inl ⟨by rfl, ?hypa22⟩) (by assumption) ?restpa22
              case hypa22 =>
                intro w hSw
                try dsimp only at hSw
                go_simp
                all_goals with_reducible rfl
              simp only [Act.put, List.getElem_toArray, List.getElem_cons_succ, List.getElem_cons_zero, List.setIfInBounds_toArray, List.set_cons_zero, List.set_cons_succ]
              refine wpAnyH_take (i := 23) (v := ?vpa23) rfl (by kernel_rfl) (by kernel_rfl) (by kernel_rfl) (fun _ _ _ h => h) (Or.inl ⟨by rfl, ?hypa23⟩) (by assumption) ?restpa23
              case hypa23 =>
                intro w hSw
                try dsimp only at hSw
                go_simp
                all_goals with_reducible rfl
              simp only [Act.put, List.getElem_toArray, List.getElem_cons_succ, List.getElem_cons_zero, List.setIfInBounds_toArray, List.set_cons_zero, List.set_cons_succ]
              refine wpAnyH_take (i := 24) (v := ?vpa24) rfl (by kernel_rfl) (by kernel_rfl) (by kernel_rfl) (fun _ _ _ h => h) (Or.inl ⟨by rfl, ?hypa24⟩) (by assumption) ?restpa24
              case hypa24 =>
                intro w hSw
                try dsimp only at hSw
                go_simp
                all_goals with_reducible rfl
              simp only [Act.put, List.getElem_toArray, List.getElem_cons_succ, List.getElem_cons_zero, List.setIfInBounds_toArray, List.set_cons_zero, List.set_cons_succ]
              refine wpAnyH_take (i := 25) (v := ?vpa25) rfl (by kernel_rfl) (by kernel_rfl) (by kernel_rfl) (fun _ _ _ h => h) (Or.inl ⟨by rfl, ?hypa25⟩) (by assumption) ?restpa25
              case hypa25 =>
                intro w hSw
                try dsimp only at hSw
                go_simp
                all_goals with_reducible rfl
              simp only [Act.put, List.getElem_toArray, List.getElem_cons_succ, List.getElem_cons_zero, List.setIfInBounds_toArray, List.set_cons_zero, List.set_cons_succ]
              refine wpAnyH_take (i := 26) (v := ?vpa26) rfl (by kernel_rfl) (by kernel_rfl) (by kernel_rfl) (fun _ _ _ h => h) (Or.inl ⟨by rfl, ?hypa26⟩) (by assumption) ?restpa26
              case hypa26 =>
                intro w hSw
                try dsimp only at hSw
                go_simp
                all_goals with_reducible rfl
              simp only [Act.put, List.getElem_toArray, List.getElem_cons_succ, List.getElem_cons_zero, List.setIfInBounds_toArray, List.set_cons_zero, List.set_cons_succ]
              refine wpAnyH_take (i := 27) (v := ?vpa27) rfl (by kernel_rfl) (by kernel_rfl) (by kernel_rfl) (fun _ _ _ h => h) (Or.inl ⟨by rfl, ?hypa27⟩) (by assumption) ?restpa27
              case hypa27 =>
                intro w hSw
                try dsimp only at hSw
                go_simp
                rw [na_book b _ (by kernel_rfl)]
                exact rfl
              simp only [Act.put, List.getElem_toArray, List.getElem_cons_succ, List.getElem_cons_zero, List.setIfInBounds_toArray, List.set_cons_zero, List.set_cons_succ]
              refine wpAnyH_take (i := 28) (v := ?vpa28) rfl (by kernel_rfl) (by kernel_rfl) (by kernel_rfl) (fun _ _ _ h => h) (Or.inl ⟨by rfl, ?hypa28⟩) (by assumption) ?restpa28
              case hypa28 =>
                intro w hSw
                try dsimp only at hSw
                go_simp
                all_goals with_reducible rfl
              simp only [Act.put, List.getElem_toArray, List.getElem_cons_succ, List.getElem_cons_zero, List.setIfInBounds_toArray, List.set_cons_zero, List.set_cons_succ]
              refine wpAnyH_take (i := 30) (v := ?vpa30) rfl (by kernel_rfl) (by kernel_rfl) (by kernel_rfl) (fun _ _ _ h => h) (Or.inl ⟨by rfl, ?hypa30⟩) (by assumption) ?restpa30
              case hypa30 =>
                intro w hSw
                try dsimp only at hSw
                go_simp
                all_goals with_reducible rfl
              simp only [Act.put, List.getElem_toArray, List.getElem_cons_succ, List.getElem_cons_zero, List.setIfInBounds_toArray, List.set_cons_zero, List.set_cons_succ]
              refine wpAnyH_take (i := 31) (v := ?vpa31) rfl (by kernel_rfl) (by kernel_rfl) (by kernel_rfl) (fun _ _ _ h => h) (Or.inl ⟨by rfl, ?hypa31⟩) (by assumption) ?restpa31
              case hypa31 =>
                intro w hSw
                try dsimp only at hSw
                go_simp
                all_goals with_reducible rfl
              simp only [Act.put, List.getElem_toArray, List.getElem_cons_succ, List.getElem_cons_zero, List.setIfInBounds_toArray, List.set_cons_zero, List.set_cons_succ]
              refine wpAnyH_take (i := 32) (v := ?vpa32) rfl (by kernel_rfl) (by kernel_rfl) (by kernel_rfl) (fun _ _ _ h => h) (Or.inl ⟨by rfl, ?hypa32⟩) (by assumption) ?restpa32
              case hypa32 =>
                intro w hSw
                try dsimp only at hSw
                go_simp
                all_goals with_reducible rfl
              simp only [Act.put, List.getElem_toArray, List.getElem_cons_succ, List.getElem_cons_zero, List.setIfInBounds_toArray, List.set_cons_zero, List.set_cons_succ]
              refine wpAnyH_take (i := 33) (v := ?vpa33) rfl (by kernel_rfl) (by kernel_rfl) (by kernel_rfl) (fun _ _ _ h => h) (Or.inl ⟨by rfl, ?hypa33⟩) (by assumption) ?restpa33
              case hypa33 =>
                intro w hSw
                try dsimp only at hSw
                go_simp
                all_goals with_reducible rfl
              simp only [Act.put, List.getElem_toArray, List.getElem_cons_succ, List.getElem_cons_zero, List.setIfInBounds_toArray, List.set_cons_zero, List.set_cons_succ]
              refine wpAnyH_ready (rs := [29]) (by kernel_rfl) (by simp) ?_
              refine AllReadyH.cons rfl (fun K hK => ?_) AllReadyH.nil
              go_simp
              refine ((V.out.drewU (Sep.framed (Sep.framed ShardS.framed MapS.framed) (Framed.and OwS.framed Blk.framed))).onA MapS.framed (Framed.and OwS.framed Blk.framed) (P' := ShardS (.plain b) cap s2) (E := fun e => e = .returned (.agg #[.int .i64 x0, .bool x1, .int .u64 x2, .bool x3, .int .u64 x4, .int .u64 x5])) ShardS.framed fun A hA => shDo_plain hA HG.out HD.out).mono ?_
              rintro e wi ⟨rfl, hVi⟩
              have HVi := Lib.hid hVi
              clear hVi
              try go_wp2_with fail
              refine hK.out _ _ ?_ (fun hHeld => ?_)
              · exact ⟨HKI.out _ (St.below HVi.out), HKR.out _ _ HVi.out⟩
              clear hK K
              try simp only [Act.put, List.getElem_toArray, List.getElem_cons_succ, List.getElem_cons_zero, List.setIfInBounds_toArray, List.set_cons_zero, List.set_cons_succ]
              refine wpAnyH_take (i := 34) (v := ?vpa34) rfl (by kernel_rfl) (by kernel_rfl) (by kernel_rfl) (fun _ _ _ h => h) (Or.inl ⟨by rfl, ?hypa34⟩) (by assumption) ?restpa34
              case hypa34 =>
                intro w hSw
                try dsimp only at hSw
                go_simp
                all_goals with_reducible rfl
              simp only [Act.put, List.getElem_toArray, List.getElem_cons_succ, List.getElem_cons_zero, List.setIfInBounds_toArray, List.set_cons_zero, List.set_cons_succ]
              refine wpAnyH_take (i := 35) (v := ?vpa35) rfl (by kernel_rfl) (by kernel_rfl) (by kernel_rfl) (fun _ _ _ h => h) (Or.inl ⟨by rfl, ?hypa35⟩) (by assumption) ?restpa35
              case hypa35 =>
                intro w hSw
                try dsimp only at hSw
                go_simp
                all_goals with_reducible rfl
              simp only [Act.put, List.getElem_toArray, List.getElem_cons_succ, List.getElem_cons_zero, List.setIfInBounds_toArray, List.set_cons_zero, List.set_cons_succ]
              clear hHeld
              refine wpAnyH_done (by kernel_rfl) ?_ _
              refine NoPanic.normal ?_
              go_wp2_with fail
              refine ⟨⟨k + 1, s2, by omega, by simp, HR2, HG2, HVi⟩, ?_⟩
              first | omega | (simp only [intOf]; omega)
            · have hofb : (ofS dk n == (s : Int)) = false := by simpa using hof
              have HR2 := Lib.hid (show oneRun kind cap n s ([], []) (ds.take (k + 1)) = s1 by rw [HDS.out, oneRun_snoc, HR1.out]; unfold oneStep; rw [if_neg hof])
              have HVd := Lib.hid (V.out.drewU (Sep.framed (Sep.framed ShardS.framed MapS.framed) (Framed.and OwS.framed Blk.framed)))
              clear hof
              go_wp2_with fail
              refine wp_region_noPanic ?_
              refine wp_region_held_drew (S := fun W => (W.cell? ⟨sb, off + k * 4 + 1, none⟩ = some (.int .i64 op) ∧ W.cell? ⟨sb, off + k * 4 + 2, none⟩ = some (.int .u64 dk) ∧ W.cell? ⟨sb, off + k * 4 + 3, none⟩ = some (.int .u64 dv)) ∧ (W.cell? ⟨rb, ro + k * 6, none⟩ = some (.int .i64 x0) ∧ W.cell? ⟨rb, ro + k * 6 + 1, none⟩ = some (.bool x1) ∧ W.cell? ⟨rb, ro + k * 6 + 2, none⟩ = some (.int .u64 x2) ∧ W.cell? ⟨rb, ro + k * 6 + 3, none⟩ = some (.bool x3) ∧ W.cell? ⟨rb, ro + k * 6 + 4, none⟩ = some (.int .u64 x4) ∧ W.cell? ⟨rb, ro + k * 6 + 5, none⟩ = some (.int .u64 x5))) (by kernel_rfl) ?_ (fun hHeld => ?_)
              · exact ⟨⟨c0, c1, c2⟩, ⟨r0, r1, r2, r3, r4, r5⟩⟩
              try simp only [Act.put, List.getElem_toArray, List.getElem_cons_succ, List.getElem_cons_zero, List.setIfInBounds_toArray, List.set_cons_zero, List.set_cons_succ]
              refine wpAnyH_take (i := 0) (v := ?vpb0) rfl (by kernel_rfl) (by kernel_rfl) (by kernel_rfl) (fun _ _ _ h => h) (Or.inl ⟨by rfl, ?hypb0⟩) (by assumption) ?restpb0
              case hypb0 =>
                intro w hSw
                try dsimp only at hSw
                go_simp
                all_goals with_reducible rfl
              simp only [Act.put, List.getElem_toArray, List.getElem_cons_succ, List.getElem_cons_zero, List.setIfInBounds_toArray, List.set_cons_zero, List.set_cons_succ]
              refine wpAnyH_take (i := 1) (v := ?vpb1) rfl (by kernel_rfl) (by kernel_rfl) (by kernel_rfl) (fun _ _ _ h => h) (Or.inl ⟨by rfl, ?hypb1⟩) (by assumption) ?restpb1
              case hypb1 =>
                intro w hSw
                try dsimp only at hSw
                go_simp
                all_goals with_reducible rfl
              simp only [Act.put, List.getElem_toArray, List.getElem_cons_succ, List.getElem_cons_zero, List.setIfInBounds_toArray, List.set_cons_zero, List.set_cons_succ]
              refine wpAnyH_take (i := 2) (v := ?vpb2) rfl (by kernel_rfl) (by kernel_rfl) (by kernel_rfl) (fun _ _ _ h => h) (Or.inl ⟨by rfl, ?hypb2⟩) (by assumption) ?restpb2
              case hypb2 =>
                intro w hSw
                try dsimp only at hSw
                go_simp
                all_goals with_reducible rfl
              simp only [Act.put, List.getElem_toArray, List.getElem_cons_succ, List.getElem_cons_zero, List.setIfInBounds_toArray, List.set_cons_zero, List.set_cons_succ]
              refine wpAnyH_take (i := 3) (v := ?vpb3) rfl (by kernel_rfl) (by kernel_rfl) (by kernel_rfl) (fun _ _ _ h => h) (Or.inl ⟨by rfl, ?hypb3⟩) (by assumption) ?restpb3
              case hypb3 =>
                intro w hSw
                try dsimp only at hSw
                go_simp
                all_goals with_reducible rfl
              simp only [Act.put, List.getElem_toArray, List.getElem_cons_succ, List.getElem_cons_zero, List.setIfInBounds_toArray, List.set_cons_zero, List.set_cons_succ]
              refine wpAnyH_take (i := 4) (v := ?vpb4) rfl (by kernel_rfl) (by kernel_rfl) (by kernel_rfl) (fun _ _ _ h => h) (Or.inl ⟨by rfl, ?hypb4⟩) (by assumption) ?restpb4
              case hypb4 =>
                intro w hSw
                try dsimp only at hSw
                go_simp
                all_goals with_reducible rfl
              simp only [Act.put, List.getElem_toArray, List.getElem_cons_succ, List.getElem_cons_zero, List.setIfInBounds_toArray, List.set_cons_zero, List.set_cons_succ]
              refine wpAnyH_take (i := 5) (v := ?vpb5) rfl (by kernel_rfl) (by kernel_rfl) (by kernel_rfl) (fun _ _ _ h => h) (Or.inl ⟨by rfl, ?hypb5⟩) (by assumption) ?restpb5
              case hypb5 =>
                intro w hSw
                try dsimp only at hSw
                go_simp
                all_goals with_reducible rfl
              simp only [Act.put, List.getElem_toArray, List.getElem_cons_succ, List.getElem_cons_zero, List.setIfInBounds_toArray, List.set_cons_zero, List.set_cons_succ]
              refine wpAnyH_take (i := 7) (v := ?vpb7) rfl (by kernel_rfl) (by kernel_rfl) (by kernel_rfl) (fun _ _ _ h => h) (Or.inl ⟨by rfl, ?hypb7⟩) (by assumption) ?restpb7
              case hypb7 =>
                intro w hSw
                try dsimp only at hSw
                go_simp
                all_goals with_reducible rfl
              simp only [Act.put, List.getElem_toArray, List.getElem_cons_succ, List.getElem_cons_zero, List.setIfInBounds_toArray, List.set_cons_zero, List.set_cons_succ]
              refine wpAnyH_ready (rs := [6]) (by kernel_rfl) (by simp) ?_
              refine AllReadyH.cons rfl (fun K hK => ?_) AllReadyH.nil
              go_simp
              refine (HOF.out _).mono ?_
              rintro e wo ⟨rfl, rfl⟩
              try go_wp2_with fail
              refine hK.out _ _ ?_ (fun hHeld => ?_)
              · exact hHeld
              clear hK K
              try simp only [Act.put, List.getElem_toArray, List.getElem_cons_succ, List.getElem_cons_zero, List.setIfInBounds_toArray, List.set_cons_zero, List.set_cons_succ]
              refine wpAnyH_take (i := 8) (v := ?vpb8) rfl (by kernel_rfl) (by kernel_rfl) (by kernel_rfl) (fun _ _ _ h => h) (Or.inl ⟨by rfl, ?hypb8⟩) (by assumption) ?restpb8
              case hypb8 =>
                intro w hSw
                try dsimp only at hSw
                go_simp
                all_goals with_reducible rfl
              simp only [Act.put, List.getElem_toArray, List.getElem_cons_succ, List.getElem_cons_zero, List.setIfInBounds_toArray, List.set_cons_zero, List.set_cons_succ]
              refine wpAnyH_take (i := 9) (v := ?vpb9) rfl (by kernel_rfl) (by kernel_rfl) (by kernel_rfl) (fun _ _ _ h => h) (Or.inl ⟨by rfl, ?hypb9⟩) (by assumption) ?restpb9
              case hypb9 =>
                intro w hSw
                try dsimp only at hSw
                go_simp
                all_goals with_reducible rfl
              simp only [Act.put, List.getElem_toArray, List.getElem_cons_succ, List.getElem_cons_zero, List.setIfInBounds_toArray, List.set_cons_zero, List.set_cons_succ]
              refine wpAnyH_take (i := 10) (v := undef) rfl (by kernel_rfl) (by kernel_rfl) (by kernel_rfl) (fun _ _ _ h => h) (Or.inr ⟨by rfl, rfl⟩) (by assumption) ?_
              simp only [Act.put, List.getElem_toArray, List.getElem_cons_succ, List.getElem_cons_zero, List.setIfInBounds_toArray, List.set_cons_zero, List.set_cons_succ]
              refine wpAnyH_take (i := 11) (v := undef) rfl (by kernel_rfl) (by kernel_rfl) (by kernel_rfl) (fun _ _ _ h => h) (Or.inr ⟨by rfl, rfl⟩) (by assumption) ?_
              simp only [Act.put, List.getElem_toArray, List.getElem_cons_succ, List.getElem_cons_zero, List.setIfInBounds_toArray, List.set_cons_zero, List.set_cons_succ]
              refine wpAnyH_take (i := 12) (v := undef) rfl (by kernel_rfl) (by kernel_rfl) (by kernel_rfl) (fun _ _ _ h => h) (Or.inr ⟨by rfl, rfl⟩) (by assumption) ?_
              simp only [Act.put, List.getElem_toArray, List.getElem_cons_succ, List.getElem_cons_zero, List.setIfInBounds_toArray, List.set_cons_zero, List.set_cons_succ]
              refine wpAnyH_take (i := 13) (v := undef) rfl (by kernel_rfl) (by kernel_rfl) (by kernel_rfl) (fun _ _ _ h => h) (Or.inr ⟨by rfl, rfl⟩) (by assumption) ?_
              simp only [Act.put, List.getElem_toArray, List.getElem_cons_succ, List.getElem_cons_zero, List.setIfInBounds_toArray, List.set_cons_zero, List.set_cons_succ]
              refine wpAnyH_take (i := 14) (v := undef) rfl (by kernel_rfl) (by kernel_rfl) (by kernel_rfl) (fun _ _ _ h => h) (Or.inr ⟨by rfl, rfl⟩) (by assumption) ?_
              simp only [Act.put, List.getElem_toArray, List.getElem_cons_succ, List.getElem_cons_zero, List.setIfInBounds_toArray, List.set_cons_zero, List.set_cons_succ]
              refine wpAnyH_take (i := 15) (v := undef) rfl (by kernel_rfl) (by kernel_rfl) (by kernel_rfl) (fun _ _ _ h => h) (Or.inr ⟨by rfl, rfl⟩) (by assumption) ?_
              simp only [Act.put, List.getElem_toArray, List.getElem_cons_succ, List.getElem_cons_zero, List.setIfInBounds_toArray, List.set_cons_zero, List.set_cons_succ]
              refine wpAnyH_take (i := 16) (v := undef) rfl (by kernel_rfl) (by kernel_rfl) (by kernel_rfl) (fun _ _ _ h => h) (Or.inr ⟨by rfl, rfl⟩) (by assumption) ?_
              simp only [Act.put, List.getElem_toArray, List.getElem_cons_succ, List.getElem_cons_zero, List.setIfInBounds_toArray, List.set_cons_zero, List.set_cons_succ]
              refine wpAnyH_take (i := 17) (v := undef) rfl (by kernel_rfl) (by kernel_rfl) (by kernel_rfl) (fun _ _ _ h => h) (Or.inr ⟨by rfl, rfl⟩) (by assumption) ?_
              simp only [Act.put, List.getElem_toArray, List.getElem_cons_succ, List.getElem_cons_zero, List.setIfInBounds_toArray, List.set_cons_zero, List.set_cons_succ]
              refine wpAnyH_take (i := 18) (v := undef) rfl (by kernel_rfl) (by kernel_rfl) (by kernel_rfl) (fun _ _ _ h => h) (Or.inr ⟨by rfl, rfl⟩) (by assumption) ?_
              simp only [Act.put, List.getElem_toArray, List.getElem_cons_succ, List.getElem_cons_zero, List.setIfInBounds_toArray, List.set_cons_zero, List.set_cons_succ]
              refine wpAnyH_take (i := 19) (v := undef) rfl (by kernel_rfl) (by kernel_rfl) (by kernel_rfl) (fun _ _ _ h => h) (Or.inr ⟨by rfl, rfl⟩) (by assumption) ?_
              simp only [Act.put, List.getElem_toArray, List.getElem_cons_succ, List.getElem_cons_zero, List.setIfInBounds_toArray, List.set_cons_zero, List.set_cons_succ]
              refine wpAnyH_take (i := 20) (v := undef) rfl (by kernel_rfl) (by kernel_rfl) (by kernel_rfl) (fun _ _ _ h => h) (Or.inr ⟨by rfl, rfl⟩) (by assumption) ?_
              simp only [Act.put, List.getElem_toArray, List.getElem_cons_succ, List.getElem_cons_zero, List.setIfInBounds_toArray, List.set_cons_zero, List.set_cons_succ]
              refine wpAnyH_take (i := 21) (v := undef) rfl (by kernel_rfl) (by kernel_rfl) (by kernel_rfl) (fun _ _ _ h => h) (Or.inr ⟨by rfl, rfl⟩) (by assumption) ?_
              simp only [Act.put, List.getElem_toArray, List.getElem_cons_succ, List.getElem_cons_zero, List.setIfInBounds_toArray, List.set_cons_zero, List.set_cons_succ]
              refine wpAnyH_take (i := 22) (v := undef) rfl (by kernel_rfl) (by kernel_rfl) (by kernel_rfl) (fun _ _ _ h => h) (Or.inr ⟨by rfl, rfl⟩) (by assumption) ?_
              simp only [Act.put, List.getElem_toArray, List.getElem_cons_succ, List.getElem_cons_zero, List.setIfInBounds_toArray, List.set_cons_zero, List.set_cons_succ]
              refine wpAnyH_take (i := 23) (v := undef) rfl (by kernel_rfl) (by kernel_rfl) (by kernel_rfl) (fun _ _ _ h => h) (Or.inr ⟨by rfl, rfl⟩) (by assumption) ?_
              simp only [Act.put, List.getElem_toArray, List.getElem_cons_succ, List.getElem_cons_zero, List.setIfInBounds_toArray, List.set_cons_zero, List.set_cons_succ]
              refine wpAnyH_take (i := 24) (v := undef) rfl (by kernel_rfl) (by kernel_rfl) (by kernel_rfl) (fun _ _ _ h => h) (Or.inr ⟨by rfl, rfl⟩) (by assumption) ?_
              simp only [Act.put, List.getElem_toArray, List.getElem_cons_succ, List.getElem_cons_zero, List.setIfInBounds_toArray, List.set_cons_zero, List.set_cons_succ]
              refine wpAnyH_take (i := 25) (v := undef) rfl (by kernel_rfl) (by kernel_rfl) (by kernel_rfl) (fun _ _ _ h => h) (Or.inr ⟨by rfl, rfl⟩) (by assumption) ?_
              simp only [Act.put, List.getElem_toArray, List.getElem_cons_succ, List.getElem_cons_zero, List.setIfInBounds_toArray, List.set_cons_zero, List.set_cons_succ]
              refine wpAnyH_take (i := 26) (v := undef) rfl (by kernel_rfl) (by kernel_rfl) (by kernel_rfl) (fun _ _ _ h => h) (Or.inr ⟨by rfl, rfl⟩) (by assumption) ?_
              simp only [Act.put, List.getElem_toArray, List.getElem_cons_succ, List.getElem_cons_zero, List.setIfInBounds_toArray, List.set_cons_zero, List.set_cons_succ]
              refine wpAnyH_take (i := 27) (v := undef) rfl (by kernel_rfl) (by kernel_rfl) (by kernel_rfl) (fun _ _ _ h => h) (Or.inr ⟨by rfl, rfl⟩) (by assumption) ?_
              simp only [Act.put, List.getElem_toArray, List.getElem_cons_succ, List.getElem_cons_zero, List.setIfInBounds_toArray, List.set_cons_zero, List.set_cons_succ]
              refine wpAnyH_take (i := 28) (v := undef) rfl (by kernel_rfl) (by kernel_rfl) (by kernel_rfl) (fun _ _ _ h => h) (Or.inr ⟨by rfl, rfl⟩) (by assumption) ?_
              simp only [Act.put, List.getElem_toArray, List.getElem_cons_succ, List.getElem_cons_zero, List.setIfInBounds_toArray, List.set_cons_zero, List.set_cons_succ]
              refine wpAnyH_take (i := 29) (v := undef) rfl (by kernel_rfl) (by kernel_rfl) (by kernel_rfl) (fun _ _ _ h => h) (Or.inr ⟨by rfl, rfl⟩) (by assumption) ?_
              simp only [Act.put, List.getElem_toArray, List.getElem_cons_succ, List.getElem_cons_zero, List.setIfInBounds_toArray, List.set_cons_zero, List.set_cons_succ]
              refine wpAnyH_take (i := 30) (v := undef) rfl (by kernel_rfl) (by kernel_rfl) (by kernel_rfl) (fun _ _ _ h => h) (Or.inr ⟨by rfl, rfl⟩) (by assumption) ?_
              simp only [Act.put, List.getElem_toArray, List.getElem_cons_succ, List.getElem_cons_zero, List.setIfInBounds_toArray, List.set_cons_zero, List.set_cons_succ]
              refine wpAnyH_take (i := 31) (v := undef) rfl (by kernel_rfl) (by kernel_rfl) (by kernel_rfl) (fun _ _ _ h => h) (Or.inr ⟨by rfl, rfl⟩) (by assumption) ?_
              simp only [Act.put, List.getElem_toArray, List.getElem_cons_succ, List.getElem_cons_zero, List.setIfInBounds_toArray, List.set_cons_zero, List.set_cons_succ]
              refine wpAnyH_take (i := 32) (v := undef) rfl (by kernel_rfl) (by kernel_rfl) (by kernel_rfl) (fun _ _ _ h => h) (Or.inr ⟨by rfl, rfl⟩) (by assumption) ?_
              simp only [Act.put, List.getElem_toArray, List.getElem_cons_succ, List.getElem_cons_zero, List.setIfInBounds_toArray, List.set_cons_zero, List.set_cons_succ]
              refine wpAnyH_take (i := 33) (v := undef) rfl (by kernel_rfl) (by kernel_rfl) (by kernel_rfl) (fun _ _ _ h => h) (Or.inr ⟨by rfl, rfl⟩) (by assumption) ?_
              simp only [Act.put, List.getElem_toArray, List.getElem_cons_succ, List.getElem_cons_zero, List.setIfInBounds_toArray, List.set_cons_zero, List.set_cons_succ]
              refine wpAnyH_take (i := 34) (v := undef) rfl (by kernel_rfl) (by kernel_rfl) (by kernel_rfl) (fun _ _ _ h => h) (Or.inr ⟨by rfl, rfl⟩) (by assumption) ?_
              simp only [Act.put, List.getElem_toArray, List.getElem_cons_succ, List.getElem_cons_zero, List.setIfInBounds_toArray, List.set_cons_zero, List.set_cons_succ]
              refine wpAnyH_take (i := 35) (v := ?vpb35) rfl (by kernel_rfl) (by kernel_rfl) (by kernel_rfl) (fun _ _ _ h => h) (Or.inl ⟨by rfl, ?hypb35⟩) (by assumption) ?restpb35
              case hypb35 =>
                intro w hSw
                try dsimp only at hSw
                go_simp
                all_goals with_reducible rfl
              simp only [Act.put, List.getElem_toArray, List.getElem_cons_succ, List.getElem_cons_zero, List.setIfInBounds_toArray, List.set_cons_zero, List.set_cons_succ]
              clear hHeld
              refine wpAnyH_done (by kernel_rfl) ?_ _
              refine NoPanic.normal ?_
              go_wp2_with fail
              refine ⟨⟨k + 1, s1, by omega, by simp, HR2, HG, HVd⟩, ?_⟩
              first | omega | (simp only [intOf]; omega)
          · obtain rfl : k = ds.length := by omega
            have HR3 := Lib.hid (show oneRun kind cap n s ([], []) ds = s1 by have := HR1.out; rwa [List.take_length] at this)
            have HST := Lib.hid (show ∃ h : s < st.length, st[s] = s1 by rw [← HR3.out]; exact List.getElem?_eq_some_iff.1 (HAT.out s hsn))
            have HLE := Lib.hid (show (s1.1.length : Int) ≤ cap from by have := HG.out.good.len; omega)
            have HTK := Lib.hid (show (allP (st.take (s + 1))).length = (allP (st.take s)).length + s1.1.length by obtain ⟨h, he⟩ := HST.out; rw [allP_take s h, he, List.length_append])
            have hb2 : (allP (st.take s)).length ≤ 64 := by
              have h1 := allP_len (ss := st.take s) (fun x hx => HGA.out.good x (List.mem_of_mem_take hx))
              have h2 := List.length_take_le s st
              have h3 := HN4.out
              omega
            have hb3 := HG.out.len
            obtain ⟨_, hA⟩ := V.out.getB
            have HPT := Lib.hid (show Calls Try.prog 16 #[.pointer (some ⟨ma, 0, none⟩), .int .i64 (s : Int)] wr fun e w' => ∃ v', e = .returned (.tuple #[v', .int .i64 0]) ∧ OwS ePair 65 (fun k => wr.heap.size ≤ k) w' v' s1.1 ∧ Only (fun _ => False) wr w' by obtain ⟨h, he⟩ := HST.out; rw [← he]; exact cmapPart_ok hA HGA.out s h)
            clear hA
            go_wp2_with fail
            refine (V.out.callKeep (Sep.framed ShardS.framed MapS.framed) (Framed.and OwS.framed Blk.framed) (Yx := fun v S w => OwS ePair 65 S w v s1.1) (E := fun v e => e = .returned (.tuple #[v, .int .i64 0])) (fun _ => OwS.framed) HPT.out).mono ?_
            rintro e wp1 ⟨vp, rfl, hP1⟩
            have HP1 := Lib.hid hP1
            obtain ⟨_, _, ⟨⟨_, ap, cp, rfl, _⟩, _⟩⟩ := hP1.getR
            have hle : (s1.1.length : Int) ≤ cap := HLE.out
            have hle2 : ¬ cap < (s1.1.length : Int) := by omega
            have hcp := cm_book_pairs b
            have hcl := cm_book_len b
            clear hP1 V HPT
            go_wp2_with fail
            refine wp_region_noPanic ?_
            refine wp_region_held_drew (S := fun W => W.cell? ⟨bd, 1, none⟩ = some (.int .i64 cap)) (by kernel_rfl) ?_ (fun hHeld => ?_)
            · exact (cp_plain1 (HP1.out.drewU (Sep.framed (Sep.framed ShardS.framed MapS.framed) (Framed.and (Framed.and OwS.framed Blk.framed) OwS.framed))))
            try simp only [Act.put, List.getElem_toArray, List.getElem_cons_succ, List.getElem_cons_zero, List.setIfInBounds_toArray, List.set_cons_zero, List.set_cons_succ]
            refine wpAnyH_take (i := 0) (v := ?vpc0) rfl (by kernel_rfl) (by kernel_rfl) (by kernel_rfl) (fun _ _ _ h => h) (Or.inl ⟨by rfl, ?hypc0⟩) (by assumption) ?restpc0
            case hypc0 =>
              intro w hSw
              try dsimp only at hSw
              go_simp
              all_goals with_reducible rfl
            simp only [Act.put, List.getElem_toArray, List.getElem_cons_succ, List.getElem_cons_zero, List.setIfInBounds_toArray, List.set_cons_zero, List.set_cons_succ]
            refine wpAnyH_take (i := 1) (v := ?vpc1) rfl (by kernel_rfl) (by kernel_rfl) (by kernel_rfl) (fun _ _ _ h => h) (Or.inl ⟨by rfl, ?hypc1⟩) (by assumption) ?restpc1
            case hypc1 =>
              intro w hSw
              try dsimp only at hSw
              go_simp
              all_goals with_reducible rfl
            simp only [Act.put, List.getElem_toArray, List.getElem_cons_succ, List.getElem_cons_zero, List.setIfInBounds_toArray, List.set_cons_zero, List.set_cons_succ]
            refine wpAnyH_take (i := 2) (v := ?vpc2) rfl (by kernel_rfl) (by kernel_rfl) (by kernel_rfl) (fun _ _ _ h => h) (Or.inl ⟨by rfl, ?hypc2⟩) (by assumption) ?restpc2
            case hypc2 =>
              intro w hSw
              try dsimp only at hSw
              go_simp
              all_goals with_reducible rfl
            simp only [Act.put, List.getElem_toArray, List.getElem_cons_succ, List.getElem_cons_zero, List.setIfInBounds_toArray, List.set_cons_zero, List.set_cons_succ]
            refine wpAnyH_take (i := 3) (v := ?vpc3) rfl (by kernel_rfl) (by kernel_rfl) (by kernel_rfl) (fun _ _ _ h => h) (Or.inl ⟨by rfl, ?hypc3⟩) (by assumption) ?restpc3
            case hypc3 =>
              intro w hSw
              try dsimp only at hSw
              go_simp
              all_goals with_reducible rfl
            simp only [Act.put, List.getElem_toArray, List.getElem_cons_succ, List.getElem_cons_zero, List.setIfInBounds_toArray, List.set_cons_zero, List.set_cons_succ]
            refine wpAnyH_take (i := 4) (v := ?vpc4) rfl (by kernel_rfl) (by kernel_rfl) (by kernel_rfl) (fun _ _ _ h => h) (Or.inl ⟨by rfl, ?hypc4⟩) (by assumption) ?restpc4
            case hypc4 =>
              intro w hSw
              try dsimp only at hSw
              go_simp
              all_goals with_reducible rfl
            simp only [Act.put, List.getElem_toArray, List.getElem_cons_succ, List.getElem_cons_zero, List.setIfInBounds_toArray, List.set_cons_zero, List.set_cons_succ]
            refine wpAnyH_ready (rs := [5]) (by kernel_rfl) (by simp) ?_
            refine AllReadyH.cons rfl (fun K hK => ?_) AllReadyH.nil
            go_simp
            obtain ⟨_, hA⟩ := (HP1.out.drewU (Sep.framed (Sep.framed ShardS.framed MapS.framed) (Framed.and (Framed.and OwS.framed Blk.framed) OwS.framed))).getA
            refine ((HP1.out.drewU (Sep.framed (Sep.framed ShardS.framed MapS.framed) (Framed.and (Framed.and OwS.framed Blk.framed) OwS.framed))).callKeep (Sep.framed ShardS.framed MapS.framed) (Framed.and (Framed.and OwS.framed Blk.framed) OwS.framed) (Yx := fun v S w => OwS ePair 65 S w v s1.1) (E := fun v e => e = .returned v) (fun _ => OwS.framed) (shPairs_plain hA HG.out)).mono ?_
            rintro e wp2 ⟨v2, rfl, hP2⟩
            have HP2 := Lib.hid hP2
            clear hP2 hA
            try go_wp2_with fail
            refine hK.out _ _ ?_ (fun hHeld => ?_)
            · exact (cp_plain2 HP2.out)
            clear hK K
            try simp only [Act.put, List.getElem_toArray, List.getElem_cons_succ, List.getElem_cons_zero, List.setIfInBounds_toArray, List.set_cons_zero, List.set_cons_succ]
            refine wpAnyH_ready (rs := [6]) (by kernel_rfl) (by simp) ?_
            refine AllReadyH.cons rfl (fun K hK => ?_) AllReadyH.nil
            go_simp
            obtain ⟨_, ⟨_, ho1⟩, ho2⟩ := HP2.out.getR
            refine (HP2.out.callRead (Sep.framed (Sep.framed ShardS.framed MapS.framed) (Framed.and (Framed.and (Framed.and OwS.framed Blk.framed) OwS.framed) OwS.framed)) (E := fun e => e = .returned (.bool true)) (pairs_eq s1.1 _ _ _ ho1.rd ho2.rd)).mono ?_
            rintro e wp3 ⟨rfl, hP3⟩
            have HP3 := Lib.hid hP3
            clear hP3 ho1 ho2
            try go_wp2_with fail
            refine hK.out _ _ ?_ (fun hHeld => ?_)
            · exact (cp_plain2 HP3.out)
            clear hK K
            try simp only [Act.put, List.getElem_toArray, List.getElem_cons_succ, List.getElem_cons_zero, List.setIfInBounds_toArray, List.set_cons_zero, List.set_cons_succ]
            refine wpAnyH_take (i := 7) (v := ?vpc7) rfl (by kernel_rfl) (by kernel_rfl) (by kernel_rfl) (fun _ _ _ h => h) (Or.inl ⟨by rfl, ?hypc7⟩) (by assumption) ?restpc7
            case hypc7 =>
              intro w hSw
              try dsimp only at hSw
              go_simp
              all_goals with_reducible rfl
            simp only [Act.put, List.getElem_toArray, List.getElem_cons_succ, List.getElem_cons_zero, List.setIfInBounds_toArray, List.set_cons_zero, List.set_cons_succ]
            refine wpAnyH_take (i := 8) (v := ?vpc8) rfl (by kernel_rfl) (by kernel_rfl) (by kernel_rfl) (fun _ _ _ h => h) (Or.inl ⟨by rfl, ?hypc8⟩) (by assumption) ?restpc8
            case hypc8 =>
              intro w hSw
              try dsimp only at hSw
              go_simp
              all_goals with_reducible rfl
            simp only [Act.put, List.getElem_toArray, List.getElem_cons_succ, List.getElem_cons_zero, List.setIfInBounds_toArray, List.set_cons_zero, List.set_cons_succ]
            refine wpAnyH_take (i := 9) (v := ?vpc9) rfl (by kernel_rfl) (by kernel_rfl) (by kernel_rfl) (fun _ _ _ h => h) (Or.inl ⟨by rfl, ?hypc9⟩) (by assumption) ?restpc9
            case hypc9 =>
              intro w hSw
              try dsimp only at hSw
              go_simp
              all_goals with_reducible rfl
            simp only [Act.put, List.getElem_toArray, List.getElem_cons_succ, List.getElem_cons_zero, List.setIfInBounds_toArray, List.set_cons_zero, List.set_cons_succ]
            refine wpAnyH_take (i := 10) (v := ?vpc10) rfl (by kernel_rfl) (by kernel_rfl) (by kernel_rfl) (fun _ _ _ h => h) (Or.inl ⟨by rfl, ?hypc10⟩) (by assumption) ?restpc10
            case hypc10 =>
              intro w hSw
              try dsimp only at hSw
              go_simp
              all_goals with_reducible rfl
            simp only [Act.put, List.getElem_toArray, List.getElem_cons_succ, List.getElem_cons_zero, List.setIfInBounds_toArray, List.set_cons_zero, List.set_cons_succ]
            refine wpAnyH_take (i := 12) (v := ?vpc12) rfl (by kernel_rfl) (by kernel_rfl) (by kernel_rfl) (fun _ _ _ h => h) (Or.inl ⟨by rfl, ?hypc12⟩) (by assumption) ?restpc12
            case hypc12 =>
              intro w hSw
              try dsimp only at hSw
              go_simp
              all_goals with_reducible rfl
            simp only [Act.put, List.getElem_toArray, List.getElem_cons_succ, List.getElem_cons_zero, List.setIfInBounds_toArray, List.set_cons_zero, List.set_cons_succ]
            refine wpAnyH_take (i := 13) (v := ?vpc13) rfl (by kernel_rfl) (by kernel_rfl) (by kernel_rfl) (fun _ _ _ h => h) (Or.inl ⟨by rfl, ?hypc13⟩) (by assumption) ?restpc13
            case hypc13 =>
              intro w hSw
              try dsimp only at hSw
              go_simp
              all_goals with_reducible rfl
            simp only [Act.put, List.getElem_toArray, List.getElem_cons_succ, List.getElem_cons_zero, List.setIfInBounds_toArray, List.set_cons_zero, List.set_cons_succ]
            refine wpAnyH_ready (rs := [11]) (by kernel_rfl) (by simp) ?_
            refine AllReadyH.cons rfl (fun K hK => ?_) AllReadyH.nil
            go_simp
            obtain ⟨_, hA⟩ := HP3.out.getA
            refine (HP3.out.callRead (Sep.framed (Sep.framed ShardS.framed MapS.framed) (Framed.and (Framed.and (Framed.and OwS.framed Blk.framed) OwS.framed) OwS.framed)) (E := fun e => e = .returned (.int .i64 (s1.1.length : Int))) (shLen_plain hA)).mono ?_
            rintro e wp4 ⟨rfl, hP4⟩
            have HP4 := Lib.hid hP4
            clear hP4 hA
            try go_wp2_with fail
            refine hK.out _ _ ?_ (fun hHeld => ?_)
            · exact (cp_plain2 HP4.out)
            clear hK K
            try simp only [Act.put, List.getElem_toArray, List.getElem_cons_succ, List.getElem_cons_zero, List.setIfInBounds_toArray, List.set_cons_zero, List.set_cons_succ]
            refine wpAnyH_take (i := 14) (v := ?vpc14) rfl (by kernel_rfl) (by kernel_rfl) (by kernel_rfl) (fun _ _ _ h => h) (Or.inl ⟨by rfl, ?hypc14⟩) (by assumption) ?restpc14
            case hypc14 =>
              intro w hSw
              try dsimp only at hSw
              go_simp
              all_goals with_reducible rfl
            simp only [Act.put, List.getElem_toArray, List.getElem_cons_succ, List.getElem_cons_zero, List.setIfInBounds_toArray, List.set_cons_zero, List.set_cons_succ]
            refine wpAnyH_take (i := 15) (v := ?vpc15) rfl (by kernel_rfl) (by kernel_rfl) (by kernel_rfl) (fun _ _ _ h => h) (Or.inl ⟨by rfl, ?hypc15⟩) (by assumption) ?restpc15
            case hypc15 =>
              intro w hSw
              try dsimp only at hSw
              go_simp
              all_goals with_reducible rfl
            simp only [Act.put, List.getElem_toArray, List.getElem_cons_succ, List.getElem_cons_zero, List.setIfInBounds_toArray, List.set_cons_zero, List.set_cons_succ]
            clear hHeld
            refine wpAnyH_done (by kernel_rfl) ?_ _
            refine NoPanic.normal ?_
            have HBK := Lib.hid (show Upd (Sep (MapS ma kind cap al st) (fun S w => OwS eRes 38 S w (.slice ax ds.length cx) rs ∧ Blk bd (defO kind cap) S w)) (fun _ => False) w wp4 from HP4.out.imp fun _ h => h.imp (fun _ h => h.right MapS.framed) fun _ h => h.1.1)
            clear HP1 HP2 HP3 HP4 hcp hcl
            have hs4 : (s : Int) < 4 := by have := HN4.out; omega
            go_wp2_with fail
            refine ⟨⟨s + 1, by omega, by simp, ?_, HBK⟩, ?_⟩
            · rw [HTK.out]; simp
            · first | omega | (simp only [intOf]; omega)
      | bound g b =>
        have h1 := sh_eqn
        have HK := Lib.hid (show true = decide (kind = 1) from HBD.out)
        simp only [ShA.val]
        go_wp2_with fail
        clear c0 c1 h1
        go_loopw [14] (fun t14 wr => ∃ (k : Nat) (s1 : Sh), k ≤ ds.length ∧ t14 = .int .i64 k ∧ Hid (oneRun kind cap n s ([], []) (ds.take k) = s1) ∧ Hid (SGood true cap s1) ∧ Hid (Upd (Sep (Sep (ShardS (.bound g b) cap s1) (MapS ma kind cap al st)) (fun S w => OwS eRes 38 S w (.slice ax ds.length cx) rs ∧ Blk bd (defO kind cap) S w)) (fun _ => False) w wr)) (fun t14 _ => ds.length - (intOf t14).toNat)
        case atStart => exact ⟨0, ([], []), Nat.zero_le _, rfl, Lib.hid rfl, Lib.hid (by rw [HK.out]; exact HSG.out), HU⟩
        case round =>
          clear HU HBD
          obtain ⟨k, s1, hk, rfl, HR1, HG, V⟩ := hrel
          by_cases hlt : k < ds.length
          · obtain ⟨_, ao', cap', hao, _, _, hx⟩ := HV.out
            obtain ⟨rfl, -, rfl⟩ : ao = ao' ∧ ds.length = ds.length ∧ c = cap' := by simpa using hao
            obtain ⟨sb, off, rfl, hc⟩ := hx (by omega)
            obtain ⟨c0, c1, c2⟩ := it_cells hc k hlt
            have hi0 : (0 : Int) ≤ (k : Int) := by omega
            have hi1 : (k : Int) < (ds.length : Int) := by omega
            have HAN := Lib.hid (HANS.out s hsn k hlt)
            have HDS := Lib.hid (show ds.take (k + 1) = ds.take k ++ [ds[k]] from (List.take_append_getElem hlt).symm)
            clear hc hx hao
            generalize hit : ds[k] = it at *
            obtain ⟨mp, op, dk, dv⟩ := it
            dsimp only at c0 c1 c2 HAN
            have HC0 := Lib.hid (And.intro c0 (And.intro c1 c2))
            replace c0 := cell_below (St.below V.out) c0
            replace c1 := cell_below (St.below V.out) c1
            replace c2 := cell_below (St.below V.out) c2
            have hkr : k < rs.length := by rw [HRL.out]; exact hlt
            obtain ⟨rb, ro, rfl, HRC⟩ : ∃ rb ro, ax = some ⟨rb, ro, none⟩ ∧ Hid (∀ W, Rd eRes W (.slice ax ds.length cx) rs → W.cell? ⟨rb, ro + k * 6, none⟩ = some (.int .i64 rs[k].1) ∧ W.cell? ⟨rb, ro + k * 6 + 1, none⟩ = some (.bool rs[k].2.1) ∧ W.cell? ⟨rb, ro + k * 6 + 2, none⟩ = some (.int .u64 rs[k].2.2.1) ∧ W.cell? ⟨rb, ro + k * 6 + 3, none⟩ = some (.bool rs[k].2.2.2.1) ∧ W.cell? ⟨rb, ro + k * 6 + 4, none⟩ = some (.int .u64 rs[k].2.2.2.2.1) ∧ W.cell? ⟨rb, ro + k * 6 + 5, none⟩ = some (.int .u64 rs[k].2.2.2.2.2)) := by
              obtain ⟨_, hz, _⟩ := V.out.getR
              exact res_slot HRL.out hz.rd hkr
            have HRK := Lib.hid (List.getElem?_eq_getElem hkr)
            generalize rs[k] = rk at *
            obtain ⟨x0, x1, x2, x3, x4, x5⟩ := rk
            dsimp only at HRC
            have HKI := Lib.hid (show ∀ W, Below w.heap.size w W → (W.cell? ⟨sb, off + k * 4 + 1, none⟩ = some (.int .i64 op) ∧ W.cell? ⟨sb, off + k * 4 + 2, none⟩ = some (.int .u64 dk) ∧ W.cell? ⟨sb, off + k * 4 + 3, none⟩ = some (.int .u64 dv)) from fun W h => ⟨cell_below h HC0.out.1, cell_below h HC0.out.2.1, cell_below h HC0.out.2.2⟩)
            have HKR := Lib.hid (show ∀ (P : (Nat → Prop) → World → Prop) W, Upd (Sep P (fun S w => OwS eRes 38 S w (.slice (some ⟨rb, ro, none⟩) ds.length cx) rs ∧ Blk bd (defO kind cap) S w)) (fun _ => False) w W → (W.cell? ⟨rb, ro + k * 6, none⟩ = some (.int .i64 x0) ∧ W.cell? ⟨rb, ro + k * 6 + 1, none⟩ = some (.bool x1) ∧ W.cell? ⟨rb, ro + k * 6 + 2, none⟩ = some (.int .u64 x2) ∧ W.cell? ⟨rb, ro + k * 6 + 3, none⟩ = some (.bool x3) ∧ W.cell? ⟨rb, ro + k * 6 + 4, none⟩ = some (.int .u64 x4) ∧ W.cell? ⟨rb, ro + k * 6 + 5, none⟩ = some (.int .u64 x5)) from fun P W h => by
              obtain ⟨_, hz, _⟩ := h.getR
              exact HRC.out W hz.rd)
            obtain ⟨r0, r1, r2, r3, r4, r5⟩ := HKR.out _ _ V.out
            have HOF := Lib.hid (fun w => of_any dk n w (by have := HN4.out; omega))
            by_cases hof : ofS dk n = s
            · have hofb : (ofS dk n == (s : Int)) = true := by simpa using hof
              obtain ⟨s2, hd⟩ : ∃ s2, shP true cap s1 op dk dv = ((x0, x1, x2, x3, x4, x5), s2) := by
                have h := HAN.out hof
                rw [HRK.out, HR1.out, ← HK.out] at h
                exact ⟨_, Prod.ext (Option.some.inj h).symm rfl⟩
              have HD := Lib.hid hd
              have HG2 := Lib.hid (show SGood true cap s2 by have := sh_good (op := op) (k := dk) (v := dv) HG.out; rwa [hd] at this)
              have HR2 := Lib.hid (show oneRun kind cap n s ([], []) (ds.take (k + 1)) = s2 by rw [HDS.out, oneRun_snoc, HR1.out]; unfold oneStep; rw [if_pos hof, ← HK.out, hd])
              have hz := res_neq_self x0 x1 x2 x3 x4 x5
              have hcm := cm_lru_do g op dk dv
              clear hd hof
              go_wp2_with fail
              refine wp_region_noPanic ?_
              refine wp_region_held_drew (S := fun W => (W.cell? ⟨sb, off + k * 4 + 1, none⟩ = some (.int .i64 op) ∧ W.cell? ⟨sb, off + k * 4 + 2, none⟩ = some (.int .u64 dk) ∧ W.cell? ⟨sb, off + k * 4 + 3, none⟩ = some (.int .u64 dv)) ∧ (W.cell? ⟨rb, ro + k * 6, none⟩ = some (.int .i64 x0) ∧ W.cell? ⟨rb, ro + k * 6 + 1, none⟩ = some (.bool x1) ∧ W.cell? ⟨rb, ro + k * 6 + 2, none⟩ = some (.int .u64 x2) ∧ W.cell? ⟨rb, ro + k * 6 + 3, none⟩ = some (.bool x3) ∧ W.cell? ⟨rb, ro + k * 6 + 4, none⟩ = some (.int .u64 x4) ∧ W.cell? ⟨rb, ro + k * 6 + 5, none⟩ = some (.int .u64 x5))) (by kernel_rfl) ?_ (fun hHeld => ?_)
              · exact ⟨⟨c0, c1, c2⟩, ⟨r0, r1, r2, r3, r4, r5⟩⟩
              try simp only [Act.put, List.getElem_toArray, List.getElem_cons_succ, List.getElem_cons_zero, List.setIfInBounds_toArray, List.set_cons_zero, List.set_cons_succ]
              refine wpAnyH_take (i := 0) (v := ?vqa0) rfl (by kernel_rfl) (by kernel_rfl) (by kernel_rfl) (fun _ _ _ h => h) (Or.inl ⟨by rfl, ?hyqa0⟩) (by assumption) ?restqa0
              case hyqa0 =>
                intro w hSw
                try dsimp only at hSw
                go_simp
                all_goals with_reducible rfl
              simp only [Act.put, List.getElem_toArray, List.getElem_cons_succ, List.getElem_cons_zero, List.setIfInBounds_toArray, List.set_cons_zero, List.set_cons_succ]
              refine wpAnyH_take (i := 1) (v := ?vqa1) rfl (by kernel_rfl) (by kernel_rfl) (by kernel_rfl) (fun _ _ _ h => h) (Or.inl ⟨by rfl, ?hyqa1⟩) (by assumption) ?restqa1
              case hyqa1 =>
                intro w hSw
                try dsimp only at hSw
                go_simp
                all_goals with_reducible rfl
              simp only [Act.put, List.getElem_toArray, List.getElem_cons_succ, List.getElem_cons_zero, List.setIfInBounds_toArray, List.set_cons_zero, List.set_cons_succ]
              refine wpAnyH_take (i := 2) (v := ?vqa2) rfl (by kernel_rfl) (by kernel_rfl) (by kernel_rfl) (fun _ _ _ h => h) (Or.inl ⟨by rfl, ?hyqa2⟩) (by assumption) ?restqa2
              case hyqa2 =>
                intro w hSw
                try dsimp only at hSw
                go_simp
                all_goals with_reducible rfl
              simp only [Act.put, List.getElem_toArray, List.getElem_cons_succ, List.getElem_cons_zero, List.setIfInBounds_toArray, List.set_cons_zero, List.set_cons_succ]
              refine wpAnyH_take (i := 3) (v := ?vqa3) rfl (by kernel_rfl) (by kernel_rfl) (by kernel_rfl) (fun _ _ _ h => h) (Or.inl ⟨by rfl, ?hyqa3⟩) (by assumption) ?restqa3
              case hyqa3 =>
                intro w hSw
                try dsimp only at hSw
                go_simp
                all_goals with_reducible rfl
              simp only [Act.put, List.getElem_toArray, List.getElem_cons_succ, List.getElem_cons_zero, List.setIfInBounds_toArray, List.set_cons_zero, List.set_cons_succ]
              refine wpAnyH_take (i := 4) (v := ?vqa4) rfl (by kernel_rfl) (by kernel_rfl) (by kernel_rfl) (fun _ _ _ h => h) (Or.inl ⟨by rfl, ?hyqa4⟩) (by assumption) ?restqa4
              case hyqa4 =>
                intro w hSw
                try dsimp only at hSw
                go_simp
                all_goals with_reducible rfl
              simp only [Act.put, List.getElem_toArray, List.getElem_cons_succ, List.getElem_cons_zero, List.setIfInBounds_toArray, List.set_cons_zero, List.set_cons_succ]
              refine wpAnyH_take (i := 5) (v := ?vqa5) rfl (by kernel_rfl) (by kernel_rfl) (by kernel_rfl) (fun _ _ _ h => h) (Or.inl ⟨by rfl, ?hyqa5⟩) (by assumption) ?restqa5
              case hyqa5 =>
                intro w hSw
                try dsimp only at hSw
                go_simp
                all_goals with_reducible rfl
              simp only [Act.put, List.getElem_toArray, List.getElem_cons_succ, List.getElem_cons_zero, List.setIfInBounds_toArray, List.set_cons_zero, List.set_cons_succ]
              refine wpAnyH_take (i := 7) (v := ?vqa7) rfl (by kernel_rfl) (by kernel_rfl) (by kernel_rfl) (fun _ _ _ h => h) (Or.inl ⟨by rfl, ?hyqa7⟩) (by assumption) ?restqa7
              case hyqa7 =>
                intro w hSw
                try dsimp only at hSw
                go_simp
                all_goals with_reducible rfl
              simp only [Act.put, List.getElem_toArray, List.getElem_cons_succ, List.getElem_cons_zero, List.setIfInBounds_toArray, List.set_cons_zero, List.set_cons_succ]
              refine wpAnyH_ready (rs := [6]) (by kernel_rfl) (by simp) ?_
              refine AllReadyH.cons rfl (fun K hK => ?_) AllReadyH.nil
              go_simp
              refine (HOF.out _).mono ?_
              rintro e wo ⟨rfl, rfl⟩
              try go_wp2_with fail
              refine hK.out _ _ ?_ (fun hHeld => ?_)
              · exact hHeld
              clear hK K
              try simp only [Act.put, List.getElem_toArray, List.getElem_cons_succ, List.getElem_cons_zero, List.setIfInBounds_toArray, List.set_cons_zero, List.set_cons_succ]
              refine wpAnyH_take (i := 8) (v := ?vqa8) rfl (by kernel_rfl) (by kernel_rfl) (by kernel_rfl) (fun _ _ _ h => h) (Or.inl ⟨by rfl, ?hyqa8⟩) (by assumption) ?restqa8
              case hyqa8 =>
                intro w hSw
                try dsimp only at hSw
                go_simp
                all_goals with_reducible rfl
              simp only [Act.put, List.getElem_toArray, List.getElem_cons_succ, List.getElem_cons_zero, List.setIfInBounds_toArray, List.set_cons_zero, List.set_cons_succ]
              refine wpAnyH_take (i := 9) (v := ?vqa9) rfl (by kernel_rfl) (by kernel_rfl) (by kernel_rfl) (fun _ _ _ h => h) (Or.inl ⟨by rfl, ?hyqa9⟩) (by assumption) ?restqa9
              case hyqa9 =>
                intro w hSw
                try dsimp only at hSw
                go_simp
                all_goals with_reducible rfl
              simp only [Act.put, List.getElem_toArray, List.getElem_cons_succ, List.getElem_cons_zero, List.setIfInBounds_toArray, List.set_cons_zero, List.set_cons_succ]
              refine wpAnyH_take (i := 10) (v := ?vqa10) rfl (by kernel_rfl) (by kernel_rfl) (by kernel_rfl) (fun _ _ _ h => h) (Or.inl ⟨by rfl, ?hyqa10⟩) (by assumption) ?restqa10
              case hyqa10 =>
                intro w hSw
                try dsimp only at hSw
                go_simp
                all_goals with_reducible rfl
              simp only [Act.put, List.getElem_toArray, List.getElem_cons_succ, List.getElem_cons_zero, List.setIfInBounds_toArray, List.set_cons_zero, List.set_cons_succ]
              refine wpAnyH_take (i := 11) (v := ?vqa11) rfl (by kernel_rfl) (by kernel_rfl) (by kernel_rfl) (fun _ _ _ h => h) (Or.inl ⟨by rfl, ?hyqa11⟩) (by assumption) ?restqa11
              case hyqa11 =>
                intro w hSw
                try dsimp only at hSw
                go_simp
                all_goals with_reducible rfl
              simp only [Act.put, List.getElem_toArray, List.getElem_cons_succ, List.getElem_cons_zero, List.setIfInBounds_toArray, List.set_cons_zero, List.set_cons_succ]
              refine wpAnyH_take (i := 12) (v := ?vqa12) rfl (by kernel_rfl) (by kernel_rfl) (by kernel_rfl) (fun _ _ _ h => h) (Or.inl ⟨by rfl, ?hyqa12⟩) (by assumption) ?restqa12
              case hyqa12 =>
                intro w hSw
                try dsimp only at hSw
                go_simp
                all_goals with_reducible rfl
              simp only [Act.put, List.getElem_toArray, List.getElem_cons_succ, List.getElem_cons_zero, List.setIfInBounds_toArray, List.set_cons_zero, List.set_cons_succ]
              refine wpAnyH_take (i := 13) (v := ?vqa13) rfl (by kernel_rfl) (by kernel_rfl) (by kernel_rfl) (fun _ _ _ h => h) (Or.inl ⟨by rfl, ?hyqa13⟩) (by assumption) ?restqa13
              case hyqa13 =>
                intro w hSw
                try dsimp only at hSw
                go_simp
                all_goals with_reducible rfl
              simp only [Act.put, List.getElem_toArray, List.getElem_cons_succ, List.getElem_cons_zero, List.setIfInBounds_toArray, List.set_cons_zero, List.set_cons_succ]
              refine wpAnyH_take (i := 14) (v := ?vqa14) rfl (by kernel_rfl) (by kernel_rfl) (by kernel_rfl) (fun _ _ _ h => h) (Or.inl ⟨by rfl, ?hyqa14⟩) (by assumption) ?restqa14
              case hyqa14 =>
                intro w hSw
                try dsimp only at hSw
                go_simp
                all_goals with_reducible rfl
              simp only [Act.put, List.getElem_toArray, List.getElem_cons_succ, List.getElem_cons_zero, List.setIfInBounds_toArray, List.set_cons_zero, List.set_cons_succ]
              refine wpAnyH_take (i := 15) (v := ?vqa15) rfl (by kernel_rfl) (by kernel_rfl) (by kernel_rfl) (fun _ _ _ h => h) (Or.inl ⟨by rfl, ?hyqa15⟩) (by assumption) ?restqa15
              case hyqa15 =>
                intro w hSw
                try dsimp only at hSw
                go_simp
                all_goals with_reducible rfl
              simp only [Act.put, List.getElem_toArray, List.getElem_cons_succ, List.getElem_cons_zero, List.setIfInBounds_toArray, List.set_cons_zero, List.set_cons_succ]
              refine wpAnyH_take (i := 16) (v := ?vqa16) rfl (by kernel_rfl) (by kernel_rfl) (by kernel_rfl) (fun _ _ _ h => h) (Or.inl ⟨by rfl, ?hyqa16⟩) (by assumption) ?restqa16
              case hyqa16 =>
                intro w hSw
                try dsimp only at hSw
                go_simp
                all_goals with_reducible rfl
              simp only [Act.put, List.getElem_toArray, List.getElem_cons_succ, List.getElem_cons_zero, List.setIfInBounds_toArray, List.set_cons_zero, List.set_cons_succ]
              refine wpAnyH_take (i := 17) (v := ?vqa17) rfl (by kernel_rfl) (by kernel_rfl) (by kernel_rfl) (fun _ _ _ h => h) (Or.inl ⟨by rfl, ?hyqa17⟩) (by assumption) ?restqa17
              case hyqa17 =>
                intro w hSw
                try dsimp only at hSw
                go_simp
                all_goals with_reducible rfl
              simp only [Act.put, List.getElem_toArray, List.getElem_cons_succ, List.getElem_cons_zero, List.setIfInBounds_toArray, List.set_cons_zero, List.set_cons_succ]
              refine wpAnyH_take (i := 18) (v := ?vqa18) rfl (by kernel_rfl) (by kernel_rfl) (by kernel_rfl) (fun _ _ _ h => h) (Or.inl ⟨by rfl, ?hyqa18⟩) (by assumption) ?restqa18
              case hyqa18 =>
                intro w hSw
                try dsimp only at hSw
                go_simp
                all_goals with_reducible rfl
              simp only [Act.put, List.getElem_toArray, List.getElem_cons_succ, List.getElem_cons_zero, List.setIfInBounds_toArray, List.set_cons_zero, List.set_cons_succ]
              refine wpAnyH_take (i := 19) (v := ?vqa19) rfl (by kernel_rfl) (by kernel_rfl) (by kernel_rfl) (fun _ _ _ h => h) (Or.inl ⟨by rfl, ?hyqa19⟩) (by assumption) ?restqa19
              case hyqa19 =>
                intro w hSw
                try dsimp only at hSw
                go_simp
                all_goals with_reducible rfl
              simp only [Act.put, List.getElem_toArray, List.getElem_cons_succ, List.getElem_cons_zero, List.setIfInBounds_toArray, List.set_cons_zero, List.set_cons_succ]
              refine wpAnyH_take (i := 20) (v := ?vqa20) rfl (by kernel_rfl) (by kernel_rfl) (by kernel_rfl) (fun _ _ _ h => h) (Or.inl ⟨by rfl, ?hyqa20⟩) (by assumption) ?restqa20
              case hyqa20 =>
                intro w hSw
                try dsimp only at hSw
                go_simp
                all_goals with_reducible rfl
              simp only [Act.put, List.getElem_toArray, List.getElem_cons_succ, List.getElem_cons_zero, List.setIfInBounds_toArray, List.set_cons_zero, List.set_cons_succ]
              refine wpAnyH_take (i := 21) (v := ?vqa21) rfl (by kernel_rfl) (by kernel_rfl) (by kernel_rfl) (fun _ _ _ h => h) (Or.inl ⟨by rfl, ?hyqa21⟩) (by assumption) ?restqa21
              case hyqa21 =>
                intro w hSw
                try dsimp only at hSw
                go_simp
                all_goals with_reducible rfl
              simp only [Act.put, List.getElem_toArray, List.getElem_cons_succ, List.getElem_cons_zero, List.setIfInBounds_toArray, List.set_cons_zero, List.set_cons_succ]
              refine wpAnyH_take (i := 22) (v := ?vqa22) rfl (by kernel_rfl) (by kernel_rfl) (by kernel_rfl) (fun _ _ _ h => h) (Or.inl ⟨by rfl, ?hyqa22⟩) (by assumption) ?restqa22
              case hyqa22 =>
                intro w hSw
                try dsimp only at hSw
                go_simp
                all_goals with_reducible rfl
              simp only [Act.put, List.getElem_toArray, List.getElem_cons_succ, List.getElem_cons_zero, List.setIfInBounds_toArray, List.set_cons_zero, List.set_cons_succ]
              refine wpAnyH_take (i := 23) (v := ?vqa23) rfl (by kernel_rfl) (by kernel_rfl) (by kernel_rfl) (fun _ _ _ h => h) (Or.inl ⟨by rfl, ?hyqa23⟩) (by assumption) ?restqa23
              case hyqa23 =>
                intro w hSw
                try dsimp only at hSw
                go_simp
                all_goals with_reducible rfl
              simp only [Act.put, List.getElem_toArray, List.getElem_cons_succ, List.getElem_cons_zero, List.setIfInBounds_toArray, List.set_cons_zero, List.set_cons_succ]
              refine wpAnyH_take (i := 24) (v := ?vqa24) rfl (by kernel_rfl) (by kernel_rfl) (by kernel_rfl) (fun _ _ _ h => h) (Or.inl ⟨by rfl, ?hyqa24⟩) (by assumption) ?restqa24
              case hyqa24 =>
                intro w hSw
                try dsimp only at hSw
                go_simp
                all_goals with_reducible rfl
              simp only [Act.put, List.getElem_toArray, List.getElem_cons_succ, List.getElem_cons_zero, List.setIfInBounds_toArray, List.set_cons_zero, List.set_cons_succ]
              refine wpAnyH_take (i := 25) (v := ?vqa25) rfl (by kernel_rfl) (by kernel_rfl) (by kernel_rfl) (fun _ _ _ h => h) (Or.inl ⟨by rfl, ?hyqa25⟩) (by assumption) ?restqa25
              case hyqa25 =>
                intro w hSw
                try dsimp only at hSw
                go_simp
                all_goals with_reducible rfl
              simp only [Act.put, List.getElem_toArray, List.getElem_cons_succ, List.getElem_cons_zero, List.setIfInBounds_toArray, List.set_cons_zero, List.set_cons_succ]
              refine wpAnyH_take (i := 26) (v := ?vqa26) rfl (by kernel_rfl) (by kernel_rfl) (by kernel_rfl) (fun _ _ _ h => h) (Or.inl ⟨by rfl, ?hyqa26⟩) (by assumption) ?restqa26
              case hyqa26 =>
                intro w hSw
                try dsimp only at hSw
                go_simp
                all_goals with_reducible rfl
              simp only [Act.put, List.getElem_toArray, List.getElem_cons_succ, List.getElem_cons_zero, List.setIfInBounds_toArray, List.set_cons_zero, List.set_cons_succ]
              refine wpAnyH_take (i := 27) (v := ?vqa27) rfl (by kernel_rfl) (by kernel_rfl) (by kernel_rfl) (fun _ _ _ h => h) (Or.inl ⟨by rfl, ?hyqa27⟩) (by assumption) ?restqa27
              case hyqa27 =>
                intro w hSw
                try dsimp only at hSw
                go_simp
                rw [na_lru g _ (by kernel_rfl)]
                exact rfl
              simp only [Act.put, List.getElem_toArray, List.getElem_cons_succ, List.getElem_cons_zero, List.setIfInBounds_toArray, List.set_cons_zero, List.set_cons_succ]
              refine wpAnyH_take (i := 28) (v := ?vqa28) rfl (by kernel_rfl) (by kernel_rfl) (by kernel_rfl) (fun _ _ _ h => h) (Or.inl ⟨by rfl, ?hyqa28⟩) (by assumption) ?restqa28
              case hyqa28 =>
                intro w hSw
                try dsimp only at hSw
                go_simp
                all_goals with_reducible rfl
              simp only [Act.put, List.getElem_toArray, List.getElem_cons_succ, List.getElem_cons_zero, List.setIfInBounds_toArray, List.set_cons_zero, List.set_cons_succ]
              refine wpAnyH_take (i := 30) (v := ?vqa30) rfl (by kernel_rfl) (by kernel_rfl) (by kernel_rfl) (fun _ _ _ h => h) (Or.inl ⟨by rfl, ?hyqa30⟩) (by assumption) ?restqa30
              case hyqa30 =>
                intro w hSw
                try dsimp only at hSw
                go_simp
                all_goals with_reducible rfl
              simp only [Act.put, List.getElem_toArray, List.getElem_cons_succ, List.getElem_cons_zero, List.setIfInBounds_toArray, List.set_cons_zero, List.set_cons_succ]
              refine wpAnyH_take (i := 31) (v := ?vqa31) rfl (by kernel_rfl) (by kernel_rfl) (by kernel_rfl) (fun _ _ _ h => h) (Or.inl ⟨by rfl, ?hyqa31⟩) (by assumption) ?restqa31
              case hyqa31 =>
                intro w hSw
                try dsimp only at hSw
                go_simp
                all_goals with_reducible rfl
              simp only [Act.put, List.getElem_toArray, List.getElem_cons_succ, List.getElem_cons_zero, List.setIfInBounds_toArray, List.set_cons_zero, List.set_cons_succ]
              refine wpAnyH_take (i := 32) (v := ?vqa32) rfl (by kernel_rfl) (by kernel_rfl) (by kernel_rfl) (fun _ _ _ h => h) (Or.inl ⟨by rfl, ?hyqa32⟩) (by assumption) ?restqa32
              case hyqa32 =>
                intro w hSw
                try dsimp only at hSw
                go_simp
                all_goals with_reducible rfl
              simp only [Act.put, List.getElem_toArray, List.getElem_cons_succ, List.getElem_cons_zero, List.setIfInBounds_toArray, List.set_cons_zero, List.set_cons_succ]
              refine wpAnyH_take (i := 33) (v := ?vqa33) rfl (by kernel_rfl) (by kernel_rfl) (by kernel_rfl) (fun _ _ _ h => h) (Or.inl ⟨by rfl, ?hyqa33⟩) (by assumption) ?restqa33
              case hyqa33 =>
                intro w hSw
                try dsimp only at hSw
                go_simp
                all_goals with_reducible rfl
              simp only [Act.put, List.getElem_toArray, List.getElem_cons_succ, List.getElem_cons_zero, List.setIfInBounds_toArray, List.set_cons_zero, List.set_cons_succ]
              refine wpAnyH_ready (rs := [29]) (by kernel_rfl) (by simp) ?_
              refine AllReadyH.cons rfl (fun K hK => ?_) AllReadyH.nil
              go_simp
              refine ((V.out.drewU (Sep.framed (Sep.framed ShardS.framed MapS.framed) (Framed.and OwS.framed Blk.framed))).onA MapS.framed (Framed.and OwS.framed Blk.framed) (P' := ShardS (.bound g b) cap s2) (E := fun e => e = .returned (.agg #[.int .i64 x0, .bool x1, .int .u64 x2, .bool x3, .int .u64 x4, .int .u64 x5])) ShardS.framed fun A hA => shDo_bound hA HG.out HD.out).mono ?_
              rintro e wi ⟨rfl, hVi⟩
              have HVi := Lib.hid hVi
              clear hVi
              try go_wp2_with fail
              refine hK.out _ _ ?_ (fun hHeld => ?_)
              · exact ⟨HKI.out _ (St.below HVi.out), HKR.out _ _ HVi.out⟩
              clear hK K
              try simp only [Act.put, List.getElem_toArray, List.getElem_cons_succ, List.getElem_cons_zero, List.setIfInBounds_toArray, List.set_cons_zero, List.set_cons_succ]
              refine wpAnyH_take (i := 34) (v := ?vqa34) rfl (by kernel_rfl) (by kernel_rfl) (by kernel_rfl) (fun _ _ _ h => h) (Or.inl ⟨by rfl, ?hyqa34⟩) (by assumption) ?restqa34
              case hyqa34 =>
                intro w hSw
                try dsimp only at hSw
                go_simp
                all_goals with_reducible rfl
              simp only [Act.put, List.getElem_toArray, List.getElem_cons_succ, List.getElem_cons_zero, List.setIfInBounds_toArray, List.set_cons_zero, List.set_cons_succ]
              refine wpAnyH_take (i := 35) (v := ?vqa35) rfl (by kernel_rfl) (by kernel_rfl) (by kernel_rfl) (fun _ _ _ h => h) (Or.inl ⟨by rfl, ?hyqa35⟩) (by assumption) ?restqa35
              case hyqa35 =>
                intro w hSw
                try dsimp only at hSw
                go_simp
                all_goals with_reducible rfl
              simp only [Act.put, List.getElem_toArray, List.getElem_cons_succ, List.getElem_cons_zero, List.setIfInBounds_toArray, List.set_cons_zero, List.set_cons_succ]
              clear hHeld
              refine wpAnyH_done (by kernel_rfl) ?_ _
              refine NoPanic.normal ?_
              go_wp2_with fail
              refine ⟨⟨k + 1, s2, by omega, by simp, HR2, HG2, HVi⟩, ?_⟩
              first | omega | (simp only [intOf]; omega)
            · have hofb : (ofS dk n == (s : Int)) = false := by simpa using hof
              have HR2 := Lib.hid (show oneRun kind cap n s ([], []) (ds.take (k + 1)) = s1 by rw [HDS.out, oneRun_snoc, HR1.out]; unfold oneStep; rw [if_neg hof])
              have HVd := Lib.hid (V.out.drewU (Sep.framed (Sep.framed ShardS.framed MapS.framed) (Framed.and OwS.framed Blk.framed)))
              clear hof
              go_wp2_with fail
              refine wp_region_noPanic ?_
              refine wp_region_held_drew (S := fun W => (W.cell? ⟨sb, off + k * 4 + 1, none⟩ = some (.int .i64 op) ∧ W.cell? ⟨sb, off + k * 4 + 2, none⟩ = some (.int .u64 dk) ∧ W.cell? ⟨sb, off + k * 4 + 3, none⟩ = some (.int .u64 dv)) ∧ (W.cell? ⟨rb, ro + k * 6, none⟩ = some (.int .i64 x0) ∧ W.cell? ⟨rb, ro + k * 6 + 1, none⟩ = some (.bool x1) ∧ W.cell? ⟨rb, ro + k * 6 + 2, none⟩ = some (.int .u64 x2) ∧ W.cell? ⟨rb, ro + k * 6 + 3, none⟩ = some (.bool x3) ∧ W.cell? ⟨rb, ro + k * 6 + 4, none⟩ = some (.int .u64 x4) ∧ W.cell? ⟨rb, ro + k * 6 + 5, none⟩ = some (.int .u64 x5))) (by kernel_rfl) ?_ (fun hHeld => ?_)
              · exact ⟨⟨c0, c1, c2⟩, ⟨r0, r1, r2, r3, r4, r5⟩⟩
              try simp only [Act.put, List.getElem_toArray, List.getElem_cons_succ, List.getElem_cons_zero, List.setIfInBounds_toArray, List.set_cons_zero, List.set_cons_succ]
              refine wpAnyH_take (i := 0) (v := ?vqb0) rfl (by kernel_rfl) (by kernel_rfl) (by kernel_rfl) (fun _ _ _ h => h) (Or.inl ⟨by rfl, ?hyqb0⟩) (by assumption) ?restqb0
              case hyqb0 =>
                intro w hSw
                try dsimp only at hSw
                go_simp
                all_goals with_reducible rfl
              simp only [Act.put, List.getElem_toArray, List.getElem_cons_succ, List.getElem_cons_zero, List.setIfInBounds_toArray, List.set_cons_zero, List.set_cons_succ]
              refine wpAnyH_take (i := 1) (v := ?vqb1) rfl (by kernel_rfl) (by kernel_rfl) (by kernel_rfl) (fun _ _ _ h => h) (Or.inl ⟨by rfl, ?hyqb1⟩) (by assumption) ?restqb1
              case hyqb1 =>
                intro w hSw
                try dsimp only at hSw
                go_simp
                all_goals with_reducible rfl
              simp only [Act.put, List.getElem_toArray, List.getElem_cons_succ, List.getElem_cons_zero, List.setIfInBounds_toArray, List.set_cons_zero, List.set_cons_succ]
              refine wpAnyH_take (i := 2) (v := ?vqb2) rfl (by kernel_rfl) (by kernel_rfl) (by kernel_rfl) (fun _ _ _ h => h) (Or.inl ⟨by rfl, ?hyqb2⟩) (by assumption) ?restqb2
              case hyqb2 =>
                intro w hSw
                try dsimp only at hSw
                go_simp
                all_goals with_reducible rfl
              simp only [Act.put, List.getElem_toArray, List.getElem_cons_succ, List.getElem_cons_zero, List.setIfInBounds_toArray, List.set_cons_zero, List.set_cons_succ]
              refine wpAnyH_take (i := 3) (v := ?vqb3) rfl (by kernel_rfl) (by kernel_rfl) (by kernel_rfl) (fun _ _ _ h => h) (Or.inl ⟨by rfl, ?hyqb3⟩) (by assumption) ?restqb3
              case hyqb3 =>
                intro w hSw
                try dsimp only at hSw
                go_simp
                all_goals with_reducible rfl
              simp only [Act.put, List.getElem_toArray, List.getElem_cons_succ, List.getElem_cons_zero, List.setIfInBounds_toArray, List.set_cons_zero, List.set_cons_succ]
              refine wpAnyH_take (i := 4) (v := ?vqb4) rfl (by kernel_rfl) (by kernel_rfl) (by kernel_rfl) (fun _ _ _ h => h) (Or.inl ⟨by rfl, ?hyqb4⟩) (by assumption) ?restqb4
              case hyqb4 =>
                intro w hSw
                try dsimp only at hSw
                go_simp
                all_goals with_reducible rfl
              simp only [Act.put, List.getElem_toArray, List.getElem_cons_succ, List.getElem_cons_zero, List.setIfInBounds_toArray, List.set_cons_zero, List.set_cons_succ]
              refine wpAnyH_take (i := 5) (v := ?vqb5) rfl (by kernel_rfl) (by kernel_rfl) (by kernel_rfl) (fun _ _ _ h => h) (Or.inl ⟨by rfl, ?hyqb5⟩) (by assumption) ?restqb5
              case hyqb5 =>
                intro w hSw
                try dsimp only at hSw
                go_simp
                all_goals with_reducible rfl
              simp only [Act.put, List.getElem_toArray, List.getElem_cons_succ, List.getElem_cons_zero, List.setIfInBounds_toArray, List.set_cons_zero, List.set_cons_succ]
              refine wpAnyH_take (i := 7) (v := ?vqb7) rfl (by kernel_rfl) (by kernel_rfl) (by kernel_rfl) (fun _ _ _ h => h) (Or.inl ⟨by rfl, ?hyqb7⟩) (by assumption) ?restqb7
              case hyqb7 =>
                intro w hSw
                try dsimp only at hSw
                go_simp
                all_goals with_reducible rfl
              simp only [Act.put, List.getElem_toArray, List.getElem_cons_succ, List.getElem_cons_zero, List.setIfInBounds_toArray, List.set_cons_zero, List.set_cons_succ]
              refine wpAnyH_ready (rs := [6]) (by kernel_rfl) (by simp) ?_
              refine AllReadyH.cons rfl (fun K hK => ?_) AllReadyH.nil
              go_simp
              refine (HOF.out _).mono ?_
              rintro e wo ⟨rfl, rfl⟩
              try go_wp2_with fail
              refine hK.out _ _ ?_ (fun hHeld => ?_)
              · exact hHeld
              clear hK K
              try simp only [Act.put, List.getElem_toArray, List.getElem_cons_succ, List.getElem_cons_zero, List.setIfInBounds_toArray, List.set_cons_zero, List.set_cons_succ]
              refine wpAnyH_take (i := 8) (v := ?vqb8) rfl (by kernel_rfl) (by kernel_rfl) (by kernel_rfl) (fun _ _ _ h => h) (Or.inl ⟨by rfl, ?hyqb8⟩) (by assumption) ?restqb8
              case hyqb8 =>
                intro w hSw
                try dsimp only at hSw
                go_simp
                all_goals with_reducible rfl
              simp only [Act.put, List.getElem_toArray, List.getElem_cons_succ, List.getElem_cons_zero, List.setIfInBounds_toArray, List.set_cons_zero, List.set_cons_succ]
              refine wpAnyH_take (i := 9) (v := ?vqb9) rfl (by kernel_rfl) (by kernel_rfl) (by kernel_rfl) (fun _ _ _ h => h) (Or.inl ⟨by rfl, ?hyqb9⟩) (by assumption) ?restqb9
              case hyqb9 =>
                intro w hSw
                try dsimp only at hSw
                go_simp
                all_goals with_reducible rfl
              simp only [Act.put, List.getElem_toArray, List.getElem_cons_succ, List.getElem_cons_zero, List.setIfInBounds_toArray, List.set_cons_zero, List.set_cons_succ]
              refine wpAnyH_take (i := 10) (v := undef) rfl (by kernel_rfl) (by kernel_rfl) (by kernel_rfl) (fun _ _ _ h => h) (Or.inr ⟨by rfl, rfl⟩) (by assumption) ?_
              simp only [Act.put, List.getElem_toArray, List.getElem_cons_succ, List.getElem_cons_zero, List.setIfInBounds_toArray, List.set_cons_zero, List.set_cons_succ]
              refine wpAnyH_take (i := 11) (v := undef) rfl (by kernel_rfl) (by kernel_rfl) (by kernel_rfl) (fun _ _ _ h => h) (Or.inr ⟨by rfl, rfl⟩) (by assumption) ?_
              simp only [Act.put, List.getElem_toArray, List.getElem_cons_succ, List.getElem_cons_zero, List.setIfInBounds_toArray, List.set_cons_zero, List.set_cons_succ]
              refine wpAnyH_take (i := 12) (v := undef) rfl (by kernel_rfl) (by kernel_rfl) (by kernel_rfl) (fun _ _ _ h => h) (Or.inr ⟨by rfl, rfl⟩) (by assumption) ?_
              simp only [Act.put, List.getElem_toArray, List.getElem_cons_succ, List.getElem_cons_zero, List.setIfInBounds_toArray, List.set_cons_zero, List.set_cons_succ]
              refine wpAnyH_take (i := 13) (v := undef) rfl (by kernel_rfl) (by kernel_rfl) (by kernel_rfl) (fun _ _ _ h => h) (Or.inr ⟨by rfl, rfl⟩) (by assumption) ?_
              simp only [Act.put, List.getElem_toArray, List.getElem_cons_succ, List.getElem_cons_zero, List.setIfInBounds_toArray, List.set_cons_zero, List.set_cons_succ]
              refine wpAnyH_take (i := 14) (v := undef) rfl (by kernel_rfl) (by kernel_rfl) (by kernel_rfl) (fun _ _ _ h => h) (Or.inr ⟨by rfl, rfl⟩) (by assumption) ?_
              simp only [Act.put, List.getElem_toArray, List.getElem_cons_succ, List.getElem_cons_zero, List.setIfInBounds_toArray, List.set_cons_zero, List.set_cons_succ]
              refine wpAnyH_take (i := 15) (v := undef) rfl (by kernel_rfl) (by kernel_rfl) (by kernel_rfl) (fun _ _ _ h => h) (Or.inr ⟨by rfl, rfl⟩) (by assumption) ?_
              simp only [Act.put, List.getElem_toArray, List.getElem_cons_succ, List.getElem_cons_zero, List.setIfInBounds_toArray, List.set_cons_zero, List.set_cons_succ]
              refine wpAnyH_take (i := 16) (v := undef) rfl (by kernel_rfl) (by kernel_rfl) (by kernel_rfl) (fun _ _ _ h => h) (Or.inr ⟨by rfl, rfl⟩) (by assumption) ?_
              simp only [Act.put, List.getElem_toArray, List.getElem_cons_succ, List.getElem_cons_zero, List.setIfInBounds_toArray, List.set_cons_zero, List.set_cons_succ]
              refine wpAnyH_take (i := 17) (v := undef) rfl (by kernel_rfl) (by kernel_rfl) (by kernel_rfl) (fun _ _ _ h => h) (Or.inr ⟨by rfl, rfl⟩) (by assumption) ?_
              simp only [Act.put, List.getElem_toArray, List.getElem_cons_succ, List.getElem_cons_zero, List.setIfInBounds_toArray, List.set_cons_zero, List.set_cons_succ]
              refine wpAnyH_take (i := 18) (v := undef) rfl (by kernel_rfl) (by kernel_rfl) (by kernel_rfl) (fun _ _ _ h => h) (Or.inr ⟨by rfl, rfl⟩) (by assumption) ?_
              simp only [Act.put, List.getElem_toArray, List.getElem_cons_succ, List.getElem_cons_zero, List.setIfInBounds_toArray, List.set_cons_zero, List.set_cons_succ]
              refine wpAnyH_take (i := 19) (v := undef) rfl (by kernel_rfl) (by kernel_rfl) (by kernel_rfl) (fun _ _ _ h => h) (Or.inr ⟨by rfl, rfl⟩) (by assumption) ?_
              simp only [Act.put, List.getElem_toArray, List.getElem_cons_succ, List.getElem_cons_zero, List.setIfInBounds_toArray, List.set_cons_zero, List.set_cons_succ]
              refine wpAnyH_take (i := 20) (v := undef) rfl (by kernel_rfl) (by kernel_rfl) (by kernel_rfl) (fun _ _ _ h => h) (Or.inr ⟨by rfl, rfl⟩) (by assumption) ?_
              simp only [Act.put, List.getElem_toArray, List.getElem_cons_succ, List.getElem_cons_zero, List.setIfInBounds_toArray, List.set_cons_zero, List.set_cons_succ]
              refine wpAnyH_take (i := 21) (v := undef) rfl (by kernel_rfl) (by kernel_rfl) (by kernel_rfl) (fun _ _ _ h => h) (Or.inr ⟨by rfl, rfl⟩) (by assumption) ?_
              simp only [Act.put, List.getElem_toArray, List.getElem_cons_succ, List.getElem_cons_zero, List.setIfInBounds_toArray, List.set_cons_zero, List.set_cons_succ]
              refine wpAnyH_take (i := 22) (v := undef) rfl (by kernel_rfl) (by kernel_rfl) (by kernel_rfl) (fun _ _ _ h => h) (Or.inr ⟨by rfl, rfl⟩) (by assumption) ?_
              simp only [Act.put, List.getElem_toArray, List.getElem_cons_succ, List.getElem_cons_zero, List.setIfInBounds_toArray, List.set_cons_zero, List.set_cons_succ]
              refine wpAnyH_take (i := 23) (v := undef) rfl (by kernel_rfl) (by kernel_rfl) (by kernel_rfl) (fun _ _ _ h => h) (Or.inr ⟨by rfl, rfl⟩) (by assumption) ?_
              simp only [Act.put, List.getElem_toArray, List.getElem_cons_succ, List.getElem_cons_zero, List.setIfInBounds_toArray, List.set_cons_zero, List.set_cons_succ]
              refine wpAnyH_take (i := 24) (v := undef) rfl (by kernel_rfl) (by kernel_rfl) (by kernel_rfl) (fun _ _ _ h => h) (Or.inr ⟨by rfl, rfl⟩) (by assumption) ?_
              simp only [Act.put, List.getElem_toArray, List.getElem_cons_succ, List.getElem_cons_zero, List.setIfInBounds_toArray, List.set_cons_zero, List.set_cons_succ]
              refine wpAnyH_take (i := 25) (v := undef) rfl (by kernel_rfl) (by kernel_rfl) (by kernel_rfl) (fun _ _ _ h => h) (Or.inr ⟨by rfl, rfl⟩) (by assumption) ?_
              simp only [Act.put, List.getElem_toArray, List.getElem_cons_succ, List.getElem_cons_zero, List.setIfInBounds_toArray, List.set_cons_zero, List.set_cons_succ]
              refine wpAnyH_take (i := 26) (v := undef) rfl (by kernel_rfl) (by kernel_rfl) (by kernel_rfl) (fun _ _ _ h => h) (Or.inr ⟨by rfl, rfl⟩) (by assumption) ?_
              simp only [Act.put, List.getElem_toArray, List.getElem_cons_succ, List.getElem_cons_zero, List.setIfInBounds_toArray, List.set_cons_zero, List.set_cons_succ]
              refine wpAnyH_take (i := 27) (v := undef) rfl (by kernel_rfl) (by kernel_rfl) (by kernel_rfl) (fun _ _ _ h => h) (Or.inr ⟨by rfl, rfl⟩) (by assumption) ?_
              simp only [Act.put, List.getElem_toArray, List.getElem_cons_succ, List.getElem_cons_zero, List.setIfInBounds_toArray, List.set_cons_zero, List.set_cons_succ]
              refine wpAnyH_take (i := 28) (v := undef) rfl (by kernel_rfl) (by kernel_rfl) (by kernel_rfl) (fun _ _ _ h => h) (Or.inr ⟨by rfl, rfl⟩) (by assumption) ?_
              simp only [Act.put, List.getElem_toArray, List.getElem_cons_succ, List.getElem_cons_zero, List.setIfInBounds_toArray, List.set_cons_zero, List.set_cons_succ]
              refine wpAnyH_take (i := 29) (v := undef) rfl (by kernel_rfl) (by kernel_rfl) (by kernel_rfl) (fun _ _ _ h => h) (Or.inr ⟨by rfl, rfl⟩) (by assumption) ?_
              simp only [Act.put, List.getElem_toArray, List.getElem_cons_succ, List.getElem_cons_zero, List.setIfInBounds_toArray, List.set_cons_zero, List.set_cons_succ]
              refine wpAnyH_take (i := 30) (v := undef) rfl (by kernel_rfl) (by kernel_rfl) (by kernel_rfl) (fun _ _ _ h => h) (Or.inr ⟨by rfl, rfl⟩) (by assumption) ?_
              simp only [Act.put, List.getElem_toArray, List.getElem_cons_succ, List.getElem_cons_zero, List.setIfInBounds_toArray, List.set_cons_zero, List.set_cons_succ]
              refine wpAnyH_take (i := 31) (v := undef) rfl (by kernel_rfl) (by kernel_rfl) (by kernel_rfl) (fun _ _ _ h => h) (Or.inr ⟨by rfl, rfl⟩) (by assumption) ?_
              simp only [Act.put, List.getElem_toArray, List.getElem_cons_succ, List.getElem_cons_zero, List.setIfInBounds_toArray, List.set_cons_zero, List.set_cons_succ]
              refine wpAnyH_take (i := 32) (v := undef) rfl (by kernel_rfl) (by kernel_rfl) (by kernel_rfl) (fun _ _ _ h => h) (Or.inr ⟨by rfl, rfl⟩) (by assumption) ?_
              simp only [Act.put, List.getElem_toArray, List.getElem_cons_succ, List.getElem_cons_zero, List.setIfInBounds_toArray, List.set_cons_zero, List.set_cons_succ]
              refine wpAnyH_take (i := 33) (v := undef) rfl (by kernel_rfl) (by kernel_rfl) (by kernel_rfl) (fun _ _ _ h => h) (Or.inr ⟨by rfl, rfl⟩) (by assumption) ?_
              simp only [Act.put, List.getElem_toArray, List.getElem_cons_succ, List.getElem_cons_zero, List.setIfInBounds_toArray, List.set_cons_zero, List.set_cons_succ]
              refine wpAnyH_take (i := 34) (v := undef) rfl (by kernel_rfl) (by kernel_rfl) (by kernel_rfl) (fun _ _ _ h => h) (Or.inr ⟨by rfl, rfl⟩) (by assumption) ?_
              simp only [Act.put, List.getElem_toArray, List.getElem_cons_succ, List.getElem_cons_zero, List.setIfInBounds_toArray, List.set_cons_zero, List.set_cons_succ]
              refine wpAnyH_take (i := 35) (v := ?vqb35) rfl (by kernel_rfl) (by kernel_rfl) (by kernel_rfl) (fun _ _ _ h => h) (Or.inl ⟨by rfl, ?hyqb35⟩) (by assumption) ?restqb35
              case hyqb35 =>
                intro w hSw
                try dsimp only at hSw
                go_simp
                all_goals with_reducible rfl
              simp only [Act.put, List.getElem_toArray, List.getElem_cons_succ, List.getElem_cons_zero, List.setIfInBounds_toArray, List.set_cons_zero, List.set_cons_succ]
              clear hHeld
              refine wpAnyH_done (by kernel_rfl) ?_ _
              refine NoPanic.normal ?_
              go_wp2_with fail
              refine ⟨⟨k + 1, s1, by omega, by simp, HR2, HG, HVd⟩, ?_⟩
              first | omega | (simp only [intOf]; omega)
          · obtain rfl : k = ds.length := by omega
            have HR3 := Lib.hid (show oneRun kind cap n s ([], []) ds = s1 by have := HR1.out; rwa [List.take_length] at this)
            have HST := Lib.hid (show ∃ h : s < st.length, st[s] = s1 by rw [← HR3.out]; exact List.getElem?_eq_some_iff.1 (HAT.out s hsn))
            have HLE := Lib.hid (show (s1.1.length : Int) ≤ cap from by have := HG.out.good.len; omega)
            have HTK := Lib.hid (show (allP (st.take (s + 1))).length = (allP (st.take s)).length + s1.1.length by obtain ⟨h, he⟩ := HST.out; rw [allP_take s h, he, List.length_append])
            have hb2 : (allP (st.take s)).length ≤ 64 := by
              have h1 := allP_len (ss := st.take s) (fun x hx => HGA.out.good x (List.mem_of_mem_take hx))
              have h2 := List.length_take_le s st
              have h3 := HN4.out
              omega
            have hb3 := HG.out.len
            obtain ⟨_, hA⟩ := V.out.getB
            have HPT := Lib.hid (show Calls Try.prog 16 #[.pointer (some ⟨ma, 0, none⟩), .int .i64 (s : Int)] wr fun e w' => ∃ v', e = .returned (.tuple #[v', .int .i64 0]) ∧ OwS ePair 65 (fun k => wr.heap.size ≤ k) w' v' s1.1 ∧ Only (fun _ => False) wr w' by obtain ⟨h, he⟩ := HST.out; rw [← he]; exact cmapPart_ok hA HGA.out s h)
            clear hA
            go_wp2_with fail
            refine (V.out.callKeep (Sep.framed ShardS.framed MapS.framed) (Framed.and OwS.framed Blk.framed) (Yx := fun v S w => OwS ePair 65 S w v s1.1) (E := fun v e => e = .returned (.tuple #[v, .int .i64 0])) (fun _ => OwS.framed) HPT.out).mono ?_
            rintro e wp1 ⟨vp, rfl, hP1⟩
            have HP1 := Lib.hid hP1
            obtain ⟨_, _, ⟨⟨_, ap, cp, rfl, _⟩, _⟩⟩ := hP1.getR
            have hle : (s1.1.length : Int) ≤ cap := HLE.out
            have hle2 : ¬ cap < (s1.1.length : Int) := by omega
            have hcp := sh_eqn
            have hcl := sh_eqn
            clear hP1 V HPT
            go_wp2_with fail
            refine wp_region_noPanic ?_
            refine wp_region_held_drew (S := fun W => W.cell? ⟨bd, 1, none⟩ = some (.int .i64 cap) ∧ W.cell? ⟨g, 0, none⟩ = some (.pointer (some ⟨b, 0, none⟩))) (by kernel_rfl) ?_ (fun hHeld => ?_)
            · exact (cp_bound1 (HP1.out.drewU (Sep.framed (Sep.framed ShardS.framed MapS.framed) (Framed.and (Framed.and OwS.framed Blk.framed) OwS.framed))))
            try simp only [Act.put, List.getElem_toArray, List.getElem_cons_succ, List.getElem_cons_zero, List.setIfInBounds_toArray, List.set_cons_zero, List.set_cons_succ]
            refine wpAnyH_take (i := 0) (v := ?vqc0) rfl (by kernel_rfl) (by kernel_rfl) (by kernel_rfl) (fun _ _ _ h => h) (Or.inl ⟨by rfl, ?hyqc0⟩) (by assumption) ?restqc0
            case hyqc0 =>
              intro w hSw
              try dsimp only at hSw
              go_simp
              all_goals with_reducible rfl
            simp only [Act.put, List.getElem_toArray, List.getElem_cons_succ, List.getElem_cons_zero, List.setIfInBounds_toArray, List.set_cons_zero, List.set_cons_succ]
            refine wpAnyH_take (i := 1) (v := ?vqc1) rfl (by kernel_rfl) (by kernel_rfl) (by kernel_rfl) (fun _ _ _ h => h) (Or.inl ⟨by rfl, ?hyqc1⟩) (by assumption) ?restqc1
            case hyqc1 =>
              intro w hSw
              try dsimp only at hSw
              go_simp
              all_goals with_reducible rfl
            simp only [Act.put, List.getElem_toArray, List.getElem_cons_succ, List.getElem_cons_zero, List.setIfInBounds_toArray, List.set_cons_zero, List.set_cons_succ]
            refine wpAnyH_take (i := 2) (v := ?vqc2) rfl (by kernel_rfl) (by kernel_rfl) (by kernel_rfl) (fun _ _ _ h => h) (Or.inl ⟨by rfl, ?hyqc2⟩) (by assumption) ?restqc2
            case hyqc2 =>
              intro w hSw
              try dsimp only at hSw
              go_simp
              all_goals with_reducible rfl
            simp only [Act.put, List.getElem_toArray, List.getElem_cons_succ, List.getElem_cons_zero, List.setIfInBounds_toArray, List.set_cons_zero, List.set_cons_succ]
            refine wpAnyH_take (i := 3) (v := ?vqc3) rfl (by kernel_rfl) (by kernel_rfl) (by kernel_rfl) (fun _ _ _ h => h) (Or.inl ⟨by rfl, ?hyqc3⟩) (by assumption) ?restqc3
            case hyqc3 =>
              intro w hSw
              try dsimp only at hSw
              go_simp
              all_goals with_reducible rfl
            simp only [Act.put, List.getElem_toArray, List.getElem_cons_succ, List.getElem_cons_zero, List.setIfInBounds_toArray, List.set_cons_zero, List.set_cons_succ]
            refine wpAnyH_take (i := 4) (v := ?vqc4) rfl (by kernel_rfl) (by kernel_rfl) (by kernel_rfl) (fun _ _ _ h => h) (Or.inl ⟨by rfl, ?hyqc4⟩) (by assumption) ?restqc4
            case hyqc4 =>
              intro w hSw
              try dsimp only at hSw
              go_simp
              all_goals with_reducible rfl
            simp only [Act.put, List.getElem_toArray, List.getElem_cons_succ, List.getElem_cons_zero, List.setIfInBounds_toArray, List.set_cons_zero, List.set_cons_succ]
            refine wpAnyH_ready (rs := [5]) (by kernel_rfl) (by simp) ?_
            refine AllReadyH.cons rfl (fun K hK => ?_) AllReadyH.nil
            go_simp
            rw [cm_lru_n g b _ hHeld.2 "Pairs" 55 (by kernel_rfl) (by kernel_rfl)]
            go_wp2_with fail
            obtain ⟨_, hA⟩ := (HP1.out.drewU (Sep.framed (Sep.framed ShardS.framed MapS.framed) (Framed.and (Framed.and OwS.framed Blk.framed) OwS.framed))).getA
            refine ((HP1.out.drewU (Sep.framed (Sep.framed ShardS.framed MapS.framed) (Framed.and (Framed.and OwS.framed Blk.framed) OwS.framed))).callKeep (Sep.framed ShardS.framed MapS.framed) (Framed.and (Framed.and OwS.framed Blk.framed) OwS.framed) (Yx := fun v S w => OwS ePair 65 S w v s1.1) (E := fun v e => e = .returned v) (fun _ => OwS.framed) (shPairs_bound hA HG.out)).mono ?_
            rintro e wp2 ⟨v2, rfl, hP2⟩
            have HP2 := Lib.hid hP2
            clear hP2 hA
            try go_wp2_with fail
            refine hK.out _ _ ?_ (fun hHeld => ?_)
            · exact (cp_bound2 HP2.out)
            clear hK K
            try simp only [Act.put, List.getElem_toArray, List.getElem_cons_succ, List.getElem_cons_zero, List.setIfInBounds_toArray, List.set_cons_zero, List.set_cons_succ]
            refine wpAnyH_ready (rs := [6]) (by kernel_rfl) (by simp) ?_
            refine AllReadyH.cons rfl (fun K hK => ?_) AllReadyH.nil
            go_simp
            obtain ⟨_, ⟨_, ho1⟩, ho2⟩ := HP2.out.getR
            refine (HP2.out.callRead (Sep.framed (Sep.framed ShardS.framed MapS.framed) (Framed.and (Framed.and (Framed.and OwS.framed Blk.framed) OwS.framed) OwS.framed)) (E := fun e => e = .returned (.bool true)) (pairs_eq s1.1 _ _ _ ho1.rd ho2.rd)).mono ?_
            rintro e wp3 ⟨rfl, hP3⟩
            have HP3 := Lib.hid hP3
            clear hP3 ho1 ho2
            try go_wp2_with fail
            refine hK.out _ _ ?_ (fun hHeld => ?_)
            · exact (cp_bound2 HP3.out)
            clear hK K
            try simp only [Act.put, List.getElem_toArray, List.getElem_cons_succ, List.getElem_cons_zero, List.setIfInBounds_toArray, List.set_cons_zero, List.set_cons_succ]
            refine wpAnyH_take (i := 7) (v := ?vqc7) rfl (by kernel_rfl) (by kernel_rfl) (by kernel_rfl) (fun _ _ _ h => h) (Or.inl ⟨by rfl, ?hyqc7⟩) (by assumption) ?restqc7
            case hyqc7 =>
              intro w hSw
              try dsimp only at hSw
              go_simp
              all_goals with_reducible rfl
            simp only [Act.put, List.getElem_toArray, List.getElem_cons_succ, List.getElem_cons_zero, List.setIfInBounds_toArray, List.set_cons_zero, List.set_cons_succ]
            refine wpAnyH_take (i := 8) (v := ?vqc8) rfl (by kernel_rfl) (by kernel_rfl) (by kernel_rfl) (fun _ _ _ h => h) (Or.inl ⟨by rfl, ?hyqc8⟩) (by assumption) ?restqc8
            case hyqc8 =>
              intro w hSw
              try dsimp only at hSw
              go_simp
              all_goals with_reducible rfl
            simp only [Act.put, List.getElem_toArray, List.getElem_cons_succ, List.getElem_cons_zero, List.setIfInBounds_toArray, List.set_cons_zero, List.set_cons_succ]
            refine wpAnyH_take (i := 9) (v := ?vqc9) rfl (by kernel_rfl) (by kernel_rfl) (by kernel_rfl) (fun _ _ _ h => h) (Or.inl ⟨by rfl, ?hyqc9⟩) (by assumption) ?restqc9
            case hyqc9 =>
              intro w hSw
              try dsimp only at hSw
              go_simp
              all_goals with_reducible rfl
            simp only [Act.put, List.getElem_toArray, List.getElem_cons_succ, List.getElem_cons_zero, List.setIfInBounds_toArray, List.set_cons_zero, List.set_cons_succ]
            refine wpAnyH_take (i := 10) (v := ?vqc10) rfl (by kernel_rfl) (by kernel_rfl) (by kernel_rfl) (fun _ _ _ h => h) (Or.inl ⟨by rfl, ?hyqc10⟩) (by assumption) ?restqc10
            case hyqc10 =>
              intro w hSw
              try dsimp only at hSw
              go_simp
              all_goals with_reducible rfl
            simp only [Act.put, List.getElem_toArray, List.getElem_cons_succ, List.getElem_cons_zero, List.setIfInBounds_toArray, List.set_cons_zero, List.set_cons_succ]
            refine wpAnyH_take (i := 12) (v := ?vqc12) rfl (by kernel_rfl) (by kernel_rfl) (by kernel_rfl) (fun _ _ _ h => h) (Or.inl ⟨by rfl, ?hyqc12⟩) (by assumption) ?restqc12
            case hyqc12 =>
              intro w hSw
              try dsimp only at hSw
              go_simp
              all_goals with_reducible rfl
            simp only [Act.put, List.getElem_toArray, List.getElem_cons_succ, List.getElem_cons_zero, List.setIfInBounds_toArray, List.set_cons_zero, List.set_cons_succ]
            refine wpAnyH_take (i := 13) (v := ?vqc13) rfl (by kernel_rfl) (by kernel_rfl) (by kernel_rfl) (fun _ _ _ h => h) (Or.inl ⟨by rfl, ?hyqc13⟩) (by assumption) ?restqc13
            case hyqc13 =>
              intro w hSw
              try dsimp only at hSw
              go_simp
              all_goals with_reducible rfl
            simp only [Act.put, List.getElem_toArray, List.getElem_cons_succ, List.getElem_cons_zero, List.setIfInBounds_toArray, List.set_cons_zero, List.set_cons_succ]
            refine wpAnyH_ready (rs := [11]) (by kernel_rfl) (by simp) ?_
            refine AllReadyH.cons rfl (fun K hK => ?_) AllReadyH.nil
            go_simp
            rw [cm_lru_n g b _ hHeld.2 "Len" 54 (by kernel_rfl) (by kernel_rfl)]
            go_wp2_with fail
            obtain ⟨_, hA⟩ := HP3.out.getA
            refine (HP3.out.callRead (Sep.framed (Sep.framed ShardS.framed MapS.framed) (Framed.and (Framed.and (Framed.and OwS.framed Blk.framed) OwS.framed) OwS.framed)) (E := fun e => e = .returned (.int .i64 (s1.1.length : Int))) (shLen_bound hA)).mono ?_
            rintro e wp4 ⟨rfl, hP4⟩
            have HP4 := Lib.hid hP4
            clear hP4 hA
            try go_wp2_with fail
            refine hK.out _ _ ?_ (fun hHeld => ?_)
            · exact (cp_bound2 HP4.out)
            clear hK K
            try simp only [Act.put, List.getElem_toArray, List.getElem_cons_succ, List.getElem_cons_zero, List.setIfInBounds_toArray, List.set_cons_zero, List.set_cons_succ]
            refine wpAnyH_take (i := 14) (v := ?vqc14) rfl (by kernel_rfl) (by kernel_rfl) (by kernel_rfl) (fun _ _ _ h => h) (Or.inl ⟨by rfl, ?hyqc14⟩) (by assumption) ?restqc14
            case hyqc14 =>
              intro w hSw
              try dsimp only at hSw
              go_simp
              all_goals with_reducible rfl
            simp only [Act.put, List.getElem_toArray, List.getElem_cons_succ, List.getElem_cons_zero, List.setIfInBounds_toArray, List.set_cons_zero, List.set_cons_succ]
            refine wpAnyH_take (i := 15) (v := ?vqc15) rfl (by kernel_rfl) (by kernel_rfl) (by kernel_rfl) (fun _ _ _ h => h) (Or.inl ⟨by rfl, ?hyqc15⟩) (by assumption) ?restqc15
            case hyqc15 =>
              intro w hSw
              try dsimp only at hSw
              go_simp
              all_goals with_reducible rfl
            simp only [Act.put, List.getElem_toArray, List.getElem_cons_succ, List.getElem_cons_zero, List.setIfInBounds_toArray, List.set_cons_zero, List.set_cons_succ]
            clear hHeld
            refine wpAnyH_done (by kernel_rfl) ?_ _
            refine NoPanic.normal ?_
            have HBK := Lib.hid (show Upd (Sep (MapS ma kind cap al st) (fun S w => OwS eRes 38 S w (.slice ax ds.length cx) rs ∧ Blk bd (defO kind cap) S w)) (fun _ => False) w wp4 from HP4.out.imp fun _ h => h.imp (fun _ h => h.right MapS.framed) fun _ h => h.1.1)
            clear HP1 HP2 HP3 HP4 hcp hcl
            have hs4 : (s : Int) < 4 := by have := HN4.out; omega
            go_wp2_with fail
            refine ⟨⟨s + 1, by omega, by simp, ?_, HBK⟩, ?_⟩
            · rw [HTK.out]; simp
            · first | omega | (simp only [intOf]; omega)
    · have hfl : (allP (st.take s)).length = (allP st).length := by rw [List.take_of_length_le]; have := HSL.out; omega
      rw [hfl]
      go_wp2_with fail
      obtain ⟨_, hM⟩ := V0.out.getL
      have HC := Lib.hid (cmapLen_ hM HGA.out)
      clear hM
      refine (V0.out.callRead (Sep.framed MapS.framed (Framed.and OwS.framed Blk.framed)) (E := fun e => e = .returned (.int .i64 ((allP st).length : Int))) HC.out).mono ?_
      rintro e w7 ⟨rfl, h7⟩
      have H7 := Lib.hid h7
      have hee : (((allP st).length : Int) == ((allP st).length : Int)) = true := by simp
      clear h7
      go_wp2_with fail
      go_ret
      exact ⟨rfl, St.below H7.out⟩
end Go.Proofs.Ythppleegiieneaa
