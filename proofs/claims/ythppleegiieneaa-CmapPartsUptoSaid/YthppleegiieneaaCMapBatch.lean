/- cmap: Batch. -/
import Derived.Test.YthppleegiieneaaCMapWalk
import Derived.Test.YthppleegiieneaaItemEnc
import Derived.Test.YthppleegiieneaaMH
namespace Go.Proofs.Ythppleegiieneaa
open Go.RowKit
set_option linter.unusedVariables false
set_option linter.unusedSimpArgs false

abbrev itO (mp op dk dv : Int) : Obj := .cells #[.int .i64 mp, .int .i64 op, .int .u64 dk, .int .u64 dv] 42 (0, 0)
theorem it_cells4 {w : World} {b off : Nat} {xs : List ItemD} (hc : ∀ j u, (eItem.all xs)[j]? = some u → w.cell? ⟨b, off + j, none⟩ = some u) (k : Nat) (h : k < xs.length) :
    w.cell? ⟨b, off + k * 4, none⟩ = some (.int .i64 xs[k].1) ∧ w.cell? ⟨b, off + k * 4 + 1, none⟩ = some (.int .i64 xs[k].2.1) ∧ w.cell? ⟨b, off + k * 4 + 2, none⟩ = some (.int .u64 xs[k].2.2.1) ∧ w.cell? ⟨b, off + k * 4 + 3, none⟩ = some (.int .u64 xs[k].2.2.2) := by
  have e0 := eItem.all_at xs k 0 h (by decide)
  have e1 := eItem.all_at xs k 1 h (by decide)
  have e2 := eItem.all_at xs k 2 h (by decide)
  have e3 := eItem.all_at xs k 3 h (by decide)
  have a : ∀ j, off + k * 4 + j = off + (k * 4 + j) := fun j => by omega
  exact ⟨by have := hc _ _ e0; exact this, by rw [a]; exact hc _ _ (by rw [e1]; rfl), by rw [a]; exact hc _ _ (by rw [e2]; rfl), by rw [a]; exact hc _ _ (by rw [e3]; rfl)⟩
theorem eRes_slice : SliceInfo Try.prog 51 38 eRes.size 48 := SliceInfo.mk' Try.underlying51 (z := .agg #[.int .i64 0, .bool false, .int .u64 0, .bool false, .int .u64 0, .int .u64 0]) (by kernel_rfl) rfl
/-- the shards after an operation, the answers of a batch -/
def mDo (kind cap : Int) (ss : List Sh) (op key val : Int) : ResD × List Sh := match ss[(ofS key ss.length).toNat]? with
  | none => ((0, false, 0, false, 0, 0), ss)
  | some s => ((shP (decide (kind = 1)) cap s op key val).1, ss.set (ofS key ss.length).toNat (shP (decide (kind = 1)) cap s op key val).2)
def mBatch (kind cap : Int) : List Sh → List ItemD → List ResD × List Sh
  | ss, [] => ([], ss)
  | ss, i :: is => ((mDo kind cap ss i.2.1 i.2.2.1 i.2.2.2).1 :: (mBatch kind cap (mDo kind cap ss i.2.1 i.2.2.1 i.2.2.2).2 is).1, (mBatch kind cap (mDo kind cap ss i.2.1 i.2.2.1 i.2.2.2).2 is).2)
theorem mBatch_snoc (kind cap : Int) (i : ItemD) : ∀ (is : List ItemD) (ss : List Sh), mBatch kind cap ss (is ++ [i]) = ((mBatch kind cap ss is).1 ++ [(mDo kind cap (mBatch kind cap ss is).2 i.2.1 i.2.2.1 i.2.2.2).1], (mDo kind cap (mBatch kind cap ss is).2 i.2.1 i.2.2.1 i.2.2.2).2)
  | [], ss => rfl
  | j :: is, ss => by simp only [List.cons_append, mBatch, mBatch_snoc kind cap i is, List.cons_append]
section
variable {m : Nat} {kind cap : Int} {al : List ShA} {ss : List Sh} {T : Nat → Prop} {w : World}
theorem mDo_good (G : MGood kind cap al ss) (op key val : Int) : MGood kind cap al (mDo kind cap ss op key val).2 := by
  unfold mDo
  split
  · exact G
  · next s h => exact G.set _ (sh_good (G.good _ (List.mem_of_getElem? h)))
theorem mBatch_good (G : MGood kind cap al ss) : ∀ is : List ItemD, MGood kind cap al (mBatch kind cap ss is).2 := by
  intro is
  induction is generalizing ss with
  | nil => exact G
  | cons i is ih => exact ih (mDo_good G _ _ _)
theorem mBatch_len (is : List ItemD) : (mBatch kind cap ss is).1.length = is.length := by
  induction is generalizing ss with
  | nil => rfl
  | cons i is ih => simp [mBatch, ih]
theorem cmapDoM (hT : MapS m kind cap al ss T w) (G : MGood kind cap al ss) {op key val : Int} {r : ResD} {ss' : List Sh} (hd : mDo kind cap ss op key val = (r, ss')) :
    Calls Try.prog 20 #[.pointer (some ⟨m, 0, none⟩), .int .i64 op, .int .u64 key, .int .u64 val] w fun e w' => e = .returned (.agg #[.int .i64 r.1, .bool r.2.1, .int .u64 r.2.2.1, .bool r.2.2.2.1, .int .u64 r.2.2.2.2.1, .int .u64 r.2.2.2.2.2]) ∧ Upd (MapS m kind cap al ss') T w w' := by
  obtain ⟨i, hi, h2⟩ := G.place key
  have hn : (ofS key ss.length).toNat = i := by rw [← G.len, hi]; rfl
  have he := List.getElem?_eq_getElem h2
  unfold mDo at hd
  rw [hn, he] at hd
  simp only [Prod.mk.injEq] at hd
  obtain ⟨h3, h4⟩ := hd
  subst h4
  exact cmapDo_ hT G hi h2 (by rw [← h3])
end
set_option maxRecDepth 100000 in
set_option maxHeartbeats 4000000 in
theorem cmapBatch_ {m : Nat} {kind cap : Int} {al : List ShA} {ss : List Sh} {T : Nat → Prop} {w : World} {v : Value} {ds : List ItemD} (hT : MapS m kind cap al ss T w) (G : MGood kind cap al ss) (hv : Rd eItem w v ds) (hT2 : ∀ k, v.ownBlock = some k → ¬ T k) (h3 : ds.length ≤ 3000) :
    Calls Try.prog 14 #[.pointer (some ⟨m, 0, none⟩), v] w fun e w' => ∃ v', e = .returned v' ∧ Upd (Sep (MapS m kind cap al (mBatch kind cap ss ds).2) (fun S w => OwS eRes 38 S w v' (mBatch kind cap ss ds).1)) T w w' := by
  obtain ⟨hmx, ao, c, rfl, hcap, _, _⟩ := id hv
  have HV := Lib.hid hv
  have HT := Lib.hid hT
  have HG := Lib.hid G
  clear hT hv G
  go_enter Try.func14, Try.ntmps14
  go_wp2_with fail
  go_loopw [10, 5, 7] (fun t10 t5 _ wr => ∃ (k : Nat) (rs : List ResD) (st : List Sh), k ≤ ds.length ∧ t10 = .int .i64 k ∧ Hid (mBatch kind cap ss (ds.take k) = (rs, st)) ∧ Hid (Upd (Sep (MapS m kind cap al st) (fun S w => OwS eRes 38 S w t5 rs)) T w wr)) (fun t10 _ _ _ => ds.length - (intOf t10).toNat)
  case atStart => exact ⟨0, [], ss, Nat.zero_le _, rfl, Lib.hid rfl, Lib.hid (Upd.refl (Sep.framed MapS.framed OwS.framed) (Sep.nilL HT.out).swap)⟩
  case round =>
    obtain ⟨k, rs, st, hk, rfl, HE, V⟩ := hrel
    have hrl : rs.length = k := by
      have := mBatch_len (kind := kind) (cap := cap) (ss := ss) (ds.take k)
      rw [HE.out, List.length_take] at this
      have h : rs.length = min k ds.length := this
      omega
    by_cases hlt : k < ds.length
    · obtain ⟨_, ao', cap', hao, _, _, hx⟩ := HV.out
      obtain ⟨rfl, -, rfl⟩ : ao = ao' ∧ ds.length = ds.length ∧ c = cap' := by simpa using hao
      obtain ⟨sb, off, rfl, hc⟩ := hx (by omega)
      obtain ⟨c0, c1, c2, c3⟩ := it_cells4 hc k hlt
      have hi0 : (0 : Int) ≤ (k : Int) := by omega
      have hi1 : (k : Int) < (ds.length : Int) := by omega
      clear hc hx hao
      have HDS := Lib.hid (show ds.take (k + 1) = ds.take k ++ [ds[k]] from (List.take_append_getElem hlt).symm)
      generalize ds[k] = it at *
      obtain ⟨mp, op, dk, dv⟩ := it
      dsimp only at c0 c1 c2 c3
      have hkp : ∀ {j : Nat} {u : Value}, w.cell? ⟨sb, j, none⟩ = some u → wr.cell? ⟨sb, j, none⟩ = some u := fun h => (World.cell?_of_block (V.out.2.block sb (World.block_lt_of_cell? w _ h) (hT2 sb rfl))).trans h
      replace c0 := hkp c0
      replace c1 := hkp c1
      replace c2 := hkp c2
      replace c3 := hkp c3
      obtain ⟨⟨x0, x1, x2, x3, x4, x5⟩, st2, hd⟩ : ∃ r st2, mDo kind cap st op dk dv = (r, st2) := ⟨_, _, rfl⟩
      have HD := Lib.hid hd
      have HGs := Lib.hid (show MGood kind cap al st by have := mBatch_good HG.out (ds.take k); rwa [HE.out] at this)
      have HVa := Lib.hid (V.out.loc' MapS.framed OwS.framed (itO mp op dk dv))
      clear hd hkp
      go_wp2_with fail
      generalize World.alloc wr _ = wa at *
      clear c0 c1 c2 c3
      refine (HVa.out.on1 (Framed.and OwS.framed Blk.framed) (P' := MapS m kind cap al st2) (E := fun e => e = .returned (.agg #[.int .i64 x0, .bool x1, .int .u64 x2, .bool x3, .int .u64 x4, .int .u64 x5])) MapS.framed fun A hA => cmapDoM hA HGs.out HD.out).mono ?_
      rintro e w1 ⟨rfl, hV1⟩
      have HV1 := Lib.hid (hV1.rest (R' := fun S w => OwS eRes 38 S w u5 rs) fun _ h => h.1)
      obtain ⟨B, hB, hb⟩ := HV1.out.1.focusR MapS.framed
      have HOW := Lib.hid (show OwS eRes 38 B (w1.alloc (resO x0 x1 x2 x3 x4 x5)) u5 rs from OwS.framed.alloc hB _)
      have HRD := Lib.hid (Rd.lit (E := eRes) w1 #[.int .i64 x0, .bool x1, .int .u64 x2, .bool x3, .int .u64 x4, .int .u64 x5] 38 (0, 0) 1 1 [(x0, x1, x2, x3, x4, x5)] rfl rfl (Nat.le_refl _) (by decide))
      have HBK := Lib.hid (fun (v2 : Value) (w2 : World) (h2 : OwS eRes 38 (fun k => B k ∨ (w1.alloc (resO x0 x1 x2 x3 x4 x5)).heap.size ≤ k) w2 v2 (rs ++ [(x0, x1, x2, x3, x4, x5)])) (ho2 : Only B (w1.alloc (resO x0 x1 x2 x3 x4 x5)) w2) => HV1.out.step (Sep.framed MapS.framed OwS.framed) (hb _ w2 (OwS.framed (v := v2)) ⟨OwS.framed.mono _ _ _ h2 fun _ _ h => h.imp id fun h => Nat.le_trans (size_le_alloc _ _) h, (Only.alloc _ _ _).tr ho2⟩))
      obtain ⟨a3, n3, c3, rfl⟩ := hB.shape'
      clear hB hb hV1
      go_wp2_with (at_builtin; refine wl_appendS (E := eRes) rfl _ (.tmp 23) _ rfl 38 48 eRes_slice _ _ rs rfl HOW.out _ [(x0, x1, x2, x3, x4, x5)] rfl HRD.out (by simp only [List.length_cons, List.length_nil]; omega) (by unfold maxLen; simp only [List.length_cons, List.length_nil]; omega) ?_)
      intro v2 w2 hown2 hO2
      have HB2 := Lib.hid (HBK.out v2 w2 (OwS.framed.mono _ _ _ hown2 fun k _ h => by simpa using h) hO2)
      obtain ⟨a4, n4, c4, rfl⟩ := hown2.shape'
      clear hown2 hO2 HBK HOW HV1 HRD HVa
      go_wp2_with fail
      refine ⟨⟨k + 1, rs ++ [(x0, x1, x2, x3, x4, x5)], st2, by omega, by simp, Lib.hid ?_, HB2⟩, ?_⟩
      · rw [HDS.out, mBatch_snoc, HE.out]
        simp only [HD.out]
      · first | omega | (simp only [intOf]; omega)
    · obtain rfl : k = ds.length := by omega
      have hts : mBatch kind cap ss ds = (rs, st) := by have := HE.out; rwa [List.take_length] at this
      go_wp2_with fail
      go_ret
      refine ⟨_, rfl, ?_⟩
      rw [hts]
      exact V.out
end Go.Proofs.Ythppleegiieneaa
