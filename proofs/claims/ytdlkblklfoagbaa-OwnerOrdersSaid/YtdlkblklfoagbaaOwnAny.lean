/- owner: Step in one contract; alike. -/
import Derived.Test.YtdlkblklfoagbaaOwnStep
import Derived.Test.YtdlkblklfoagbaaOwnMisc
import Derived.Test.YtdlkblklfoagbaaOwnNew
import Derived.Test.YtdlkblklfoagbaaLines
namespace Go.Proofs.Ytdlkblklfoagbaa
open Go.RowKit
set_option linter.unusedVariables false
set_option linter.unusedSimpArgs false

abbrev zR : ResD := (0, false, 0, false, 0, 0)
/-- Step: what is answered, the pairs, the shards behind it -/
def stepP (ds : List DefD) (ss : List Sh) (q : ReqD) : ResD × List PairD × List Sh := match ds[q.2.2.2.1.toNat]?, ss[q.2.2.2.1.toNat]? with
  | some d, some s => if q.2.2.1 then (zR, s.1, ss) else ((shP (decide (d.1 = 1)) d.2 s q.2.2.2.2.1 q.2.2.2.2.2.1 q.2.2.2.2.2.2).1, [], ss.set q.2.2.2.1.toNat (shP (decide (d.1 = 1)) d.2 s q.2.2.2.2.1 q.2.2.2.2.2.1 q.2.2.2.2.2.2).2)
  | _, _ => (zR, [], ss)
abbrev repV (q : ReqD) (r : ResD) (vp : Value) : Value := .agg #[.int .i64 q.1, .int .i64 q.2.1, .bool q.2.2.1, .int .i64 q.2.2.2.1, .int .i64 q.2.2.2.2.1, .int .u64 q.2.2.2.2.2.1, .int .u64 q.2.2.2.2.2.2, .int .i64 r.1, .bool r.2.1, .int .u64 r.2.2.1, .bool r.2.2.2.1, .int .u64 r.2.2.2.2.1, .int .u64 r.2.2.2.2.2, vp]
abbrev repV0 : Value := .agg #[.int .i64 0, .int .i64 0, .bool false, .int .i64 0, .int .i64 0, .int .u64 0, .int .u64 0, .int .i64 0, .bool false, .int .u64 0, .bool false, .int .u64 0, .int .u64 0, .slice none 0 0]
section
variable {T : Nat → Prop} {w : World} {g : Nat} {sd n : Int} {ml : List MSh} {ss : List Sh} {rest : List ReqD} {en : Bool}
theorem stepP_good {q : ReqD} (G : OGood ml ss) : OGood ml (stepP (ml.map (·.2)) ss q).2.2 := by
  unfold stepP
  split
  · next d s h1 h2 =>
    split
    · exact G
    · obtain ⟨i1, i2⟩ := List.getElem?_eq_some_iff.1 h1
      obtain ⟨j1, j2⟩ := List.getElem?_eq_some_iff.1 h2
      have hl : q.2.2.2.1.toNat < ml.length := by simpa using i1
      have hd : ml[q.2.2.2.1.toNat].2 = d := by simpa using i2
      refine G.set _ hl ?_
      have hb := G.bd _ (List.getElem_mem hl)
      rw [hd] at hb
      rw [hb, hd]
      have hg := G.good _ hl j1
      rw [hb, hd, j2] at hg
      exact sh_good hg
  · exact G
theorem stepP_len {ds : List DefD} {q : ReqD} : (stepP ds ss q).2.2.length = ss.length := by
  unfold stepP
  split
  · split
    · rfl
    · simp
  · rfl
theorem stepP_pairs {q : ReqD} (G : OGood ml ss) : (stepP (ml.map (·.2)) ss q).2.1.length ≤ 16 := by
  unfold stepP
  split
  · next d s h1 h2 =>
    split
    · obtain ⟨i1, i2⟩ := List.getElem?_eq_some_iff.1 h1
      obtain ⟨j1, j2⟩ := List.getElem?_eq_some_iff.1 h2
      have hl : q.2.2.2.1.toNat < ml.length := by simpa using i1
      have := (G.good _ hl j1).len
      rw [j2] at this
      exact this
    · simp
  · simp
theorem step_any {q : ReqD} (hT : OwnS g sd n ml ss (q :: rest) en T w) (G : OGood ml ss) (hm : 0 ≤ q.2.2.2.1 ∧ q.2.2.2.1 < ml.length) {r : ResD} {ps : List PairD} {ss' : List Sh} (hd : stepP (ml.map (·.2)) ss q = (r, ps, ss')) :
    Calls Try.prog 12 #[.pointer (some ⟨g, 0, none⟩)] w fun e w' => ∃ vp, e = .returned (.tuple #[repV q r vp, .bool true]) ∧ Upd (Sep (OwnS g sd n ml ss' rest en) (fun S w => OwS ePair 50 S w vp ps)) T w w' := by
  obtain ⟨fr, tg, wk, mp, op, dk, dv⟩ := q
  dsimp only at hm
  obtain ⟨i, rfl⟩ : ∃ i : Nat, mp = (i : Int) := ⟨mp.toNat, by omega⟩
  have h1 : i < ml.length := by omega
  have h2 : i < ss.length := by rw [← G.len]; exact h1
  have hb := G.bd _ (List.getElem_mem h1)
  unfold stepP at hd
  simp only [Int.toNat_natCast, List.getElem?_eq_getElem h2, List.getElem?_map, List.getElem?_eq_getElem h1, Option.map_some] at hd
  cases wk with
  | true =>
    simp only [if_true, Prod.mk.injEq] at hd
    obtain ⟨rfl, rfl, rfl⟩ := hd
    cases hai : ml[i].1 with
    | plain b => exact step_wp hT h1 h2 G hai
    | bound b0 b => exact step_wb hT h1 h2 G hai
  | false =>
    simp only [Bool.false_eq_true, if_false, Prod.mk.injEq] at hd
    obtain ⟨hr, rfl, rfl⟩ := hd
    cases hai : ml[i].1 with
    | plain b =>
      rw [hai] at hb
      have hb' : false = decide (ml[i].2.1 = 1) := hb
      rw [← hb'] at hr ⊢
      refine (step_dp hT h1 h2 G hai (r := r) (Prod.ext hr rfl)).mono fun e w' ⟨he, hu⟩ => ⟨_, he, hu.imp fun _ h => (Sep.nilL h).swap⟩
    | bound b0 b =>
      rw [hai] at hb
      have hb' : true = decide (ml[i].2.1 = 1) := hb
      rw [← hb'] at hr ⊢
      refine (step_db hT h1 h2 G hai (r := r) (Prod.ext hr rfl)).mono fun e w' ⟨he, hu⟩ => ⟨_, he, hu.imp fun _ h => (Sep.nilL h).swap⟩
set_option maxRecDepth 100000 in
set_option maxHeartbeats 4000000 in
theorem step_none (hT : OwnS g sd n ml ss [] en T w) :
    Calls Try.prog 12 #[.pointer (some ⟨g, 0, none⟩)] w fun e w' => e = .returned (.tuple #[repV0, .bool false]) ∧ Only (fun _ => False) w w' := by
  obtain ⟨vm, vl, hV⟩ := hT
  obtain ⟨_, ⟨al, cl, rfl⟩⟩ := hV.shapes
  have g3 : w.cell? ⟨g, 3, none⟩ = some (.slice al 0 cl) := blk_cell hV.obj.1 3
  have hgs : g < w.heap.size := heap_lt hV.obj.1
  have HRB := Lib.hid (heap_alloc_new w (repO 0 0 false 0 0 0 0 0 false 0 false 0 0 (.slice none 0 0)))
  have HO := Lib.hid (Only.alloc (fun _ => False) w (repO 0 0 false 0 0 0 0 0 false 0 false 0 0 (.slice none 0 0)))
  have HL := Lib.hid (Nat.le_refl w.heap.size)
  clear hV
  go_enter Try.func12, Try.ntmps12
  go_wp2_with (refine wpList_store_row rfl 44 (.tmp 2) (.tmp 12) rfl w.heap.size #[.int .i64 0, .int .i64 0, .bool false, .int .i64 0, .int .i64 0, .int .u64 0, .int .u64 0, .int .i64 0, .bool false, .int .u64 0, .bool false, .int .u64 0, .int .u64 0, .slice none 0 0] rfl rfl 44 _ HRB.out (by kernel_rfl) rfl (by simp [Value.oneCell']) ?_)
  try simp only [Exit.inBlock, Exit.then]
  try go_wp2_with fail
  refine bodyPost_ret (results_cell_row_tmp rfl _ _ w.heap.size _ _ _ _ rfl (setRow_heap _ _ _ _ _ _ HRB.out) Try.underlying44 rfl (by kernel_rfl)) rfl ?_
  exact ⟨rfl, HO.out.trans (only_setRow _ _ _) fun k hk h => by omega⟩
end
set_option maxRecDepth 100000 in
set_option maxHeartbeats 4000000 in
theorem alike_eq (q : ReqD) (r : ResD) (va vb : Value) (ps : List PairD) (w : World) (ha : Rd ePair w va ps) (hb : Rd ePair w vb ps) :
    Calls Try.prog 15 #[repV q r va, repV q r vb] w fun e w' => e = .returned (.bool true) ∧ Only (fun _ => False) w w' := by
  obtain ⟨fr, tg, wk, mp, op, dk, dv⟩ := q
  obtain ⟨x0, x1, x2, x3, x4, x5⟩ := r
  have hi : ∀ w, (binOp .eql 35 (.agg #[.int .i64 mp, .int .i64 op, .int .u64 dk, .int .u64 dv]) (.agg #[.int .i64 mp, .int .i64 op, .int .u64 dk, .int .u64 dv])).run Try.prog w = .ok (.bool true) w := fun w => by
    have := eItem_eql (mp, op, dk, dv) (mp, op, dk, dv) w
    simpa using this
  have hr : ∀ w, (binOp .eql 41 (.agg #[.int .i64 x0, .bool x1, .int .u64 x2, .bool x3, .int .u64 x4, .int .u64 x5]) (.agg #[.int .i64 x0, .bool x1, .int .u64 x2, .bool x3, .int .u64 x4, .int .u64 x5])).run Try.prog w = .ok (.bool true) w := fun w => by
    have := eRes_eql (x0, x1, x2, x3, x4, x5) (x0, x1, x2, x3, x4, x5) w
    simpa using this
  have HO := Lib.hid ((Only.alloc (fun _ => False) w (repO fr tg wk mp op dk dv x0 x1 x2 x3 x4 x5 va)).tr (Only.alloc (fun _ => False) _ (repO fr tg wk mp op dk dv x0 x1 x2 x3 x4 x5 vb)))
  have HP := Lib.hid (pairs_eq ps va vb _ (ha.only HO.out) (hb.only HO.out))
  obtain ⟨_, aa, ca, rfl, _⟩ := ha
  obtain ⟨_, ab, cb, rfl, _⟩ := hb
  have hf : (fr == fr) = true := by simp
  have hg : (tg == tg) = true := by simp
  have hw : (wk == wk) = true := by simp
  go_enter Try.func15, Try.ntmps15
  go_wp2_with fail
  refine HP.out.mono ?_
  rintro e w1 ⟨rfl, ho⟩
  go_wp2_with fail
  go_ret
  exact ⟨rfl, HO.out.tr ho⟩
end Go.Proofs.Ytdlkblklfoagbaa
