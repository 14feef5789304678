/- owner: the owner and the document's owner side by side. -/
import Derived.Test.YtdlkblklfoagbaaOwnAwake
import Derived.Test.YtdlkblklfoagbaaROwnStep
namespace Go.Proofs.Ytdlkblklfoagbaa
open Go.RowKit
set_option linter.unusedVariables false
set_option linter.unusedSimpArgs false

/-- after k steps the two have the same shards -/
structure OSync (ds : List DefD) (ml : List MSh) (mr : List MRSh) (ss : List Sh) (rs : List RSt) (k : Nat) : Prop where
  a : OGood ml ss
  r : ROGood mr rs
  ma : ml.map (·.2) = ds
  mr : mr.map (·.2) = ds
  m : rs.map (·.1) = ss
  c : ∀ x ∈ rs, x.2 ≤ (k : Int)
theorem OSync.la {ds : List DefD} {ml : List MSh} {mr : List MRSh} {ss : List Sh} {rs : List RSt} {k : Nat} (H : OSync ds ml mr ss rs k) : ml.length = ds.length := by rw [← H.ma, List.length_map]
theorem OSync.lr {ds : List DefD} {ml : List MSh} {mr : List MRSh} {ss : List Sh} {rs : List RSt} {k : Nat} (H : OSync ds ml mr ss rs k) : mr.length = ds.length := by rw [← H.mr, List.length_map]
theorem OSync.up {ds : List DefD} {ml : List MSh} {mr : List MRSh} {ss : List Sh} {rs : List RSt} {k : Nat} (H : OSync ds ml mr ss rs k) : OSync ds ml mr ss rs (k + 1) := ⟨H.a, H.r, H.ma, H.mr, H.m, fun x hx => by have := H.c x hx; omega⟩
theorem OSync.next {ds : List DefD} {ml : List MSh} {mr : List MRSh} {ss : List Sh} {rs : List RSt} {k : Nat} (H : OSync ds ml mr ss rs k) (hk : k ≤ 1000) {q : ReqD} (hm : 0 ≤ q.2.2.2.1 ∧ q.2.2.2.1 < ds.length) {r : ResD} {ps : List PairD} {ss' : List Sh} (hd : stepP ds ss q = (r, ps, ss')) :
    ∃ rs', OSync ds ml mr ss' rs' (k + 1) ∧ ∀ (g : Nat) (sd n : Int) (all : List ReqD) (d : Nat) (ov : Bool) (T : Nat → Prop) (w : World), ROwnS g sd n mr rs all (d : Int) ov T w → ∀ (hdl : d < all.length), all[d] = q →
      Calls Try.prog 18 #[.pointer (some ⟨g, 0, none⟩)] w fun e w' => ∃ vp, e = .returned (.tuple #[repV q r vp, .bool true]) ∧ Upd (Sep (ROwnS g sd n mr rs' all ((d : Int) + 1) ov) (fun S w => OwS ePair 50 S w vp ps)) T w w' := by
  have hG2 := stepP_good (q := q) H.a
  rw [H.ma, hd] at hG2
  obtain ⟨fr, tg, wk, mp, op, dk, dv⟩ := q
  dsimp only at hm
  obtain ⟨i, rfl⟩ : ∃ i : Nat, mp = (i : Int) := ⟨mp.toNat, by omega⟩
  have h1d : i < ds.length := by omega
  have h1 : i < mr.length := by rw [H.lr]; exact h1d
  have h1a : i < ml.length := by rw [H.la]; exact h1d
  have h2a : i < ss.length := by rw [← H.a.len]; exact h1a
  have h2 : i < rs.length := by rw [← H.r.len]; exact h1
  have hss : rs[i].1 = ss[i] := by simp [← H.m]
  have hdd : mr[i].2 = ds[i] := by simp [← H.mr]
  have hb := H.r.bd _ (List.getElem_mem h1)
  have hcn := H.c _ (List.getElem_mem h2)
  unfold stepP at hd
  simp only [Int.toNat_natCast, List.getElem?_eq_getElem h2a, List.getElem?_eq_getElem h1d] at hd
  cases wk with
  | true =>
    simp only [if_true, Prod.mk.injEq] at hd
    obtain ⟨rfl, rfl, rfl⟩ := hd
    refine ⟨rs, H.up, fun g sd n all d ov T w hT hdl hq => ?_⟩
    have := rstep_w hT hdl hq h1 h2 H.r
    rw [hss] at this
    exact this
  | false =>
    simp only [Bool.false_eq_true, if_false, Prod.mk.injEq] at hd
    obtain ⟨hr, rfl, rfl⟩ := hd
    have hsh : shP mr[i].1.bd mr[i].2.2 rs[i].1 op dk dv = (r, (shP (decide (ds[i].1 = 1)) ds[i].2 ss[i] op dk dv).2) := by rw [hb, hdd, hss]; exact Prod.ext hr rfl
    refine ⟨rs.set i ((shP (decide (ds[i].1 = 1)) ds[i].2 ss[i] op dk dv).2, rs[i].2 + 1), ⟨hG2, ⟨by rw [List.length_set]; exact H.r.len, H.r.n4, H.r.bd, fun j j1 j2 => ?_⟩, H.ma, H.mr, by rw [List.map_set, H.m], fun x hx => ?_⟩, fun g sd n all d ov T w hT hdl hq => ?_⟩
    · simp only [List.getElem_set]
      split
      · next he =>
        subst he
        have hg := sh_good (op := op) (k := dk) (v := dv) (H.r.good i h1 h2)
        rw [hsh] at hg
        exact hg
      · exact H.r.good j j1 (by simpa using j2)
    · rcases List.mem_or_eq_of_mem_set hx with hx | rfl
      · have := H.c x hx; omega
      · simp only; omega
    · exact (rstep_d hT hdl hq h1 h2 H.r (by omega) hsh).mono fun e w' ⟨he, hu⟩ => ⟨_, he, hu.imp fun _ h => (Sep.nilL h).swap⟩
set_option maxRecDepth 100000 in
set_option maxHeartbeats 4000000 in
theorem rstep_none {T : Nat → Prop} {w : World} {g : Nat} {sd n : Int} {ml : List MRSh} {ss : List RSt} {all : List ReqD} {ov : Bool} (hT : ROwnS g sd n ml ss all (all.length : Int) ov T w) :
    Calls Try.prog 18 #[.pointer (some ⟨g, 0, none⟩)] w fun e w' => e = .returned (.tuple #[repV0, .bool false]) ∧ Only (fun _ => False) w w' := by
  obtain ⟨vm, vl, hV⟩ := hT
  obtain ⟨_, ⟨al, cl, rfl⟩⟩ := hV.shapes
  have hx : all.length ≤ maxLen := hV.obj.2.2.1
  unfold maxLen at hx
  have g3 : w.cell? ⟨g, 3, none⟩ = some (.slice al all.length cl) := blk_cell hV.obj.1 3
  have g4 : w.cell? ⟨g, 4, none⟩ = some (.int .i64 (all.length : Int)) := blk_cell hV.obj.1 4
  have hgs : g < w.heap.size := heap_lt hV.obj.1
  have HRB := Lib.hid (fun nq => show ((w.alloc (repO 0 0 false 0 0 0 0 0 false 0 false 0 0 (.slice none 0 0))).drewN nq).heap[w.heap.size]? = _ from ((Only.refl (fun _ => False) (w.alloc (repO 0 0 false 0 0 0 0 0 false 0 false 0 0 (.slice none 0 0)))).drewN nq).heap (heap_alloc_new w (repO 0 0 false 0 0 0 0 0 false 0 false 0 0 (.slice none 0 0))) fun h => h)
  have HO := Lib.hid (fun nq => (Only.alloc (fun _ => False) w (repO 0 0 false 0 0 0 0 0 false 0 false 0 0 (.slice none 0 0))).drewN nq)
  have hee : ((all.length : Int) == (all.length : Int)) = true := by simp
  clear hV
  go_enter Try.func18, Try.ntmps18
  go_wp2_with fail
  go_quiet (fail)
  go_wp2_with (refine wpList_store_row rfl 44 (.tmp 2) (.tmp 16) rfl w.heap.size #[.int .i64 0, .int .i64 0, .bool false, .int .i64 0, .int .i64 0, .int .u64 0, .int .u64 0, .int .i64 0, .bool false, .int .u64 0, .bool false, .int .u64 0, .int .u64 0, .slice none 0 0] rfl rfl 44 _ (HRB.out _) (by kernel_rfl) rfl (by simp [Value.oneCell']) ?_)
  try simp only [Exit.inBlock, Exit.then]
  try go_wp2_with fail
  refine bodyPost_ret (results_cell_row_tmp rfl _ _ w.heap.size _ _ _ _ rfl (setRow_heap _ _ _ _ _ _ (HRB.out _)) Try.underlying44 rfl (by kernel_rfl)) rfl ?_
  exact ⟨rfl, (HO.out _).trans (only_setRow _ _ _) fun k hk h => by omega⟩
theorem rnewU {R : (Nat → Prop) → World → Prop} {S : Nat → Prop} {w0 w : World} (sd n : Int) (ds : List DefD) (v : Value) (hR : Framed R) (h : Upd R S w0 w) (hr : Rd eDef w v ds) (hok : okOwn sd n ds = true) :
    Calls Try.prog 16 #[.int .i64 sd, .int .i64 n, v] w fun e w' => ∃ g, e = .returned (.tuple #[.pointer (some ⟨g, 0, none⟩), .int .i64 0]) ∧ ∃ ml, (ROGood ml (List.replicate ds.length rz0) ∧ ml.map (·.2) = ds) ∧ Upd (Sep (ROwnS g sd n ml (List.replicate ds.length rz0) [] 0 false) R) S w0 w' :=
  (h.callNew hR (Yx := fun g S w => RNewOk g sd n ds S w) (E := fun g e => e = .returned (.tuple #[.pointer (some ⟨g, 0, none⟩), .int .i64 0])) (fun _ => RNewOk.framed) ((rnew_any sd n ds v w hr).mono fun e w' hp => by
    rcases hp with ⟨h, _⟩ | ⟨_, h⟩
    · rw [hok] at h; cases h
    · exact h)).mono fun e w' ⟨g, he, hu⟩ => by
    obtain ⟨⟨A, B, hd, hA, hB, hp, ml, h1, h2, hq⟩, ho⟩ := hu
    exact ⟨g, he, ml, ⟨h1, h2⟩, ⟨B, A, fun k h1 h2 => hd k h2 h1, hB, hA, hq, hp⟩, ho⟩
theorem rnew_no {w : World} (sd n : Int) (ds : List DefD) (v : Value) (hr : Rd eDef w v ds) (hok : okOwn sd n ds = false) :
    Calls Try.prog 16 #[.int .i64 sd, .int .i64 n, v] w fun e w' => e = .returned (.tuple #[.pointer none, .int .i64 2]) ∧ Only (fun _ => False) w w' :=
  (rnew_any sd n ds v w hr).mono fun e w' hp => by
    rcases hp with ⟨_, h⟩ | ⟨h, _⟩
    · exact h
    · rw [hok] at h; cases h
end Go.Proofs.Ytdlkblklfoagbaa
