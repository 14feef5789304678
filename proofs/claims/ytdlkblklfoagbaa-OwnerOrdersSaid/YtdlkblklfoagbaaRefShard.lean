/- cmap: the document's shard. -/
import Derived.Test.YtdlkblklfoagbaaShard
import Derived.Test.YtdlkblklfoagbaaMG
namespace Go.Proofs.Ytdlkblklfoagbaa
open Go.RowKit
set_option linter.unusedVariables false
set_option linter.unusedSimpArgs false

/-- where the document's shard lies -/
inductive RShA where
  | plain (rs bx : Nat)
  | bound (rs rg bx : Nat)
def RShA.rs : RShA → Nat
  | .plain rs _ => rs
  | .bound rs _ _ => rs
def RShA.bd : RShA → Bool
  | .plain _ _ => false
  | .bound _ _ _ => true
abbrev rshO (b l : Option Addr) : Obj := .cells #[.pointer b, .pointer l] 92 (0, 0)
def RShardS (a : RShA) (cap : Int) (s : Sh) (n : Int) : (Nat → Prop) → World → Prop := match a with
  | .plain rs bx => Sep (Blk rs (rshO (some ⟨bx, 0, none⟩) none)) (RefB bx cap s.1)
  | .bound rs rg bx => Sep (Blk rs (rshO none (some ⟨rg, 0, none⟩))) (RefL rg bx cap s n)
theorem RShardS.framed {a : RShA} {cap : Int} {s : Sh} {n : Int} : Framed (RShardS a cap s n) := by
  cases a
  · exact Sep.framed Blk.framed RefB.framed
  · exact Sep.framed Blk.framed RefL.framed

set_option maxHeartbeats 1000000 in
theorem refMake_bad (kind cap : Int) (w : World) (h : okDef kind cap = false) :
    Calls Try.prog 27 #[.agg #[.int .i64 kind, .int .i64 cap]] w fun e w' => e = .returned (.tuple #[.pointer none, .int .i64 2]) ∧ Only (fun _ => False) w w' := by
  have hor : (¬ kind = 0 ∧ ¬ kind = 1) ∨ (kind = 0 ∧ (cap < 1 ∨ 16 < cap)) ∨ (kind = 1 ∧ (cap < 1 ∨ 16 < cap)) := by
    have : ¬ ((kind = 0 ∨ kind = 1) ∧ 1 ≤ cap ∧ cap ≤ 16) := fun hh => by rw [okDef_iff.2 hh] at h; simp at h
    omega
  clear h
  rcases hor with ⟨h0, h1⟩ | ⟨rfl, hc⟩ | ⟨rfl, hc⟩
  · have b0 : (kind == 0) = false := by simpa using h0
    have b1 : (kind == 1) = false := by simpa using h1
    go_enter Try.func27, Try.ntmps27
    go_wp2_with fail
    go_ret2
    exact ⟨rfl, Only.alloc _ _ _⟩
  · have HN := Lib.hid (refNew_bad cap · hc)
    clear hc
    go_enter Try.func27, Try.ntmps27
    go_wp2_with fail
    refine (HN.out _).mono ?_
    rintro e w1 ⟨rfl, ho⟩
    go_wp2_with fail
    go_ret2
    exact ⟨rfl, (Only.alloc _ _ _).tr ho⟩
  · have HN := Lib.hid (refLruNew_bad cap · hc)
    clear hc
    go_enter Try.func27, Try.ntmps27
    go_wp2_with fail
    refine (HN.out _).mono ?_
    rintro e w1 ⟨rfl, ho⟩
    go_wp2_with fail
    go_ret2
    exact ⟨rfl, (Only.alloc _ _ _).tr ho⟩
set_option maxHeartbeats 1000000 in
theorem refMake_ok (kind cap : Int) (w : World) (h : okDef kind cap = true) :
    Calls Try.prog 27 #[.agg #[.int .i64 kind, .int .i64 cap]] w fun e w' => ∃ a : RShA, e = .returned (.tuple #[.pointer (some ⟨a.rs, 0, none⟩), .int .i64 0]) ∧ (a.bd = decide (kind = 1) ∧ RShardS a cap ([], []) 0 (fun k => w.heap.size ≤ k) w') ∧ Only (fun _ => False) w w' := by
  obtain ⟨hk, h1, h2⟩ := okDef_iff.1 h
  clear h
  rcases hk with rfl | rfl
  · have HN := Lib.hid (refNew_ok cap · h1 h2)
    have HG := Lib.hid (good_nil h1 h2)
    clear h1 h2
    go_enter Try.func27, Try.ntmps27
    go_wp2_with fail
    refine (HN.out _).mono ?_
    rintro e w1 ⟨bx, rfl, hb, ho⟩
    have hb2 : RefB bx cap [] (fun k => w.heap.size ≤ k) w1 := ⟨[], ⟨HG.out, rfl, fun _ => Iff.rfl, List.Pairwise.nil⟩, RefS.framed.mono _ _ _ hb fun k _ h => Nat.le_trans (size_le_alloc w _) h⟩
    have HO := Lib.hid ((Only.alloc (fun _ => False) w (.cells #[.int .i64 0, .int .i64 cap] 77)).tr ho)
    have HU := Lib.hid (show Upd (RefB bx cap []) (fun k => w.heap.size ≤ k) w w1 from ⟨RefB.framed.mono _ _ _ hb2 fun _ _ h => .inl h, HO.out.mono fun _ _ h => h.elim⟩)
    have HF := Lib.hid (HU.out.add RefB.framed (Q := Blk w1.heap.size (rshO (some ⟨bx, 0, none⟩) none)) Blk.framed (w2 := w1.alloc (rshO (some ⟨bx, 0, none⟩) none)) ⟨heap_alloc_new w1 _, Nat.le_refl _⟩ (Only.alloc _ _ _))
    clear hb hb2 ho
    go_wp2_with fail
    go_ret2
    refine ⟨.plain w1.heap.size bx, rfl, ⟨rfl, ?_⟩, HO.out.tr (Only.alloc _ _ _)⟩
    exact (Sep.framed Blk.framed RefB.framed).mono _ _ _ HF.out.1.swap fun _ _ h => h.elim id id
  · have HN := Lib.hid (refLruNew_ok cap · h1 h2)
    clear h1 h2
    go_enter Try.func27, Try.ntmps27
    go_wp2_with fail
    refine (HN.out _).mono ?_
    rintro e w1 ⟨rg, rfl, ⟨bx, hb⟩, ho⟩
    have hb2 : RefL rg bx cap ([], []) 0 (fun k => w.heap.size ≤ k) w1 := RefL.framed.mono _ _ _ hb fun k _ h => Nat.le_trans (size_le_alloc w _) h
    have HO := Lib.hid ((Only.alloc (fun _ => False) w (.cells #[.int .i64 1, .int .i64 cap] 77)).tr ho)
    have HU := Lib.hid (show Upd (RefL rg bx cap ([], []) 0) (fun k => w.heap.size ≤ k) w w1 from ⟨RefL.framed.mono _ _ _ hb2 fun _ _ h => .inl h, HO.out.mono fun _ _ h => h.elim⟩)
    have HF := Lib.hid (HU.out.add RefL.framed (Q := Blk w1.heap.size (rshO none (some ⟨rg, 0, none⟩))) Blk.framed (w2 := w1.alloc (rshO none (some ⟨rg, 0, none⟩))) ⟨heap_alloc_new w1 _, Nat.le_refl _⟩ (Only.alloc _ _ _))
    clear hb hb2 ho
    go_wp2_with fail
    go_ret2
    refine ⟨.bound w1.heap.size rg bx, rfl, ⟨rfl, ?_⟩, HO.out.tr (Only.alloc _ _ _)⟩
    exact (Sep.framed Blk.framed RefL.framed).mono _ _ _ HF.out.1.swap fun _ _ h => h.elim id id
set_option maxRecDepth 100000 in
set_option maxHeartbeats 2000000 in
theorem refShDo_ {a : RShA} {cap : Int} {s s' : Sh} {n : Int} {T : Nat → Prop} {w : World} (hT : RShardS a cap s n T w) (G : SGood a.bd cap s) (hn : n < 4611686018427387904) {op key val : Int} {r : ResD} (hd : shP a.bd cap s op key val = (r, s')) :
    Calls Try.prog 29 #[.pointer (some ⟨a.rs, 0, none⟩), .int .i64 op, .int .u64 key, .int .u64 val] w fun e w' => e = .returned (.agg #[.int .i64 r.1, .bool r.2.1, .int .u64 r.2.2.1, .bool r.2.2.2.1, .int .u64 r.2.2.2.2.1, .int .u64 r.2.2.2.2.2]) ∧ Upd (RShardS a cap s' (n + 1)) T w w' := by
  cases a with
  | plain rs bx =>
    have h : ((doP cap s.1 op key val).1, ((doP cap s.1 op key val).2, s.2)) = (r, s') := hd
    simp only [Prod.mk.injEq] at h
    obtain ⟨h1, h2⟩ := h
    have HD := Lib.hid (show doP cap s.1 op key val = (r, s'.1) by rw [← h1, ← h2])
    obtain ⟨_, hb⟩ := Sep.left Blk.framed hT |> fun h => (⟨T, h⟩ : ∃ T, Blk rs _ T w)
    have c0 := (blk_cell hb.1 0).trans rfl
    have c1 := (blk_cell hb.1 1).trans rfl
    have hl := heap_lt hb.1
    have HU := Lib.hid ((Upd.start (Sep.framed Blk.framed RefB.framed) hT).loc (Sep.framed Blk.framed RefB.framed) (resO 0 false 0 false 0 0))
    clear hT G hd h1 h2 hb
    show Calls _ _ #[.pointer (some ⟨rs, 0, none⟩), _, _, _] w _
    go_enter Try.func29, Try.ntmps29
    go_wp2_with fail
    refine (HU.out.via Locs.framed (P' := Sep (Blk rs (rshO (some ⟨bx, 0, none⟩) none)) (RefB bx cap s'.1)) (Sep.framed Blk.framed RefB.framed) fun A hA => by
      obtain ⟨B, hB, hb⟩ := hA.focusR Blk.framed
      exact (refBDo_ hB HD.out).mono fun e w' ⟨he, hu⟩ => ⟨he, hb _ w' RefB.framed hu⟩).mono ?_
    rintro e w1 ⟨rfl, hU1⟩
    have H8 := Lib.hid (hU1.get (g := w.heap.size) (List.mem_cons_self ..))
    have HU1 := Lib.hid hU1
    clear hU1 HU
    go_wp2_with (refine wpList_store_row rfl 41 (.tmp 8) (.tmp 29) rfl w.heap.size _ rfl rfl 41 _ H8.out (by kernel_rfl) rfl (res_one _ _ _ _ _ _) ?_)
    try simp only [Exit.inBlock, Exit.then]
    refine bodyPost_ret (results_cell_row rfl _ _ w.heap.size _ _ _ _ rfl (setRow_heap _ _ _ _ _ _ H8.out) Try.underlying41 rfl (by kernel_rfl)) rfl ?_
    exact ⟨rfl, ((HU1.out.locs (Sep.framed Blk.framed RefB.framed) (M := []) ((only_setRow _ _ _).mono fun j _ e => ⟨_, List.mem_cons_self .., e.symm⟩) (fun p hp => by simp at hp)).drop (Sep.framed Blk.framed RefB.framed))⟩
  | bound rs rg bx =>
    have HD := Lib.hid (show lruP cap s op key val = (r, s') from hd)
    have HG := Lib.hid (G.lru rfl)
    have hb := Sep.left Blk.framed hT
    have c0 := (blk_cell hb.1 0).trans rfl
    have c1 := (blk_cell hb.1 1).trans rfl
    have hl := heap_lt hb.1
    have HU := Lib.hid ((Upd.start (Sep.framed Blk.framed RefL.framed) hT).loc (Sep.framed Blk.framed RefL.framed) (resO 0 false 0 false 0 0))
    clear hT G hd hb
    show Calls _ _ #[.pointer (some ⟨rs, 0, none⟩), _, _, _] w _
    go_enter Try.func29, Try.ntmps29
    go_wp2_with fail
    refine (HU.out.via Locs.framed (P' := Sep (Blk rs (rshO none (some ⟨rg, 0, none⟩))) (RefL rg bx cap s' (n + 1))) (Sep.framed Blk.framed RefL.framed) fun A hA => by
      obtain ⟨B, hB, hb⟩ := hA.focusR Blk.framed
      exact (refLruDo_ hB HG.out hn HD.out).mono fun e w' ⟨he, hu⟩ => ⟨he, hb _ w' RefL.framed hu⟩).mono ?_
    rintro e w1 ⟨rfl, hU1⟩
    have H8 := Lib.hid (hU1.get (g := w.heap.size) (List.mem_cons_self ..))
    have HU1 := Lib.hid hU1
    clear hU1 HU
    go_wp2_with (refine wpList_store_row rfl 41 (.tmp 8) (.tmp 21) rfl w.heap.size _ rfl rfl 41 _ H8.out (by kernel_rfl) rfl (res_one _ _ _ _ _ _) ?_)
    try simp only [Exit.inBlock, Exit.then]
    refine bodyPost_ret (results_cell_row rfl _ _ w.heap.size _ _ _ _ rfl (setRow_heap _ _ _ _ _ _ H8.out) Try.underlying41 rfl (by kernel_rfl)) rfl ?_
    exact ⟨rfl, ((HU1.out.locs (Sep.framed Blk.framed RefL.framed) (M := []) ((only_setRow _ _ _).mono fun j _ e => ⟨_, List.mem_cons_self .., e.symm⟩) (fun p hp => by simp at hp)).drop (Sep.framed Blk.framed RefL.framed))⟩
theorem refShPairs_ {a : RShA} {cap : Int} {s : Sh} {n : Int} {T : Nat → Prop} {w : World} (hT : RShardS a cap s n T w) :
    Calls Try.prog 21 #[.pointer (some ⟨a.rs, 0, none⟩)] w fun e w' => ∃ v', e = .returned v' ∧ OwS ePair 50 (fun k => w.heap.size ≤ k) w' v' s.1 ∧ Only (fun _ => False) w w' := by
  cases a with
  | plain rs bx =>
    have hb := Sep.left Blk.framed hT
    have c0 := (blk_cell hb.1 0).trans rfl
    have c1 := (blk_cell hb.1 1).trans rfl
    have hl := heap_lt hb.1
    obtain ⟨L, hA, hS⟩ := Sep.right RefB.framed hT
    have HP := Lib.hid (refPairs_any bx cap s.1 L T w hA hS)
    clear hb hA hS hT
    show Calls _ _ #[.pointer (some ⟨rs, 0, none⟩)] w _
    go_enter Try.func21, Try.ntmps21
    go_wp2_with fail
    refine HP.out.mono ?_
    rintro e w1 ⟨v', rfl, ho, hO⟩
    go_wp2_with fail
    go_ret
    exact ⟨_, rfl, ho, hO⟩
  | bound rs rg bx =>
    have hb := Sep.left Blk.framed hT
    have c0 := (blk_cell hb.1 0).trans rfl
    have c1 := (blk_cell hb.1 1).trans rfl
    have hl := heap_lt hb.1
    have hR := Sep.right RefL.framed hT
    have p0 := hR.cells.1
    have HP := Lib.hid (refLruPairs_ hR)
    clear hb hT hR
    show Calls _ _ #[.pointer (some ⟨rs, 0, none⟩)] w _
    go_enter Try.func21, Try.ntmps21
    go_wp2_with fail
    refine HP.out.mono ?_
    rintro e w1 ⟨v', rfl, ho, hO⟩
    go_wp2_with fail
    go_ret
    exact ⟨_, rfl, ho, hO⟩
end Go.Proofs.Ytdlkblklfoagbaa
