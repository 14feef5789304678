/- lru: Do, a key is driven out. -/
import Derived.Test.YtodacnpbhlkoiaaLruDo
namespace Go.Proofs.Ytodacnpbhlkoiaa
open Go.RowKit
set_option linter.unusedVariables false
set_option linter.unusedSimpArgs false

theorem Locs.cut {p : Nat × Obj} {L : List (Nat × Obj)} {S : Nat → Prop} {w : World} (h : Locs (p :: L) S w) (hn : ∀ q ∈ L, q.1 ≠ p.1) : Sep (Locs [p]) (Locs L) S w :=
  ⟨fun k => k = p.1, fun k => ∃ q ∈ L, q.1 = k, fun k h1 ⟨q, hq, e⟩ => hn q hq (e.trans h1), fun k e => e ▸ (h p (List.mem_cons_self ..)).2, fun k ⟨q, hq, e⟩ => e ▸ (h q (List.mem_cons_of_mem _ hq)).2,
    fun q hq => by obtain rfl := List.mem_singleton.1 hq; exact ⟨(h q (List.mem_cons_self ..)).1, rfl⟩, fun q hq => ⟨(h q (List.mem_cons_of_mem _ hq)).1, q, hq, rfl⟩⟩
theorem Locs.join {L M : List (Nat × Obj)} {S : Nat → Prop} {w : World} (h : Sep (Locs L) (Locs M) S w) : Locs (L ++ M) S w := by
  obtain ⟨A, B, _, hA, hB, ha, hb⟩ := h
  intro p hp
  rcases List.mem_append.1 hp with hp | hp
  · exact ⟨(ha p hp).1, hA _ (ha p hp).2⟩
  · exact ⟨(hb p hp).1, hB _ (hb p hp).2⟩
/-- a call that has the thing and one of the blocks -/
theorem Upd.via1 {P : (Nat → Prop) → World → Prop} (hP : Framed P) {S : Nat → Prop} {w w1 : World} {p p' : Nat × Obj} {L : List (Nat × Obj)} (h : Upd (Sep P (Locs (p :: L))) S w w1) (hn : ∀ q ∈ L, q.1 ≠ p.1) {f : FuncId} {args : Array Value} {pr : Program} {e0 : Ending} {P' : (Nat → Prop) → World → Prop} (hP' : Framed P')
    (H : ∀ A, Sep P (Locs [p]) A w1 → Calls pr f args w1 fun e w' => e = e0 ∧ Upd (Sep P' (Locs [p'])) A w1 w') : Calls pr f args w1 fun e w' => e = e0 ∧ Upd (Sep P' (Locs (p' :: L))) S w w' :=
  (Upd.via (P := Sep P (Locs [p])) (P' := Sep P' (Locs [p'])) Locs.framed (h.imp fun T hT => (hT.imp (fun _ h => h) fun _ h => h.cut hn).assoc') (Sep.framed hP' Locs.framed) H).mono fun e w' ⟨he, hu⟩ => ⟨he, hu.imp fun T hT => hT.assoc.imp (fun _ h => h) fun _ h => Locs.join h⟩

/-- one of the blocks is changed -/
theorem Upd.loc1 {P : (Nat → Prop) → World → Prop} (hP : Framed P) {S : Nat → Prop} {w w1 w2 : World} {A B : List (Nat × Obj)} {k : Nat} {o o' : Obj} (h : Upd (Sep P (Locs (A ++ (k, o) :: B))) S w w1) (ho : Only (fun j => j = k) w1 w2) (hk : w2.heap[k]? = some o') (hn : ∀ q ∈ A ++ B, q.1 ≠ k) :
    Upd (Sep P (Locs (A ++ (k, o') :: B))) S w w2 := by
  refine h.locs hP (ho.mono fun j _ e => ⟨(k, o), by simp, e.symm⟩) fun p hp => ?_
  rcases List.mem_append.1 hp with hp | hp
  · exact ⟨ho.heap (h.get (g := p.1) (o := p.2) (List.mem_append_left _ hp)) (hn p (List.mem_append_left _ hp)), .inr ⟨p, List.mem_append_left _ hp, rfl⟩⟩
  · rcases List.mem_cons.1 hp with rfl | hp
    · exact ⟨hk, .inr ⟨(k, o), by simp, rfl⟩⟩
    · exact ⟨ho.heap (h.get (g := p.1) (o := p.2) (List.mem_append_right _ (List.mem_cons_of_mem _ hp))) (hn p (List.mem_append_right _ hp)), .inr ⟨p, List.mem_append_right _ (List.mem_cons_of_mem _ hp), rfl⟩⟩
set_option maxRecDepth 100000 in
set_option maxHeartbeats 2000000 in
theorem lru_evict (g b : Nat) (cap : Int) (s : List PairD × List Int) (S : Nat → Prop) (op key val : Int) (w : World) (H : LruS g b cap s S w) (G : LGood cap s) (hF : isFull cap s.1 op key = true) :
    Calls Try.prog 11 #[.pointer (some ⟨g, 0, none⟩), .int .i64 op, .int .u64 key, .int .u64 val] w (LPost g b cap S w (lruP cap s op key val)) := by
  obtain ⟨hd1, h0, hlh, hd2, hg2, hnk, hnf, hd3⟩ := evict_do (v := val) G hF
  have c0 := H.ptr
  have hl := World.block_lt_of_cell? w _ c0
  have HU := Lib.hid ((Upd.start LruS.framed H).loc LruS.framed (resO 0 false 0 false 0 0))
  have HD := Lib.hid hd1
  have HD3 := Lib.hid hd3
  have HG := Lib.hid G
  have HG2 := Lib.hid hg2
  have HN := Lib.hid (show (dropK s.2 (lastP s.2)).length ≤ 1000 by have := G.len; have := G.good.len; have := G.good.hi; exact Nat.le_trans (List.length_filter_le _ _) (by omega))
  have HP := Lib.hid (show lruP cap s op key val = ((0, false, if op = 4 then add64 0 val else 0, true, lastP s.2, oldP s.1 (lastP s.2)), (putP (delP s.1 (lastP s.2)) key (if op = 4 then add64 0 val else val), key :: dropK (dropK s.2 (lastP s.2)) key)) from if_pos hF)
  have hop := (full_has hF).1
  rw [HP.out]
  have HEv := Lib.hid (fun r S w H => evict_any g b r cap s S w H G h0 hlh)
  clear H G hd1 hd2 hd3 hg2 hnk hnf hF h0 hlh HP
  generalize (if op = 4 then add64 0 val else 0) = x2 at *
  generalize putP (delP s.1 (lastP s.2)) key (if op = 4 then add64 0 val else val) = ys at *
  rcases hop with rfl | rfl
  all_goals
    go_enter Try.func11, Try.ntmps11
    go_wp2_with fail
    refine (HU.out.via Locs.framed LruS.framed fun A hA => LruS.doF_ hA HG.out.good HD.out).mono ?_
    rintro e w1 ⟨rfl, hU1⟩
    have HU2 := Lib.hid ((hU1.loc LruS.framed (resO 40 false 0 false 0 0)).loc LruS.framed (resO 0 false 0 false 0 0))
    have hw1 := hU1.2.size
    have h8 := heap_lt (hU1.get (g := w.heap.size) (List.mem_cons_self ..))
    clear HU hU1
    dsimp only [resE]
    go_wp2_with fail
    have hs : (w1.alloc (resO 40 false 0 false 0 0)).heap.size = w1.heap.size + 1 := by simp
    rw [hs] at HU2
    obtain ⟨n, hn⟩ : ∃ n, n = w1.heap.size := ⟨_, rfl⟩
    rw [← hn] at HU2 h8 ⊢
    refine (HU2.out.via1 LruS.framed (fun q hq => by simp at hq; rcases hq with rfl | rfl <;> simp <;> omega) LruS.framed fun A hA => HEv.out (n + 1) A _ hA).mono ?_
    rintro e w2 ⟨rfl, hU2⟩
    have HU3 := Lib.hid hU2
    have h82 := Lib.hid h8
    clear HU2 hU2 hs hn hw1 h8
    have hnn : ¬ n = n + 1 := by omega
    have hnn2 : ¬ n + 1 = n := by omega
    have c0 := (HU3.out.1.left LruS.framed).ptr
    have hl := World.block_lt_of_cell? w2 _ c0
    go_wp2_with fail
    refine (HU3.out.via Locs.framed LruS.framed fun A hA => LruS.doF_ hA HG2.out HD3.out).mono ?_
    rintro e w3 ⟨rfl, hU3⟩
    have h9 := Lib.hid (hU3.get (g := n) (List.mem_cons_of_mem _ (List.mem_cons_self ..)))
    have HU4 := Lib.hid hU3
    obtain ⟨_, _, _, d3, d4, d5⟩ := res_cells (hU3.get (g := n + 1) (List.mem_cons_self ..))
    clear HU3 hU3
    dsimp only [resF]
    go_upto_region 6 with (refine wpList_store_row rfl 35 (.tmp 9) (.tmp 31) rfl n _ rfl rfl 35 _ h9.out (by kernel_rfl) rfl (res_one _ _ _ _ _ _) ?_)
    obtain ⟨W4, hW4⟩ : ∃ W4, W4 = w3.setRow n #[.int .i64 0, .bool false, .int .u64 x2, .bool false, .int .u64 0, .int .u64 0] := ⟨_, rfl⟩
    have hU5 := Upd.loc1 (A := [_]) (B := [_]) LruS.framed HU4.out (only_setRow w3 n #[.int .i64 0, .bool false, .int .u64 x2, .bool false, .int .u64 0, .int .u64 0]) (o' := resO 0 false x2 false 0 0) (setRow_heap _ _ _ _ _ _ h9.out) (fun q hq => by have := h82.out; simp at hq; rcases hq with rfl | rfl <;> simp <;> omega)
    simp only [← hW4] at hU5 ⊢
    obtain ⟨_, _, _, d3, d4, d5⟩ := res_cells (hU5.get (g := n + 1) (List.mem_cons_self ..))
    have h9' := hU5.get (g := n) (List.mem_cons_of_mem _ (List.mem_cons_self ..))
    obtain ⟨_, _, _, f3, f4, f5⟩ := res_cells h9'
    have z3 := frozen_of_row W4 n 3 _ _ h9'
    have z4 := frozen_of_row W4 n 4 _ _ h9'
    have z5 := frozen_of_row W4 n 5 _ _ h9'
    have H9 := Lib.hid h9'
    have HU5 := Lib.hid hU5
    clear HU4 h9' hU5 h9 hW4
    go_region_held3 (fun w' => w'.cell? ⟨n + 1, 3, none⟩ = some (.bool true) ∧ w'.cell? ⟨n + 1, 4, none⟩ = some (.int .u64 (lastP s.2)) ∧ w'.cell? ⟨n + 1, 5, none⟩ = some (.int .u64 (oldP s.1 (lastP s.2)))) (simp [*, World.cell?_setCell_far, World.cell?_setCell_other]) (fail)
  all_goals
    obtain ⟨hs1, hs2⟩ := res_out H9.out (lastP s.2) (oldP s.1 (lastP s.2))
    have hU6 := Upd.loc1 (A := [_]) (B := [_]) LruS.framed HU5.out hs2 hs1 (fun q hq => by have := h82.out; simp at hq; rcases hq with rfl | rfl <;> simp <;> omega)
    generalize World.drew _ = W5 at *
    clear hs1 hs2 HU5 H9 d3 d4 d5 f3 f4 f5 z3 z4 z5
    obtain ⟨e0, e1, e2, e3, e4, e5⟩ := res_cells (hU6.get (g := n) (List.mem_cons_of_mem _ (List.mem_cons_self ..)))
    have HU6 := Lib.hid hU6
    clear hU6
    go_wp2_with fail
    refine (HU6.out.via Locs.framed LruS.framed fun A hA => LruS.touch_ hA HN.out key).mono ?_
    rintro e w7 ⟨rfl, hU7⟩
    have H8 := Lib.hid (hU7.get (g := w.heap.size) (List.mem_cons_of_mem _ (List.mem_cons_of_mem _ (List.mem_singleton_self _))))
    obtain ⟨e0, e1, e2, e3, e4, e5⟩ := res_cells (hU7.get (g := n) (List.mem_cons_of_mem _ (List.mem_cons_self ..)))
    have HU7 := Lib.hid hU7
    clear hU7 HU6
    go_wp2_with (refine wpList_store_row rfl 35 (.tmp 8) (.tmp 65) rfl w.heap.size _ rfl rfl 35 _ H8.out (by kernel_rfl) rfl (res_one _ _ _ _ _ _) ?_)
    try simp only [Exit.inBlock, Exit.then]
    refine bodyPost_ret (results_cell_row rfl _ _ w.heap.size _ _ _ _ rfl (setRow_heap _ _ _ _ _ _ H8.out) Try.underlying35 rfl (by kernel_rfl)) rfl ?_
    exact ⟨rfl, lru_fin HU7.out (List.mem_cons_of_mem _ (List.mem_cons_of_mem _ (List.mem_singleton_self _))) _⟩
/-- Do, every road -/
theorem lru_any (g b : Nat) (cap : Int) (s : List PairD × List Int) (S : Nat → Prop) (op key val : Int) (w : World) (H : LruS g b cap s S w) (G : LGood cap s) :
    Calls Try.prog 11 #[.pointer (some ⟨g, 0, none⟩), .int .i64 op, .int .u64 key, .int .u64 val] w (LPost g b cap S w (lruP cap s op key val)) := by
  by_cases hF : isFull cap s.1 op key = true
  · exact lru_evict g b cap s S op key val w H G hF
  · have hF' : isFull cap s.1 op key = false := by simpa using hF
    have hp : lruP cap s op key val = ((doP cap s.1 op key val).1, ((doP cap s.1 op key val).2, if (doP cap s.1 op key val).1.1 = 0 then ordP s.1 s.2 op key else s.2)) := if_neg hF
    rw [hp]
    by_cases h0 : op = 0
    · subst h0
      have e : doP cap s.1 0 key val = (resF (hasP s.1 key) (oldP s.1 key), s.1) := rfl
      rw [e]
      show Calls _ _ _ w (LPost g b cap S w (resF (hasP s.1 key) (oldP s.1 key), (s.1, ordP s.1 s.2 0 key)))
      unfold ordP
      cases hf : hasP s.1 key
      · rw [if_neg (by simp [touches, hf])]
        exact lru_none g b cap s S 0 key val 0 _ false s.1 w H G (by rw [e, hf]; rfl) (.inr (.inr ⟨rfl, rfl, rfl⟩))
      · rw [if_pos (by simp [touches, hf])]
        exact lru_touch g b cap s S 0 key val _ true s.1 w H G (by rw [e, hf]; rfl) (.inr (.inr ⟨rfl, rfl⟩))
    by_cases h1 : op = 1
    · subst h1
      exact lru_none g b cap s S 1 key val 0 0 (hasP s.1 key) s.1 w H G rfl (.inr (.inl ⟨rfl, rfl⟩))
    by_cases h3 : op = 3
    · subst h3
      exact lru_drop g b cap s S key val _ _ _ w H G rfl
    by_cases h2 : op = 2
    · subst h2
      have hfu : full cap s.1 key = false := by unfold isFull at hF'; simpa using hF'
      have e : doP cap s.1 2 key val = (resF (hasP s.1 key) (oldP s.1 key), putP s.1 key val) := by unfold doP; simp [hfu]
      rw [e]
      exact lru_touch g b cap s S 2 key val _ _ _ w H G e (.inl rfl)
    by_cases h4 : op = 4
    · subst h4
      have hfu : full cap s.1 key = false := by unfold isFull at hF'; simpa using hF'
      have e : doP cap s.1 4 key val = (resF (hasP s.1 key) (add64 (oldP s.1 key) val), putP s.1 key (add64 (oldP s.1 key) val)) := by unfold doP; simp [hfu]
      rw [e]
      exact lru_touch g b cap s S 4 key val _ _ _ w H G e (.inr (.inl rfl))
    · have e : doP cap s.1 op key val = (resE 2, s.1) := by unfold doP; simp [h0, h1, h2, h3, h4]
      rw [e]
      exact lru_none g b cap s S op key val 2 0 false s.1 w H G e (.inl rfl)
end Go.Proofs.Ytodacnpbhlkoiaa
