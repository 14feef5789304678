/- book: Do, a new key. -/
import Derived.Test.YtodacnpbhlkoiaaBookDo4
import Derived.Deep.RegionHeld
namespace Go.Proofs.Ytodacnpbhlkoiaa
open Go.RowKit
set_option linter.unusedVariables false
set_option linter.unusedSimpArgs false

theorem ins_fin {b : Nat} {cap : Int} {S : Nat → Prop} {w w2 W : World} {u : Value} {zs : List PairD} {m g2 off2 n c2 r : Nat} (hb2 : w2.heap[b]? = some (.cells #[.int .i64 cap, u] 69 (0, 0))) (hSb : S b) (hbl : b < w.heap.size)
    (how : OwS ePair 46 (fun k => (S k ∧ k < w.heap.size) ∨ m ≤ k) w2 (.slice (some ⟨g2, off2, none⟩) n c2) zs) (hm : w.heap.size < m) (ho : Only (fun k => (S k ∧ k < w.heap.size) ∨ w.heap.size ≤ k) w w2)
    (o3 : Only (fun k => k = r) (w2.setCell ⟨b, 1, none⟩ (.slice (some ⟨g2, off2, none⟩) n c2)) W) (hr : w.heap.size ≤ r) (hrg : g2 ≠ r) (p : Nat) (hp : p < zs.length) (key nv : Int) (hk : zs[p].1 = key) (cs : Array Value) :
    BookS b cap (zs.set p (key, nv)) (fun k => S k ∨ w.heap.size ≤ k) ((W.setCell ⟨g2, off2 + p * 2 + 1, none⟩ (.int .u64 nv)).setRow w.heap.size cs) ∧ Only S w ((W.setCell ⟨g2, off2 + p * 2 + 1, none⟩ (.int .u64 nv)).setRow w.heap.size cs) := by
  have hgb : g2 ≠ b := fun h => row_ne hb2 how.1 (by decide) (by simp [Value.ownBlock, h])
  have hgS := how.2 g2 rfl
  have o1 := Only.setCell (fun k => k = b) w2 b 1 (.slice (some ⟨g2, off2, none⟩) n c2) rfl
  have hb3 := o3.heap (blk_set hb2 1 (.slice (some ⟨g2, off2, none⟩) n c2)) (fun h => by omega)
  have hb4 := heap_setCell_far hb3 g2 (off2 + p * 2 + 1) (.int .u64 nv) (fun h => hgb h.symm)
  have hw := (((how.1.only o1 (fun k hk h => by
    obtain rfl : g2 = k := by simpa [Value.ownBlock] using hk
    exact hgb h)).only o3 (fun k hk h => by
    obtain rfl : g2 = k := by simpa [Value.ownBlock] using hk
    exact hrg h))).setVal p hp key nv hk
  refine do_fin2 (S := S) (m := m) hb4 hSb hbl ⟨hw, fun k hk => ?_⟩ hm ?_ cs
  · obtain rfl : g2 = k := by simpa [Value.ownBlock] using hk
    exact hgS
  · refine ((ho.trans o1 (fun k hk e => by subst e; exact .inl ⟨hSb, hbl⟩)).trans o3 (fun k hk e => by omega)).trans (Only.setCell (fun k => k = g2) W g2 _ _ rfl) fun k hk e => ?_
    subst e
    rcases hgS with h | h
    · exact .inl h
    · omega
theorem ins_set (xs : List PairD) (p : Nat) (hp : p ≤ xs.length) (k v : Int) : (xs.take p ++ (k, 0) :: xs.drop p).set p (k, v) = xs.take p ++ (k, v) :: xs.drop p := by
  have hl : (xs.take p).length = p := by simp; omega
  conv => lhs; rw [show p = (xs.take p).length from hl.symm]
  rw [List.set_append_right _ _ (by simp)]
  simp [hl]
theorem ins_at (xs : List PairD) (p : Nat) (hp : p ≤ xs.length) (k : Int) : ∃ h : p < (xs.take p ++ ((k, 0) : PairD) :: xs.drop p).length, (xs.take p ++ ((k, 0) : PairD) :: xs.drop p)[p] = (k, 0) := by
  have hl : (xs.take p).length = p := by simp; omega
  refine ⟨by simp; omega, ?_⟩
  rw [List.getElem_append_right (by omega)]
  simp [hl]

set_option maxRecDepth 100000 in
set_option maxHeartbeats 4000000 in
theorem do_put_no (b : Nat) (cap : Int) (xs : List PairD) (S : Nat → Prop) (key val : Int) (w : World) (H : BookS b cap xs S w) (G : Good cap xs) (hf : hasP xs key = false) (hlen : ¬ (xs.length : Int) = cap) :
    Calls Try.prog 16 #[.pointer (some ⟨b, 0, none⟩), .int .i64 2, .int .u64 key, .int .u64 val] w (DoPost b S cap w (resF false (0), xs.take (posP xs key) ++ (key, val) :: xs.drop (posP xs key))) := by
  have HB := Lib.hid (BookS.framed.alloc H (.cells #[.int .i64 0, .bool false, .int .u64 0, .bool false, .int .u64 0, .int .u64 0] 35))
  have HFI := Lib.hid (find_any b cap xs S key _ HB.out G.rising (by have := G.len; have := G.hi; omega))
  rw [hf] at HFI
  obtain ⟨v, hg, hown, hS, hvS⟩ := H
  have hvb := row_ne hg hown (by decide)
  have HW := Lib.hid hown
  have HVS := Lib.hid hvS
  have HVB := Lib.hid hvb
  obtain ⟨_, ao, c, rfl, _⟩ := hown
  have HG := Lib.hid hg
  have hb0 := heap_lt hg
  have he : ((xs.length : Int) == cap) = false := by simpa using hlen
  have hn1 : xs.length ≤ 1000 := by have := G.len; have := G.hi; omega
  have hp := posP_le xs key
  clear hf hg hvS hvb hlen G
  go_enter Try.func16, Try.ntmps16
  go_wp2_with fail
  refine HFI.out.mono ?_
  rintro e w1 ⟨rfl, ho⟩
  have HR8 := Lib.hid (ho.heap (heap_alloc_new w _) (fun h => h))
  have HO := Lib.hid ((Only.alloc (fun _ => False) w _).tr ho)
  have hg1 := HO.out.heap HG.out (fun h => h)
  have HG1 := Lib.hid hg1
  have HW1 := Lib.hid (HW.out.only HO.out (fun _ _ h => h))
  have c0 := cells_of_heap hg1 0 (.int .i64 cap) rfl
  have c1 := cells_of_heap hg1 1 (.slice ao xs.length c) rfl
  have hlb := heap_lt hg1
  have hl8 := heap_lt HR8.out
  clear ho hg1
  obtain ⟨p, hpe⟩ : ∃ p, p = posP xs key := ⟨_, rfl⟩
  rw [← hpe] at hp ⊢
  clear HFI
  have HPE := Lib.hid hpe
  clear hpe
  have hi0 : (0 : Int) ≤ (p : Int) := by omega
  go_wp2_with fail
  go_quiet (fail)
  go_wp2_with fail
  have HOW := Lib.hid (show Only (fun _ => False) w1 (((w1.alloc (.cells #[.int .i64 0, .bool false, .int .u64 0, .bool false, .int .u64 0, .int .u64 0] 35)).alloc (.cells #[.int .u64 key, .int .u64 0] 46)).drewN nq) from ((Only.alloc _ _ _).tr (Only.alloc _ _ _)).drewN nq)
  have hvb1 : (((w1.alloc (.cells #[.int .i64 0, .bool false, .int .u64 0, .bool false, .int .u64 0, .int .u64 0] 35)).alloc (.cells #[.int .u64 key, .int .u64 0] 46)).drewN nq).heap[w1.heap.size + 1]? = some (.cells #[.int .u64 (((key, 0) : PairD).1), .int .u64 (((key, 0) : PairD).2)] 46 (0, 0)) := heap_alloc2_new w1 _ _
  have hr111 : (((w1.alloc (.cells #[.int .i64 0, .bool false, .int .u64 0, .bool false, .int .u64 0, .int .u64 0] 35)).alloc (.cells #[.int .u64 key, .int .u64 0] 46)).drewN nq).heap[w1.heap.size]? = some (.cells #[.int .i64 0, .bool false, .int .u64 0, .bool false, .int .u64 0, .int .u64 0] 35 (0, 0)) := heap_alloc2_old w1 _ _
  have hsz : (((w1.alloc (.cells #[.int .i64 0, .bool false, .int .u64 0, .bool false, .int .u64 0, .int .u64 0] 35)).alloc (.cells #[.int .u64 key, .int .u64 0] 46)).drewN nq).heap.size = w1.heap.size + 2 := by
    show ((w1.alloc _).alloc _).heap.size = _
    simp
  refine (insert_any (fun k => (Value.slice ao xs.length c).ownBlock = some k) _ xs (key, 0) p _ (w1.heap.size + 1) ⟨HW1.out.only HOW.out (fun _ _ h => h), fun k hk => hk⟩ hp hn1 hvb1 (fun h => by have := (HW1.out.lt h).2; omega)).mono ?_
  rintro e w2 ⟨v', rfl, how2, ho2⟩
  have hvlt : ∀ k, (Value.slice ao xs.length c).ownBlock = some k → S k ∧ k < w.heap.size := fun k h => ⟨HVS.out k h, (HW.out.lt h).2⟩
  have hb2 := ho2.heap (HOW.out.heap HG1.out (fun h => h)) (fun h => HVB.out h)
  have hr11 := ho2.heap hr111 (fun h => by have := (hvlt _ h).2; omega)
  have hr8 := ho2.heap (HOW.out.heap HR8.out (fun h => h)) (fun h => by have := (hvlt _ h).2; omega)
  obtain ⟨hpl, hpat⟩ := ins_at xs p hp key
  have hzl : (xs.take p ++ ((key, 0) : PairD) :: xs.drop p).length = xs.length + 1 := by simp; omega
  obtain ⟨g2, off2, c2, rfl⟩ := how2.1.some_ (by omega)
  obtain ⟨g2', off2', hgo, _, hat⟩ := how2.1.at_ p hpl
  obtain ⟨rfl, rfl⟩ : g2 = g2' ∧ off2 = off2' := by simpa using hgo
  have hq : w2.cell? ⟨g2, off2 + p * 2 + 1, none⟩ = some (.int .u64 0) := by
    have h := (hat 1 (by decide)).1
    rw [hpat, ← Nat.add_assoc] at h
    exact h
  have hqz : w2.frozen? ⟨g2, off2 + p * 2 + 1, none⟩ = false := by
    have h := (hat 1 (by decide)).2
    rw [← Nat.add_assoc] at h
    exact h
  have hgb : g2 ≠ b := fun h => row_ne hb2 how2.1 (by decide) (by simp [Value.ownBlock, h])
  have hgr : g2 ≠ w1.heap.size := fun h => by
    rcases how2.2 g2 rfl with h2 | h2
    · have := (hvlt _ h2).2; omega
    · rw [hsz] at h2; omega
  have HGN := Lib.hid (show w.heap.size ≠ g2 from fun h => by
    rcases how2.2 g2 rfl with h2 | h2
    · have := (hvlt _ h2).2; omega
    · rw [hsz] at h2; omega)
  have HFIN := Lib.hid (fun W (o3 : Only (fun k => k = w1.heap.size) (w2.setCell ⟨b, 1, none⟩ (.slice (some ⟨g2, off2, none⟩) (xs.take p ++ ((key, 0) : PairD) :: xs.drop p).length c2)) W) cs =>
    ins_fin (S := S) (w := w) (m := w1.heap.size + 1) hb2 hS hb0 (OwS.framed.mono _ _ _ how2 (fun k _ h => by
      rcases h with h | h
      · exact .inl (hvlt k h)
      · rw [hsz] at h; exact .inr (by omega))) (by omega) (((HO.out.tr HOW.out).wide).trans ho2 (fun k hk e => .inl (hvlt k e))) o3 (by omega) hgr p hpl key (val) (by rw [hpat]) cs)
  have d1 := cells_of_heap hb2 1 (.slice ao xs.length c) rfl
  have z1 := frozen_of_row w2 b 1 _ _ hb2
  have HR11 := Lib.hid hr11
  have HR8' := Lib.hid hr8
  have HB2 := Lib.hid hb2
  have HQ := Lib.hid hq
  have HQZ := Lib.hid hqz
  rw [hzl] at HFIN ⊢
  clear c0 c1 hb2 hr11 hr8 how2 ho2 hat hgo hpat hpl hvlt hzl hq hqz hvb1 hr111 hsz
  go_upto_region 17 with (fail)
  obtain ⟨W3, hW3⟩ : ∃ W3, W3 = w2.setCell ⟨b, 1, none⟩ (.slice (some ⟨g2, off2, none⟩) (xs.length + 1) c2) := ⟨_, rfl⟩
  have hfin := HFIN.out
  rw [← hW3] at hfin
  have HF2 := Lib.hid hfin
  have kb : W3.heap[b]? = some (.cells #[.int .i64 cap, .slice (some ⟨g2, off2, none⟩) (xs.length + 1) c2] 69 (0, 0)) := by rw [hW3]; exact blk_set HB2.out 1 _
  have kr : W3.heap[w1.heap.size]? = some (.cells #[.int .i64 0, .bool false, .int .u64 0, .bool false, .int .u64 0, .int .u64 0] 35 (0, 0)) := by rw [hW3]; exact heap_setCell_far HR11.out _ _ _ (by omega)
  have k8 : W3.heap[w.heap.size]? = some (.cells #[.int .i64 0, .bool false, .int .u64 0, .bool false, .int .u64 0, .int .u64 0] 35 (0, 0)) := by rw [hW3]; exact heap_setCell_far HR8'.out _ _ _ (by omega)
  have hq3 : W3.cell? ⟨g2, off2 + p * 2 + 1, none⟩ = some (.int .u64 0) := by rw [hW3]; exact (World.cell?_setCell_far _ _ _ _ (fun h => hgb h.symm)).trans HQ.out
  have hz3 : W3.frozen? ⟨g2, off2 + p * 2 + 1, none⟩ = false := by rw [hW3]; simpa using HQZ.out
  simp only [← hW3]
  have f1 := cells_of_heap kb 1 (.slice (some ⟨g2, off2, none⟩) (xs.length + 1) c2) rfl
  have KR := Lib.hid kr
  have K8 := Lib.hid k8
  have f2 := cells_of_heap kr 2 (.int .u64 0) rfl
  have zr := frozen_of_row W3 w1.heap.size 2 _ _ kr
  have n1 : ¬ w1.heap.size = b := by omega
  have n2 : ¬ b = w1.heap.size := by omega
  have n3 : ¬ w1.heap.size = g2 := fun h => hgr h.symm
  have n4 : ¬ g2 = w1.heap.size := hgr
  have hi1 : (p : Int) < (xs.length : Int) + 1 := by omega
  have hi2 : p < xs.length + 1 := by omega
  clear hW3 hfin HFIN kb kr k8 d1 z1
  go_upto_region 21 with (fail)
  obtain ⟨W4, hW4⟩ : ∃ W4, W4 = W3 := ⟨_, rfl⟩
  have kr4 : W4.heap[w1.heap.size]? = some (.cells #[.int .i64 0, .bool false, .int .u64 (0), .bool false, .int .u64 0, .int .u64 0] 35 (0, 0)) := by rw [hW4]; exact KR.out
  have k84 : W4.heap[w.heap.size]? = some (.cells #[.int .i64 0, .bool false, .int .u64 0, .bool false, .int .u64 0, .int .u64 0] 35 (0, 0)) := by rw [hW4]; exact K8.out
  have o4 : Only (fun k => k = w1.heap.size) W3 W4 := by rw [hW4]; exact Only.refl _ _
  have hfin := HF2.out W4 o4
  rw [ins_set xs p hp] at hfin
  obtain ⟨W5, hW5⟩ : ∃ W5, W5 = W4.setCell ⟨g2, off2 + p * 2 + 1, none⟩ (.int .u64 (val)) := ⟨_, rfl⟩
  have hr11 := heap_setCell_far kr4 g2 (off2 + p * 2 + 1) (.int .u64 (val)) n3
  have hr8 := heap_setCell_far k84 g2 (off2 + p * 2 + 1) (.int .u64 (val)) HGN.out
  rw [← hW5] at hr11 hr8 hfin
  rw [← hW4, ← hW5]
  have e0 := cells_of_heap hr11 0 (.int .i64 0) rfl
  have e1 := cells_of_heap hr11 1 (.bool false) rfl
  have e2 := cells_of_heap hr11 2 (.int .u64 (0)) rfl
  have e3 := cells_of_heap hr11 3 (.bool false) rfl
  have e4 := cells_of_heap hr11 4 (.int .u64 0) rfl
  have e5 := cells_of_heap hr11 5 (.int .u64 0) rfl
  have HF3 := Lib.hid hfin
  have HR83 := Lib.hid hr8
  clear hW4 hW5 hr11 hr8 kr4 k84 hfin o4 f1 f2 zr hq3 hz3
  go_wp2_with (refine wpList_store_row rfl 35 (.tmp 8) (.tmp 105) rfl w.heap.size _ rfl rfl 35 _ HR83.out (by kernel_rfl) rfl (res_one _ _ _ _ _ _) ?_)
  refine bodyPost_ret (results_cell_row rfl _ _ w.heap.size _ _ _ _ rfl (setRow_heap _ _ _ _ _ _ HR83.out) Try.underlying35 rfl (by kernel_rfl)) rfl ?_
  refine ⟨rfl, ?_⟩
  have h := HF3.out #[.int .i64 0, .bool false, .int .u64 (0), .bool false, .int .u64 0, .int .u64 0]
  rw [HPE.out] at h
  exact h

set_option maxRecDepth 100000 in
set_option maxHeartbeats 4000000 in
theorem do_add_no (b : Nat) (cap : Int) (xs : List PairD) (S : Nat → Prop) (key val : Int) (w : World) (H : BookS b cap xs S w) (G : Good cap xs) (hf : hasP xs key = false) (hlen : ¬ (xs.length : Int) = cap) :
    Calls Try.prog 16 #[.pointer (some ⟨b, 0, none⟩), .int .i64 4, .int .u64 key, .int .u64 val] w (DoPost b S cap w (resF false (add64 0 val), xs.take (posP xs key) ++ (key, add64 0 val) :: xs.drop (posP xs key))) := by
  have HB := Lib.hid (BookS.framed.alloc H (.cells #[.int .i64 0, .bool false, .int .u64 0, .bool false, .int .u64 0, .int .u64 0] 35))
  have HFI := Lib.hid (find_any b cap xs S key _ HB.out G.rising (by have := G.len; have := G.hi; omega))
  rw [hf] at HFI
  obtain ⟨v, hg, hown, hS, hvS⟩ := H
  have hvb := row_ne hg hown (by decide)
  have HW := Lib.hid hown
  have HVS := Lib.hid hvS
  have HVB := Lib.hid hvb
  obtain ⟨_, ao, c, rfl, _⟩ := hown
  have HG := Lib.hid hg
  have hb0 := heap_lt hg
  have he : ((xs.length : Int) == cap) = false := by simpa using hlen
  have hn1 : xs.length ≤ 1000 := by have := G.len; have := G.hi; omega
  have hp := posP_le xs key
  clear hf hg hvS hvb hlen G
  go_enter Try.func16, Try.ntmps16
  go_wp2_with fail
  refine HFI.out.mono ?_
  rintro e w1 ⟨rfl, ho⟩
  have HR8 := Lib.hid (ho.heap (heap_alloc_new w _) (fun h => h))
  have HO := Lib.hid ((Only.alloc (fun _ => False) w _).tr ho)
  have hg1 := HO.out.heap HG.out (fun h => h)
  have HG1 := Lib.hid hg1
  have HW1 := Lib.hid (HW.out.only HO.out (fun _ _ h => h))
  have c0 := cells_of_heap hg1 0 (.int .i64 cap) rfl
  have c1 := cells_of_heap hg1 1 (.slice ao xs.length c) rfl
  have hlb := heap_lt hg1
  have hl8 := heap_lt HR8.out
  clear ho hg1
  obtain ⟨p, hpe⟩ : ∃ p, p = posP xs key := ⟨_, rfl⟩
  rw [← hpe] at hp ⊢
  clear HFI
  have HPE := Lib.hid hpe
  clear hpe
  have hi0 : (0 : Int) ≤ (p : Int) := by omega
  go_wp2_with fail
  go_quiet (fail)
  go_wp2_with fail
  have HOW := Lib.hid (show Only (fun _ => False) w1 (((w1.alloc (.cells #[.int .i64 0, .bool false, .int .u64 0, .bool false, .int .u64 0, .int .u64 0] 35)).alloc (.cells #[.int .u64 key, .int .u64 0] 46)).drewN nq) from ((Only.alloc _ _ _).tr (Only.alloc _ _ _)).drewN nq)
  have hvb1 : (((w1.alloc (.cells #[.int .i64 0, .bool false, .int .u64 0, .bool false, .int .u64 0, .int .u64 0] 35)).alloc (.cells #[.int .u64 key, .int .u64 0] 46)).drewN nq).heap[w1.heap.size + 1]? = some (.cells #[.int .u64 (((key, 0) : PairD).1), .int .u64 (((key, 0) : PairD).2)] 46 (0, 0)) := heap_alloc2_new w1 _ _
  have hr111 : (((w1.alloc (.cells #[.int .i64 0, .bool false, .int .u64 0, .bool false, .int .u64 0, .int .u64 0] 35)).alloc (.cells #[.int .u64 key, .int .u64 0] 46)).drewN nq).heap[w1.heap.size]? = some (.cells #[.int .i64 0, .bool false, .int .u64 0, .bool false, .int .u64 0, .int .u64 0] 35 (0, 0)) := heap_alloc2_old w1 _ _
  have hsz : (((w1.alloc (.cells #[.int .i64 0, .bool false, .int .u64 0, .bool false, .int .u64 0, .int .u64 0] 35)).alloc (.cells #[.int .u64 key, .int .u64 0] 46)).drewN nq).heap.size = w1.heap.size + 2 := by
    show ((w1.alloc _).alloc _).heap.size = _
    simp
  refine (insert_any (fun k => (Value.slice ao xs.length c).ownBlock = some k) _ xs (key, 0) p _ (w1.heap.size + 1) ⟨HW1.out.only HOW.out (fun _ _ h => h), fun k hk => hk⟩ hp hn1 hvb1 (fun h => by have := (HW1.out.lt h).2; omega)).mono ?_
  rintro e w2 ⟨v', rfl, how2, ho2⟩
  have hvlt : ∀ k, (Value.slice ao xs.length c).ownBlock = some k → S k ∧ k < w.heap.size := fun k h => ⟨HVS.out k h, (HW.out.lt h).2⟩
  have hb2 := ho2.heap (HOW.out.heap HG1.out (fun h => h)) (fun h => HVB.out h)
  have hr11 := ho2.heap hr111 (fun h => by have := (hvlt _ h).2; omega)
  have hr8 := ho2.heap (HOW.out.heap HR8.out (fun h => h)) (fun h => by have := (hvlt _ h).2; omega)
  obtain ⟨hpl, hpat⟩ := ins_at xs p hp key
  have hzl : (xs.take p ++ ((key, 0) : PairD) :: xs.drop p).length = xs.length + 1 := by simp; omega
  obtain ⟨g2, off2, c2, rfl⟩ := how2.1.some_ (by omega)
  obtain ⟨g2', off2', hgo, _, hat⟩ := how2.1.at_ p hpl
  obtain ⟨rfl, rfl⟩ : g2 = g2' ∧ off2 = off2' := by simpa using hgo
  have hq : w2.cell? ⟨g2, off2 + p * 2 + 1, none⟩ = some (.int .u64 0) := by
    have h := (hat 1 (by decide)).1
    rw [hpat, ← Nat.add_assoc] at h
    exact h
  have hqz : w2.frozen? ⟨g2, off2 + p * 2 + 1, none⟩ = false := by
    have h := (hat 1 (by decide)).2
    rw [← Nat.add_assoc] at h
    exact h
  have hgb : g2 ≠ b := fun h => row_ne hb2 how2.1 (by decide) (by simp [Value.ownBlock, h])
  have hgr : g2 ≠ w1.heap.size := fun h => by
    rcases how2.2 g2 rfl with h2 | h2
    · have := (hvlt _ h2).2; omega
    · rw [hsz] at h2; omega
  have HGN := Lib.hid (show w.heap.size ≠ g2 from fun h => by
    rcases how2.2 g2 rfl with h2 | h2
    · have := (hvlt _ h2).2; omega
    · rw [hsz] at h2; omega)
  have HFIN := Lib.hid (fun W (o3 : Only (fun k => k = w1.heap.size) (w2.setCell ⟨b, 1, none⟩ (.slice (some ⟨g2, off2, none⟩) (xs.take p ++ ((key, 0) : PairD) :: xs.drop p).length c2)) W) cs =>
    ins_fin (S := S) (w := w) (m := w1.heap.size + 1) hb2 hS hb0 (OwS.framed.mono _ _ _ how2 (fun k _ h => by
      rcases h with h | h
      · exact .inl (hvlt k h)
      · rw [hsz] at h; exact .inr (by omega))) (by omega) (((HO.out.tr HOW.out).wide).trans ho2 (fun k hk e => .inl (hvlt k e))) o3 (by omega) hgr p hpl key (IntKind.u64.wrap val) (by rw [hpat]) cs)
  have d1 := cells_of_heap hb2 1 (.slice ao xs.length c) rfl
  have z1 := frozen_of_row w2 b 1 _ _ hb2
  have HR11 := Lib.hid hr11
  have HR8' := Lib.hid hr8
  have HB2 := Lib.hid hb2
  have HQ := Lib.hid hq
  have HQZ := Lib.hid hqz
  rw [hzl] at HFIN ⊢
  clear c0 c1 hb2 hr11 hr8 how2 ho2 hat hgo hpat hpl hvlt hzl hq hqz hvb1 hr111 hsz
  go_upto_region 17 with (fail)
  obtain ⟨W3, hW3⟩ : ∃ W3, W3 = w2.setCell ⟨b, 1, none⟩ (.slice (some ⟨g2, off2, none⟩) (xs.length + 1) c2) := ⟨_, rfl⟩
  have hfin := HFIN.out
  rw [← hW3] at hfin
  have HF2 := Lib.hid hfin
  have kb : W3.heap[b]? = some (.cells #[.int .i64 cap, .slice (some ⟨g2, off2, none⟩) (xs.length + 1) c2] 69 (0, 0)) := by rw [hW3]; exact blk_set HB2.out 1 _
  have kr : W3.heap[w1.heap.size]? = some (.cells #[.int .i64 0, .bool false, .int .u64 0, .bool false, .int .u64 0, .int .u64 0] 35 (0, 0)) := by rw [hW3]; exact heap_setCell_far HR11.out _ _ _ (by omega)
  have k8 : W3.heap[w.heap.size]? = some (.cells #[.int .i64 0, .bool false, .int .u64 0, .bool false, .int .u64 0, .int .u64 0] 35 (0, 0)) := by rw [hW3]; exact heap_setCell_far HR8'.out _ _ _ (by omega)
  have hq3 : W3.cell? ⟨g2, off2 + p * 2 + 1, none⟩ = some (.int .u64 0) := by rw [hW3]; exact (World.cell?_setCell_far _ _ _ _ (fun h => hgb h.symm)).trans HQ.out
  have hz3 : W3.frozen? ⟨g2, off2 + p * 2 + 1, none⟩ = false := by rw [hW3]; simpa using HQZ.out
  simp only [← hW3]
  have f1 := cells_of_heap kb 1 (.slice (some ⟨g2, off2, none⟩) (xs.length + 1) c2) rfl
  have KR := Lib.hid kr
  have K8 := Lib.hid k8
  have f2 := cells_of_heap kr 2 (.int .u64 0) rfl
  have zr := frozen_of_row W3 w1.heap.size 2 _ _ kr
  have n1 : ¬ w1.heap.size = b := by omega
  have n2 : ¬ b = w1.heap.size := by omega
  have n3 : ¬ w1.heap.size = g2 := fun h => hgr h.symm
  have n4 : ¬ g2 = w1.heap.size := hgr
  have hi1 : (p : Int) < (xs.length : Int) + 1 := by omega
  have hi2 : p < xs.length + 1 := by omega
  clear hW3 hfin HFIN kb kr k8 d1 z1
  go_upto_region 21 with (fail)
  obtain ⟨W4, hW4⟩ : ∃ W4, W4 = W3.setCell ⟨w1.heap.size, 2, none⟩ (.int .u64 (IntKind.u64.wrap val)) := ⟨_, rfl⟩
  have kr4 : W4.heap[w1.heap.size]? = some (.cells #[.int .i64 0, .bool false, .int .u64 (IntKind.u64.wrap val), .bool false, .int .u64 0, .int .u64 0] 35 (0, 0)) := by rw [hW4]; exact heap_setCell_same W3 w1.heap.size 2 _ _ _ KR.out
  have k84 : W4.heap[w.heap.size]? = some (.cells #[.int .i64 0, .bool false, .int .u64 0, .bool false, .int .u64 0, .int .u64 0] 35 (0, 0)) := by rw [hW4]; exact heap_setCell_far K8.out _ _ _ (by omega)
  have o4 : Only (fun k => k = w1.heap.size) W3 W4 := by rw [hW4]; exact Only.setCell _ _ _ _ _ rfl
  have hfin := HF2.out W4 o4
  rw [ins_set xs p hp] at hfin
  obtain ⟨W5, hW5⟩ : ∃ W5, W5 = W4.setCell ⟨g2, off2 + p * 2 + 1, none⟩ (.int .u64 (IntKind.u64.wrap val)) := ⟨_, rfl⟩
  have hr11 := heap_setCell_far kr4 g2 (off2 + p * 2 + 1) (.int .u64 (IntKind.u64.wrap val)) n3
  have hr8 := heap_setCell_far k84 g2 (off2 + p * 2 + 1) (.int .u64 (IntKind.u64.wrap val)) HGN.out
  rw [← hW5] at hr11 hr8 hfin
  rw [← hW4, ← hW5]
  have e0 := cells_of_heap hr11 0 (.int .i64 0) rfl
  have e1 := cells_of_heap hr11 1 (.bool false) rfl
  have e2 := cells_of_heap hr11 2 (.int .u64 (IntKind.u64.wrap val)) rfl
  have e3 := cells_of_heap hr11 3 (.bool false) rfl
  have e4 := cells_of_heap hr11 4 (.int .u64 0) rfl
  have e5 := cells_of_heap hr11 5 (.int .u64 0) rfl
  have HF3 := Lib.hid hfin
  have HR83 := Lib.hid hr8
  clear hW4 hW5 hr11 hr8 kr4 k84 hfin o4 f1 f2 zr hq3 hz3
  go_wp2_with (refine wpList_store_row rfl 35 (.tmp 8) (.tmp 105) rfl w.heap.size _ rfl rfl 35 _ HR83.out (by kernel_rfl) rfl (res_one _ _ _ _ _ _) ?_)
  refine bodyPost_ret (results_cell_row rfl _ _ w.heap.size _ _ _ _ rfl (setRow_heap _ _ _ _ _ _ HR83.out) Try.underlying35 rfl (by kernel_rfl)) rfl ?_
  refine ⟨by simp [resF, add64], ?_⟩
  have h := HF3.out #[.int .i64 0, .bool false, .int .u64 (IntKind.u64.wrap val), .bool false, .int .u64 0, .int .u64 0]
  rw [HPE.out] at h
  simpa [add64] using h
end Go.Proofs.Ytodacnpbhlkoiaa
