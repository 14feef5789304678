/- the chapters below, merged: MG -/
import Derived.Test.YtdlkblklfoagbaaME
import Derived.Test.YtdlkblklfoagbaaMF
import Derived.Test.YtdlkblklfoagbaaMA
import Derived.Deep.RegionLaw
import Derived.Deep.RegionHeld3
import Derived.Deep.DeepCutAuto
import Derived.Deep.CutBlock
import Derived.StillTailTactics
namespace Go.Proofs.Ytdlkblklfoagbaa
open Go.RowKit
set_option linter.unusedVariables false
set_option linter.unusedSimpArgs false

abbrev eI64 : Enc Int := eInt .i64
theorem eI64_at (xs : List Int) (i : Nat) (h : i < xs.length) : (eI64.all xs)[i]? = some (.int .i64 xs[i]) := eInt_at _ xs i h
theorem eI64_sl : SliceInfo Try.prog 69 3 eI64.size 8 := SliceInfo.mk' Try.underlying69 (z := .int .i64 0) (by kernel_rfl) rfl
/-- the document's LRU's own block: keys and when, as pairs; its clock -/
def RefOv (rg bx : Nat) (vk vw : Value) (ps : List (Int × Int)) (clk : Int) (S : Nat → Prop) (w : World) : Prop :=
  w.heap[rg]? = some (.cells #[.pointer (some ⟨bx, 0, none⟩), vk, vw, .int .i64 clk] 95 (0, 0)) ∧ OwS eU64 33 S w vk (ps.map (·.1)) ∧ OwS eI64 3 S w vw (ps.map (·.2)) ∧ S rg
theorem RefOv.framed {rg bx : Nat} {vk vw : Value} {ps : List (Int × Int)} {clk : Int} : Framed (RefOv rg bx vk vw ps clk) where
  only S F w w' h ho hn := ⟨ho.heap h.1 (hn _ (heap_lt h.1) h.2.2.2), OwS.framed.only _ _ _ _ h.2.1 ho hn, OwS.framed.only _ _ _ _ h.2.2.1 ho hn, h.2.2.2⟩
  mono S S' w h hs := ⟨h.1, OwS.framed.mono _ _ _ h.2.1 hs, OwS.framed.mono _ _ _ h.2.2.1 hs, hs _ (heap_lt h.1) h.2.2.2⟩
def RefO (rg bx : Nat) (ps : List (Int × Int)) (clk : Int) (S : Nat → Prop) (w : World) : Prop := ∃ vk vw, RefOv rg bx vk vw ps clk S w
theorem RefO.framed {rg bx : Nat} {ps : List (Int × Int)} {clk : Int} : Framed (RefO rg bx ps clk) := Framed.ex fun _ => Framed.ex fun _ => RefOv.framed
theorem RefOv.cells {rg bx : Nat} {vk vw : Value} {ps : List (Int × Int)} {clk : Int} {S : Nat → Prop} {w : World} (h : RefOv rg bx vk vw ps clk S w) :
    w.cell? ⟨rg, 0, none⟩ = some (.pointer (some ⟨bx, 0, none⟩)) ∧ w.cell? ⟨rg, 1, none⟩ = some vk ∧ w.cell? ⟨rg, 2, none⟩ = some vw ∧ w.cell? ⟨rg, 3, none⟩ = some (.int .i64 clk) ∧ (∀ i, w.frozen? ⟨rg, i, none⟩ = false) ∧ rg < w.heap.size :=
  ⟨blk_cell h.1 0, blk_cell h.1 1, blk_cell h.1 2, blk_cell h.1 3, blk_free h.1, heap_lt h.1⟩
/-- its two slices are set -/
theorem RefOv.set2 {rg bx : Nat} {vk vw vk' vw' : Value} {ps ps' : List (Int × Int)} {clk : Int} {S : Nat → Prop} {w w2 : World}
    (h : Upd (Sep (fun S w => OwS eU64 33 S w vk' (ps'.map (·.1))) (Sep (fun S w => OwS eI64 3 S w vw' (ps'.map (·.2))) (RefOv rg bx vk vw ps clk))) S w w2) :
    Upd (RefO rg bx ps' clk) S w ((w2.setCell ⟨rg, 1, none⟩ vk').setCell ⟨rg, 2, none⟩ vw') := by
  have h1 := h.1.left OwS.framed
  have h23 := h.1.right (Sep.framed OwS.framed RefOv.framed)
  have h2 := h23.left OwS.framed
  have h3 := h23.right RefOv.framed
  have o1 := Only.setCell (fun k => k = rg) w2 rg 1 vk' rfl
  have o2 := Only.setCell (fun k => k = rg) (w2.setCell ⟨rg, 1, none⟩ vk') rg 2 vw' rfl
  have o := o1.tr o2
  refine ⟨⟨vk', vw', blk_set (blk_set h3.1 1 vk') 2 vw', ?_, ?_, h3.2.2.2⟩, h.2.trans o fun j hj e => ?_⟩
  · exact ⟨h1.1.only o fun k hk e => row_ne h3.1 h1.1 (by decide) (by rw [hk, e]), h1.2⟩
  · exact ⟨h2.1.only o fun k hk e => row_ne h3.1 h2.1 (by decide) (by rw [hk, e]), h2.2⟩
  · subst e
    rcases h3.2.2.2 with h | h
    · exact h
    · omega
def forgetP (ps : List (Int × Int)) (key : Int) : List (Int × Int) := ps.filter fun p => p.1 != key
theorem forget_skip {ps : List (Int × Int)} {key : Int} {j : Nat} (h : j < ps.length) (e : ps[j].1 = key) : forgetP (ps.take (j + 1)) key = forgetP (ps.take j) key := by
  unfold forgetP
  rw [List.take_succ_eq_append_getElem h, List.filter_append]; simp [e]
theorem forget_put {ps : List (Int × Int)} {key : Int} {j : Nat} (h : j < ps.length) (e : ps[j].1 ≠ key) : forgetP (ps.take (j + 1)) key = forgetP (ps.take j) key ++ [ps[j]] := by
  unfold forgetP
  rw [List.take_succ_eq_append_getElem h, List.filter_append]; simp [e]
theorem map_len1 (ps : List (Int × Int)) : (ps.map (·.1)).length = ps.length := by simp
theorem map_len2 (ps : List (Int × Int)) : (ps.map (·.2)).length = ps.length := by simp
set_option maxRecDepth 100000 in
set_option maxHeartbeats 2000000 in
theorem forget_any (rg bx : Nat) (ps : List (Int × Int)) (clk key : Int) (S : Nat → Prop) (w : World) (H : RefO rg bx ps clk S w) (hn : ps.length ≤ 100) :
    Calls Try.prog 37 #[.pointer (some ⟨rg, 0, none⟩), .int .u64 key] w fun e w' => e = .returned (.tuple #[]) ∧ Upd (RefO rg bx (forgetP ps key) clk) S w w' := by
  obtain ⟨vk, vw, H⟩ := H
  have HU := Lib.hid (Upd.refl RefOv.framed H)
  have hk1 := H.2.1.rd
  have hk2 := H.2.2.1.rd
  obtain ⟨_, ak, ck, rfl, _, _, _⟩ := hk1
  obtain ⟨_, aw, cw, rfl, _, _, _⟩ := hk2
  rw [map_len1] at HU H
  rw [map_len2] at HU H
  obtain ⟨q0, q1, q2, q3, qf, hgl⟩ := H.cells
  clear H qf
  go_enter Try.func37, Try.ntmps37
  go_wp2_with fail
  go_loopw [4, 5, 6] (fun t4 t5 t6 wr => ∃ (j : Nat) (qs : List (Int × Int)) (a1 a2 : Option Addr) (c1 c2 : Nat), j ≤ ps.length ∧ qs.length ≤ j ∧ t6 = .int .i64 j ∧ t4 = .slice a1 qs.length c1 ∧ t5 = .slice a2 qs.length c2 ∧ Hid (qs = forgetP (ps.take j) key) ∧
    Hid (Upd (Sep (fun S w => OwS eU64 33 S w (.slice a1 qs.length c1) (qs.map (·.1))) (Sep (fun S w => OwS eI64 3 S w (.slice a2 qs.length c2) (qs.map (·.2))) (RefOv rg bx (.slice ak ps.length ck) (.slice aw ps.length cw) ps clk))) S w wr)) (fun _ _ t6 _ => ps.length - (intOf t6).toNat)
  case atStart => exact ⟨0, [], none, none, 0, 0, Nat.zero_le _, Nat.le_refl _, rfl, rfl, rfl, Lib.hid rfl, Lib.hid (HU.out.imp fun T h => Sep.nilL (E := eU64) (ty := 33) (Sep.nilL (E := eI64) (ty := 3) h))⟩
  case round =>
    clear HU q0 q1 q2 q3
    obtain ⟨j, qs, a1, a2, c1, c2, hj, hql, rfl, rfl, rfl, HX, HQ⟩ := hrel
    obtain ⟨_, h23⟩ := HQ.out.getR
    have h3 := h23.right RefOv.framed
    obtain ⟨q0, q1, q2, q3, qf, hgl2⟩ := h3.cells
    have HK := Lib.hid h3.2.1.rd
    clear h23 qf
    by_cases hjl : j < ps.length
    · obtain ⟨_, ao', c', hao, _, _, hx⟩ := HK.out
      obtain ⟨rfl, -, rfl⟩ : ak = ao' ∧ ps.length = (ps.map (·.1)).length ∧ ck = c' := by simpa using hao
      obtain ⟨kb, ko, rfl, hc⟩ := hx (by rw [map_len1]; omega)
      have f0 := hc j _ (eU64_at _ j (by rw [map_len1]; exact hjl))
      rw [List.getElem_map] at f0
      have hm0 : (0 : Int) ≤ (j : Int) := by omega
      have hm1 : (j : Int) < (ps.length : Int) := by omega
      have HS := Lib.hid (show (ps[j].1 = key → forgetP (ps.take (j + 1)) key = forgetP (ps.take j) key) ∧ (ps[j].1 ≠ key → forgetP (ps.take (j + 1)) key = forgetP (ps.take j) key ++ [(ps[j].1, ps[j].2)]) from ⟨forget_skip hjl, forget_put hjl⟩)
      clear hc hx hao
      obtain ⟨_, ao', c', hao, _, _, hx⟩ := h3.2.2.1.rd
      obtain ⟨rfl, -, rfl⟩ : aw = ao' ∧ ps.length = (ps.map (·.2)).length ∧ cw = c' := by simpa using hao
      obtain ⟨wb, wo, rfl, hc⟩ := hx (by rw [map_len2]; omega)
      have HKW := Lib.hid (fun (W : World) (T : Nat → Prop) (h : RefOv rg bx (.slice (some ⟨kb, ko, none⟩) ps.length ck) (.slice (some ⟨wb, wo, none⟩) ps.length cw) ps clk T W) => show W.cell? ⟨wb, wo + j, none⟩ = some (.int .i64 ps[j].2) from by
        obtain ⟨_, ao', c', hao, _, _, hx⟩ := h.2.2.1.rd
        obtain ⟨hab, -, -⟩ : some (⟨wb, wo, none⟩ : Addr) = ao' ∧ ps.length = (ps.map (·.2)).length ∧ cw = c' := by simpa using hao
        obtain ⟨sb, off, hso, hc⟩ := hx (by rw [map_len2]; omega)
        obtain ⟨rfl, rfl⟩ : wb = sb ∧ wo = off := by rw [hso] at hab; simpa using hab
        have f0 := hc j _ (eI64_at _ j (by rw [map_len2]; exact hjl))
        rw [List.getElem_map] at f0
        exact f0)
      clear hc hx hao h3
      generalize ps[j].1 = p0 at *
      generalize ps[j].2 = p1 at *
      by_cases hpk : p0 = key
      · have hpb : (p0 != key) = false := by simpa using hpk
        have HS2 := Lib.hid (HX.out.trans (HS.out.1 hpk).symm)
        clear hpk
        go_wp2_with fail
        go_roundw
        case rel => exact ⟨j + 1, qs, a1, a2, c1, c2, by omega, by omega, by go_num, rfl, rfl, HS2, HQ⟩
        case measure => simp [intOf]; omega
      · have hpb : (p0 != key) = true := by simpa using hpk
        have HS2 := Lib.hid (show qs ++ [(p0, p1)] = forgetP (ps.take (j + 1)) key by rw [HX.out]; exact (HS.out.2 hpk).symm)
        have HLN := Lib.hid (show (qs ++ [(p0, p1)]).length = qs.length + 1 by simp)
        have HQ2 := Lib.hid (HQ.out.fresh (Sep.framed OwS.framed (Sep.framed OwS.framed RefOv.framed)) (Only.alloc (fun _ => False) _ (.cells #[.int .u64 p0] 33)))
        obtain ⟨A, hA, hbk⟩ := HQ2.out.call (Sep.framed OwS.framed RefOv.framed) OwS.framed
        have HA := Lib.hid hA
        have HB := Lib.hid hbk
        have HRL := Lib.hid (Rd.lit (E := eU64) wr #[.int .u64 p0] 33 (0, 0) 1 1 [p0] rfl rfl (by simp) (by simp [maxLen]))
        have HML := Lib.hid (map_len1 qs)
        clear hA hbk hpk
        go_wp2_with (at_builtin; refine wl_appendS (E := eU64) rfl _ (.tmp 33) _ rfl 33 8 eU64_sl A _ (qs.map (fun p : Int × Int => p.1)) rfl HA.out _ [p0] rfl HRL.out (by rw [HML.out]; simp only [List.length_cons, List.length_nil]; omega) (by rw [HML.out]; unfold maxLen; simp only [List.length_cons, List.length_nil]; omega) ?_)
        intro va wa ha hOa
        have HQ3 := Lib.hid (HB.out (fun S w => OwS eU64 33 S w va (qs.map (·.1) ++ [p0])) wa OwS.framed ⟨OwS.framed.mono _ _ _ ha fun k _ h => h.imp id fun h => by simpa using h, hOa⟩)
        obtain ⟨_, xo1, xc1, rfl, _⟩ := id ha.1
        obtain ⟨_, h23⟩ := HQ3.out.getR
        have h3 := h23.right RefOv.framed
        obtain ⟨q0, q1, q2, q3, qf, hgl2⟩ := h3.cells
        have f1 := HKW.out _ _ h3
        have HL1 := Lib.hid (show (qs.map (·.1) ++ [p0]).length = qs.length + 1 by simp)
        have HQ4 := Lib.hid (HQ3.out.turn.fresh (Sep.framed OwS.framed (Sep.framed OwS.framed RefOv.framed)) (Only.alloc (fun _ => False) _ (.cells #[.int .i64 p1] 3)))
        obtain ⟨A2, hA, hbk⟩ := HQ4.out.call (Sep.framed OwS.framed RefOv.framed) OwS.framed
        have HA2 := Lib.hid hA
        have HB2 := Lib.hid hbk
        have HRL2 := Lib.hid (Rd.lit (E := eI64) wa #[.int .i64 p1] 3 (0, 0) 1 1 [p1] rfl rfl (by simp) (by simp [maxLen]))
        have HML2 := Lib.hid (map_len2 qs)
        clear ha hOa HB HA HQ2 HRL h23 h3 qf hA hbk HQ3
        go_wp2_with (at_builtin; refine wl_appendS (E := eI64) rfl _ (.tmp 43) _ rfl 3 8 eI64_sl A2 _ (qs.map (fun p : Int × Int => p.2)) rfl HA2.out _ [p1] rfl HRL2.out (by rw [HML2.out]; simp only [List.length_cons, List.length_nil]; omega) (by rw [HML2.out]; unfold maxLen; simp only [List.length_cons, List.length_nil]; omega) ?_)
        intro vb wb2 ha hOa
        have HQ5 := Lib.hid ((HB2.out (fun S w => OwS eI64 3 S w vb (qs.map (·.2) ++ [p1])) wb2 OwS.framed ⟨OwS.framed.mono _ _ _ ha fun k _ h => h.imp id fun h => by simpa using h, hOa⟩).turn)
        obtain ⟨_, xo2, xc2, rfl, _⟩ := id ha.1
        have HL2 := Lib.hid (show (qs.map (·.2) ++ [p1]).length = qs.length + 1 by simp)
        clear ha hOa HB2 HA2 HQ4 HRL2
        go_wp2_with fail
        go_roundw
        case rel => exact ⟨j + 1, qs ++ [(p0, p1)], xo1, xo2, xc1, xc2, by omega, by rw [HLN.out]; omega, by go_num, by simp, by simp, HS2, Lib.hid (by
          have h := HQ5.out
          try rw [HL1.out] at h
          try rw [HL2.out] at h
          rw [HLN.out, List.map_append, List.map_append]; exact h)⟩
        case measure => simp [intOf]; omega
    · obtain rfl : j = ps.length := by omega
      have HX2 := Lib.hid (show qs = forgetP ps key by have := HX.out; rwa [List.take_length] at this)
      have z1 := blk_free h3.1 1
      have z2 := blk_free h3.1 2
      have HF := Lib.hid (RefOv.set2 HQ.out)
      clear h3 HX HQ
      go_wp2_with fail
      go_end0
      exact ⟨rfl, by rw [← HX2.out]; exact HF.out⟩

/-- the document's keys are the order backwards, their times rise -/
structure RA (od : List Int) (ps : List (Int × Int)) (clk : Int) : Prop where
  keys : ps.map (·.1) = od.reverse
  up : (ps.map (·.2)).Pairwise (· < ·)
  time : ∀ p ∈ ps, 1 ≤ p.2 ∧ p.2 ≤ clk
theorem RA.len {od : List Int} {ps : List (Int × Int)} {clk : Int} (h : RA od ps clk) : ps.length = od.length := by
  have := congrArg List.length h.keys
  simpa using this
theorem RA.forget {od : List Int} {ps : List (Int × Int)} {clk : Int} (h : RA od ps clk) (k : Int) : RA (dropK od k) (forgetP ps k) clk := by
  refine ⟨?_, ?_, fun p hp => h.time p (List.mem_filter.1 hp).1⟩
  · have e : (forgetP ps k).map (·.1) = (ps.map (·.1)).filter (fun x => x != k) := by
      unfold forgetP
      rw [List.filter_map]; rfl
    rw [e, h.keys, List.filter_reverse]; rfl
  · have hs : ((forgetP ps k).map (·.2)).Sublist (ps.map (·.2)) := List.Sublist.map _ List.filter_sublist
    exact h.up.sublist hs
theorem RA.touch {od : List Int} {ps : List (Int × Int)} {clk : Int} (h : RA od ps clk) (h0 : 0 ≤ clk) (k : Int) : RA (k :: dropK od k) (forgetP ps k ++ [(k, clk + 1)]) (clk + 1) := by
  have hf := h.forget k
  refine ⟨?_, ?_, fun p hp => ?_⟩
  · rw [List.map_append, hf.keys, List.reverse_cons]; rfl
  · rw [List.map_append, List.pairwise_append]
    refine ⟨hf.up, by simp, fun a ha b hb => ?_⟩
    obtain ⟨p, hp, rfl⟩ := List.mem_map.1 ha
    have := (hf.time p hp).2
    have hb' : b = clk + 1 := by simpa using hb
    omega
  · rcases List.mem_append.1 hp with hp | hp
    · have := hf.time p hp; omega
    · obtain rfl : p = (k, clk + 1) := by simpa using hp
      dsimp only; omega
theorem RA.last {od : List Int} {ps : List (Int × Int)} {clk : Int} (h : RA od ps clk) (h0 : 0 < od.length) : ∃ hp : 0 < ps.length, ps[0].1 = lastP od := by
  have hl := h.len
  refine ⟨by omega, ?_⟩
  have e : (ps.map (·.1))[0]? = od.reverse[0]? := by rw [h.keys]
  rw [List.getElem?_eq_getElem (by simp; omega), List.getElem?_eq_getElem (by simp; omega), List.getElem_map, List.getElem_reverse] at e
  rw [last_at h0]
  exact Option.some.inj e
theorem RA.min {od : List Int} {ps : List (Int × Int)} {clk : Int} (h : RA od ps clk) (i : Nat) (hi : i < ps.length) : ¬ ps[i].2 < ps[0].2 := by
  have hp := List.pairwise_iff_getElem.1 h.up
  by_cases e : i = 0
  · subst e; omega
  · have := hp 0 i (by simp; omega) (by simp; omega) (by omega)
    simp at this; omega

theorem doP_shape (cap : Int) (xs : List PairD) (op k v : Int) : ∃ r0 r1 r2 ys, doP cap xs op k v = ((r0, r1, r2, false, 0, 0), ys) := by
  unfold doP resF resE
  split
  · exact ⟨_, _, _, _, rfl⟩
  split
  · exact ⟨_, _, _, _, rfl⟩
  split
  · exact ⟨_, _, _, _, rfl⟩
  split
  · split <;> exact ⟨_, _, _, _, rfl⟩
  split
  · split <;> exact ⟨_, _, _, _, rfl⟩
  · exact ⟨_, _, _, _, rfl⟩
/-- what the document's Do makes of order and times -/
theorem ref_law {cap : Int} {s : List PairD × List Int} {op key val clk : Int} {ps ps1 : List (Int × Int)} {xs1 : List PairD} {x3 : Bool} {x4 x5 : Int} (G : LGood cap s) (HA : RA s.2 ps clk)
    (hx : (x3, x4, x5, ps1, xs1) = if isFull cap s.1 op key then (true, lastP s.2, oldP s.1 (lastP s.2), forgetP ps (lastP s.2), delP s.1 (lastP s.2)) else (false, 0, 0, ps, s.1)) :
    ∃ r0 r1 r2 ys od1, doP cap xs1 op key val = ((r0, r1, r2, false, 0, 0), ys) ∧ lruP cap s op key val = ((r0, r1, r2, x3, x4, x5), (ys, if ((decide (op = 2) || decide (op = 4)) || (decide (op = 0) && hasP s.1 key)) then key :: dropK od1 key else if op = 3 then dropK od1 key else od1)) ∧ RA od1 ps1 clk ∧ od1.length ≤ 16 := by
  have hlen : s.2.length ≤ 16 := by have := G.len; have := G.good.len; have := G.good.hi; omega
  by_cases hF : isFull cap s.1 op key = true
  · rw [if_pos hF] at hx
    simp only [Prod.mk.injEq] at hx
    obtain ⟨rfl, rfl, rfl, rfl, rfl⟩ := hx
    obtain ⟨hop, _, _⟩ := full_has hF
    obtain ⟨_, _, _, _, _, _, _, hd⟩ := evict_do (v := val) G hF
    refine ⟨_, _, _, _, dropK s.2 (lastP s.2), hd, ?_, HA.forget _, Nat.le_trans (List.length_filter_le _ _) hlen⟩
    have e : lruP cap s op key val = _ := if_pos hF
    have hb : ((decide (op = 2) || decide (op = 4)) || (decide (op = 0) && hasP s.1 key)) = true := by rcases hop with rfl | rfl <;> simp
    rw [e, hb]; rfl
  · rw [if_neg hF] at hx
    simp only [Prod.mk.injEq] at hx
    obtain ⟨rfl, rfl, rfl, rfl, rfl⟩ := hx
    obtain ⟨r0, r1, r2, ys, hd⟩ := doP_shape cap s.1 op key val
    refine ⟨r0, r1, r2, ys, s.2, hd, ?_, HA, hlen⟩
    have e : lruP cap s op key val = _ := if_neg hF
    rw [e, hd]
    have hcode := doP_code (v := val) (show isFull cap s.1 op key = false by simpa using hF)
    rw [hd] at hcode
    dsimp only at hcode ⊢
    congr 2
    unfold ordP touches
    rcases hcode with h | h
    · rw [if_pos h]
    · have hne : ¬ op = 0 ∧ ¬ op = 2 ∧ ¬ op = 3 ∧ ¬ op = 4 := by
        refine ⟨?_, ?_, ?_, ?_⟩
        · rintro rfl
          have : doP cap s.1 0 key val = (resF (hasP s.1 key) (oldP s.1 key), s.1) := rfl
          rw [this] at hd; simp [resF] at hd; omega
        · rintro rfl
          have hfu : full cap s.1 key = false := by unfold isFull at hF; simpa using hF
          have : doP cap s.1 2 key val = (resF (hasP s.1 key) (oldP s.1 key), putP s.1 key val) := by unfold doP; simp [hfu]
          rw [this] at hd; simp [resF] at hd; omega
        · rintro rfl
          have : doP cap s.1 3 key val = (resF (hasP s.1 key) (oldP s.1 key), delP s.1 key) := rfl
          rw [this] at hd; simp [resF] at hd; omega
        · rintro rfl
          have hfu : full cap s.1 key = false := by unfold isFull at hF; simpa using hF
          have : doP cap s.1 4 key val = (resF (hasP s.1 key) (add64 (oldP s.1 key) val), putP s.1 key (add64 (oldP s.1 key) val)) := by unfold doP; simp [hfu]
          rw [this] at hd; simp [resF] at hd; omega
      rw [if_neg (by omega)]
      simp [hne]

/-- the document's book, its pairs in any order -/
def RefB (bx : Nat) (cap : Int) (xs : List PairD) (S : Nat → Prop) (w : World) : Prop := ∃ L, Alike cap xs L ∧ RefS bx cap L S w
theorem RefB.framed {bx : Nat} {cap : Int} {xs : List PairD} : Framed (RefB bx cap xs) := Framed.ex fun _ => Framed.and (Framed.pure _) RefS.framed
theorem refBDo_ {bx : Nat} {cap : Int} {xs ys : List PairD} {T : Nat → Prop} {w : World} (hT : RefB bx cap xs T w) {op key val : Int} {r : ResD} (hd : doP cap xs op key val = (r, ys)) :
    Calls Try.prog 36 #[.pointer (some ⟨bx, 0, none⟩), .int .i64 op, .int .u64 key, .int .u64 val] w fun e w' => e = .returned (.agg #[.int .i64 r.1, .bool r.2.1, .int .u64 r.2.2.1, .bool r.2.2.2.1, .int .u64 r.2.2.2.2.1, .int .u64 r.2.2.2.2.2]) ∧ Upd (RefB bx cap ys) T w w' := by
  obtain ⟨L, hA, hS⟩ := hT
  obtain ⟨L2, hA2, hc⟩ := refDo_any bx cap xs L op key val hA
  rw [hd] at hA2 hc
  exact (hc T w hS).mono fun e w' ⟨he, h1, h2⟩ => ⟨he, ⟨L2, hA2, h1⟩, h2⟩
/-- the document's LRU -/
def RefP (rg bx : Nat) (cap : Int) (ps : List (Int × Int)) (clk : Int) (xs : List PairD) : (Nat → Prop) → World → Prop := Sep (RefO rg bx ps clk) (RefB bx cap xs)
theorem RefP.framed {rg bx : Nat} {cap : Int} {ps : List (Int × Int)} {clk : Int} {xs : List PairD} : Framed (RefP rg bx cap ps clk xs) := Sep.framed RefO.framed RefB.framed
theorem RefP.do_ {rg bx : Nat} {cap : Int} {ps : List (Int × Int)} {clk : Int} {xs ys : List PairD} {T : Nat → Prop} {w : World} (hT : RefP rg bx cap ps clk xs T w) {op key val : Int} {r : ResD} (hd : doP cap xs op key val = (r, ys)) :
    Calls Try.prog 36 #[.pointer (some ⟨bx, 0, none⟩), .int .i64 op, .int .u64 key, .int .u64 val] w fun e w' => e = .returned (.agg #[.int .i64 r.1, .bool r.2.1, .int .u64 r.2.2.1, .bool r.2.2.2.1, .int .u64 r.2.2.2.2.1, .int .u64 r.2.2.2.2.2]) ∧ Upd (RefP rg bx cap ps clk ys) T w w' := by
  obtain ⟨B, hB, hb⟩ := hT.focusR RefO.framed
  exact (refBDo_ hB hd).mono fun e w' ⟨he, hu⟩ => ⟨he, hb _ w' RefB.framed hu⟩
theorem RefP.forget_ {rg bx : Nat} {cap : Int} {ps : List (Int × Int)} {clk : Int} {xs : List PairD} {T : Nat → Prop} {w : World} (hT : RefP rg bx cap ps clk xs T w) (hn : ps.length ≤ 100) (key : Int) :
    Calls Try.prog 37 #[.pointer (some ⟨rg, 0, none⟩), .int .u64 key] w fun e w' => e = .returned (.tuple #[]) ∧ Upd (RefP rg bx cap (forgetP ps key) clk xs) T w w' := by
  obtain ⟨B, hB, hb⟩ := hT.focus RefB.framed
  exact (forget_any rg bx ps clk key B w hB hn).mono fun e w' ⟨he, hu⟩ => ⟨he, hb _ w' RefO.framed hu⟩
theorem RefP.cells {rg bx : Nat} {cap : Int} {ps : List (Int × Int)} {clk : Int} {xs : List PairD} {T : Nat → Prop} {w : World} (hT : RefP rg bx cap ps clk xs T w) :
    ∃ vk vw vl, (∃ U, RefOv rg bx vk vw ps clk U w) ∧ w.cell? ⟨bx, 0, none⟩ = some (.int .i64 cap) ∧ w.cell? ⟨bx, 1, none⟩ = some vl ∧ (∃ a c, vl = .slice a xs.length c) ∧ bx < w.heap.size := by
  obtain ⟨A, B, _, _, _, ⟨vk, vw, hp⟩, L, hA, v, hg, hown, _⟩ := hT
  obtain ⟨_, ao, c, rfl, _⟩ := hown
  exact ⟨vk, vw, .slice ao L.length c, ⟨_, hp⟩, (blk_cell hg 0).trans rfl, (blk_cell hg 1).trans rfl, ⟨ao, c, by rw [hA.len]⟩, heap_lt hg⟩

/-- the document's LRU's own block, keys and times each for itself -/
def RefOw (rg bx : Nat) (vk vw : Value) (ks ws : List Int) (clk : Int) (S : Nat → Prop) (w : World) : Prop :=
  w.heap[rg]? = some (.cells #[.pointer (some ⟨bx, 0, none⟩), vk, vw, .int .i64 clk] 95 (0, 0)) ∧ OwS eU64 33 S w vk ks ∧ OwS eI64 3 S w vw ws ∧ S rg
theorem RefOw.framed {rg bx : Nat} {vk vw : Value} {ks ws : List Int} {clk : Int} : Framed (RefOw rg bx vk vw ks ws clk) where
  only S F w w' h ho hn := ⟨ho.heap h.1 (hn _ (heap_lt h.1) h.2.2.2), OwS.framed.only _ _ _ _ h.2.1 ho hn, OwS.framed.only _ _ _ _ h.2.2.1 ho hn, h.2.2.2⟩
  mono S S' w h hs := ⟨h.1, OwS.framed.mono _ _ _ h.2.1 hs, OwS.framed.mono _ _ _ h.2.2.1 hs, hs _ (heap_lt h.1) h.2.2.2⟩
theorem RefOw.cells {rg bx : Nat} {vk vw : Value} {ks ws : List Int} {clk : Int} {S : Nat → Prop} {w : World} (h : RefOw rg bx vk vw ks ws clk S w) :
    w.cell? ⟨rg, 0, none⟩ = some (.pointer (some ⟨bx, 0, none⟩)) ∧ w.cell? ⟨rg, 1, none⟩ = some vk ∧ w.cell? ⟨rg, 2, none⟩ = some vw ∧ w.cell? ⟨rg, 3, none⟩ = some (.int .i64 clk) ∧ (∀ i, w.frozen? ⟨rg, i, none⟩ = false) ∧ rg < w.heap.size :=
  ⟨blk_cell h.1 0, blk_cell h.1 1, blk_cell h.1 2, blk_cell h.1 3, blk_free h.1, heap_lt h.1⟩
/-- the clock is set -/
theorem RefOw.tick {rg bx : Nat} {vk vw : Value} {ks ws : List Int} {clk : Int} {S : Nat → Prop} {w w1 : World} (h : Upd (RefOw rg bx vk vw ks ws clk) S w w1) (c : Int) :
    Upd (RefOw rg bx vk vw ks ws c) S w (w1.setCell ⟨rg, 3, none⟩ (.int .i64 c)) := by
  have h3 := h.1
  have o := Only.setCell (fun k => k = rg) w1 rg 3 (.int .i64 c) rfl
  refine ⟨⟨blk_set h3.1 3 _, ⟨h3.2.1.1.only o fun k hk e => row_ne h3.1 h3.2.1.1 (by decide) (by rw [hk, e]), h3.2.1.2⟩, ⟨h3.2.2.1.1.only o fun k hk e => row_ne h3.1 h3.2.2.1.1 (by decide) (by rw [hk, e]), h3.2.2.1.2⟩, h3.2.2.2⟩, h.2.trans o fun j hj e => ?_⟩
  subst e
  rcases h3.2.2.2 with h | h
  · exact h
  · omega
theorem ty_ne {α β : Type} {E : Enc α} {F : Enc β} {ta tb : Nat} {w : World} {u v : Value} {xs : List α} {ys : List β} {b1 b2 : Nat} (h1 : Ow E b1 ta w u xs) (h2 : Ow F b2 tb w v ys) (hne : ta ≠ tb) {k : Nat} (hu : u.ownBlock = some k) (hv : v.ownBlock = some k) : False := by
  obtain ⟨c1, e1⟩ := h1.type hu
  obtain ⟨c2, e2⟩ := h2.type hv
  rw [e1] at e2
  simp at e2
  exact hne e2.2
/-- keys grow: the row may be written, then the slice is set -/
theorem RefOw.keys {rg bx : Nat} {vk vw v2 : Value} {ks ks2 ws : List Int} {clk : Int} {S : Nat → Prop} {w w1 wa w2 : World} (h : Upd (RefOw rg bx vk vw ks ws clk) S w w1) (ho : Only (fun _ => False) w1 wa)
    (hown : OwS eU64 33 (fun k => vk.ownBlock = some k ∨ wa.heap.size ≤ k) w2 v2 ks2) (hO : Only (fun k => vk.ownBlock = some k) wa w2) :
    w2.heap[rg]? = some (.cells #[.pointer (some ⟨bx, 0, none⟩), vk, vw, .int .i64 clk] 95 (0, 0)) ∧ Upd (RefOw rg bx v2 vw ks2 ws clk) S w (w2.setCell ⟨rg, 1, none⟩ v2) := by
  have ha := (h.fresh RefOw.framed ho).1
  have hA := (h.fresh RefOw.framed ho).2
  have hr : w2.heap[rg]? = some (.cells #[.pointer (some ⟨bx, 0, none⟩), vk, vw, .int .i64 clk] 95 (0, 0)) := hO.heap ha.1 (row_ne ha.1 ha.2.1.1 (by decide))
  have hw : OwS eI64 3 (fun k => S k ∨ w.heap.size ≤ k) w2 vw ws := ⟨ha.2.2.1.1.only hO fun k hk e => ty_ne ha.2.1.1 ha.2.2.1.1 (by decide) e hk, ha.2.2.1.2⟩
  have o := Only.setCell (fun k => k = rg) w2 rg 1 v2 rfl
  refine ⟨hr, ⟨blk_set hr 1 v2, ⟨hown.1.only o fun k hk e => row_ne hr hown.1 (by decide) (by rw [hk, e]), fun k hk => ?_⟩, ⟨hw.1.only o fun k hk e => row_ne hr hw.1 (by decide) (by rw [hk, e]), hw.2⟩, ha.2.2.2⟩, (hA.trans hO fun j hj e => ?_).trans o fun j hj e => ?_⟩
  · rcases hown.2 k hk with h | h
    · exact ha.2.1.2 k h
    · exact .inr (Nat.le_trans hA.size h)
  · rcases ha.2.1.2 j e with h | h
    · exact h
    · omega
  · subst e
    rcases ha.2.2.2 with h | h
    · exact h
    · omega
/-- times grow -/
theorem RefOw.times {rg bx : Nat} {vk vw v2 : Value} {ks ws ws2 : List Int} {clk : Int} {S : Nat → Prop} {w w1 wa w2 : World} (h : Upd (RefOw rg bx vk vw ks ws clk) S w w1) (ho : Only (fun _ => False) w1 wa)
    (hown : OwS eI64 3 (fun k => vw.ownBlock = some k ∨ wa.heap.size ≤ k) w2 v2 ws2) (hO : Only (fun k => vw.ownBlock = some k) wa w2) :
    w2.heap[rg]? = some (.cells #[.pointer (some ⟨bx, 0, none⟩), vk, vw, .int .i64 clk] 95 (0, 0)) ∧ Upd (RefOw rg bx vk v2 ks ws2 clk) S w (w2.setCell ⟨rg, 2, none⟩ v2) := by
  have ha := (h.fresh RefOw.framed ho).1
  have hA := (h.fresh RefOw.framed ho).2
  have hr : w2.heap[rg]? = some (.cells #[.pointer (some ⟨bx, 0, none⟩), vk, vw, .int .i64 clk] 95 (0, 0)) := hO.heap ha.1 (row_ne ha.1 ha.2.2.1.1 (by decide))
  have hw : OwS eU64 33 (fun k => S k ∨ w.heap.size ≤ k) w2 vk ks := ⟨ha.2.1.1.only hO fun k hk e => ty_ne ha.2.1.1 ha.2.2.1.1 (by decide) hk e, ha.2.1.2⟩
  have o := Only.setCell (fun k => k = rg) w2 rg 2 v2 rfl
  refine ⟨hr, ⟨blk_set hr 2 v2, ⟨hw.1.only o fun k hk e => row_ne hr hw.1 (by decide) (by rw [hk, e]), hw.2⟩, ⟨hown.1.only o fun k hk e => row_ne hr hown.1 (by decide) (by rw [hk, e]), fun k hk => ?_⟩, ha.2.2.2⟩, (hA.trans hO fun j hj e => ?_).trans o fun j hj e => ?_⟩
  · rcases hown.2 k hk with h | h
    · exact ha.2.2.1.2 k h
    · exact .inr (Nat.le_trans hA.size h)
  · rcases ha.2.2.1.2 j e with h | h
    · exact h
    · omega
  · subst e
    rcases ha.2.2.2 with h | h
    · exact h
    · omega
/-- the document's LRU's own block, taken out of all that is there -/
theorem RefP.hole {rg bx : Nat} {cap : Int} {ps : List (Int × Int)} {clk : Int} {xs : List PairD} {R : (Nat → Prop) → World → Prop} (hR : Framed R) {S : Nat → Prop} {w W : World} (h : Upd (Sep (RefP rg bx cap ps clk xs) R) S w W) :
    ∃ A vk vw, RefOw rg bx vk vw (ps.map (·.1)) (ps.map (·.2)) clk A W ∧ ∀ W' ps' clk' vk' vw', Upd (RefOw rg bx vk' vw' (ps'.map (·.1)) (ps'.map (·.2)) clk') A W W' → Upd (Sep (RefP rg bx cap ps' clk' xs) R) S w W' := by
  obtain ⟨B, hB, hb⟩ := h.1.focus hR
  obtain ⟨A, ⟨vk, vw, hA⟩, ha⟩ := hB.focus RefB.framed
  exact ⟨A, vk, vw, hA, fun W' ps' clk' vk' vw' hu => h.step (Sep.framed RefP.framed hR) (hb _ W' RefP.framed (ha _ W' RefO.framed ⟨⟨vk', vw', hu.1⟩, hu.2⟩))⟩

theorem res_field1 (x0 x2 x4 x5 : Int) (x1 x3 : Bool) (w : World) : (Instr.field 41 (.agg #[.int .i64 x0, .bool x1, .int .u64 x2, .bool x3, .int .u64 x4, .int .u64 x5]) 1).run Try.prog w = .ok (.bool x1) w := by kernel_rfl
theorem res_field2 (x0 x2 x4 x5 : Int) (x1 x3 : Bool) (w : World) : (Instr.field 41 (.agg #[.int .i64 x0, .bool x1, .int .u64 x2, .bool x3, .int .u64 x4, .int .u64 x5]) 2).run Try.prog w = .ok (.int .u64 x2) w := by kernel_rfl

theorem RefP.len_le {rg bx : Nat} {cap : Int} {ps : List (Int × Int)} {clk : Int} {xs : List PairD} {T : Nat → Prop} {w : World} (hT : RefP rg bx cap ps clk xs T w) : Good cap xs := by
  obtain ⟨A, B, _, _, _, _, L, hA, _⟩ := hT
  exact hA.good

theorem ref_fin {rg bx : Nat} {cap : Int} {ps : List (Int × Int)} {clk : Int} {xs : List PairD} {S : Nat → Prop} {w w1 : World} {L : List (Nat × Obj)} (h : Upd (Sep (RefP rg bx cap ps clk xs) (Locs L)) S w w1) {k : Nat} {o : Obj} (hk : (k, o) ∈ L) (cs : Array Value) : Upd (RefP rg bx cap ps clk xs) S w (w1.setRow k cs) :=
  (h.locs RefP.framed (M := []) ((only_setRow w1 k cs).mono fun j _ e => ⟨_, hk, e.symm⟩) (fun p hp => by simp at hp)).drop RefP.framed
set_option maxRecDepth 100000 in
set_option maxHeartbeats 40000000 in
theorem refLru_do (rg bx : Nat) (cap : Int) (s : List PairD × List Int) (ps : List (Int × Int)) (clk : Int) (S : Nat → Prop) (op key val : Int) (w : World) (H : RefP rg bx cap ps clk s.1 S w) (HRA : RA s.2 ps clk) (G : LGood cap s) (hclk : 0 ≤ clk) (hclk2 : clk < 4611686018427387904) :
    Calls Try.prog 35 #[.pointer (some ⟨rg, 0, none⟩), .int .i64 op, .int .u64 key, .int .u64 val] w fun e w' => e = .returned (ResD.val (lruP cap s op key val).1) ∧ ∃ ps' clk', (RA (lruP cap s op key val).2.2 ps' clk' ∧ 0 ≤ clk' ∧ clk' ≤ clk + 1) ∧ Upd (RefP rg bx cap ps' clk' (lruP cap s op key val).2.1) S w w' := by
  obtain ⟨vk, vw, vl, ⟨_, hv⟩, m0, m1, _⟩ := H.cells
  obtain ⟨q0, q1, q2, q3, qf, hgl⟩ := hv.cells
  have HU := Lib.hid ((Upd.start RefP.framed H).loc RefP.framed (resO 0 false 0 false 0 0))
  have HG := Lib.hid G
  have HA := Lib.hid HRA
  have HB := Lib.hid (show doP cap s.1 1 key 0 = ((0, hasP s.1 key, 0, false, 0, 0), s.1) from rfl)
  have hfl := res_field1 0 0 0 0 (hasP s.1 key) false
  clear H G HRA hv qf m0 m1
  go_enter Try.func35, Try.ntmps35
  go_wp2_with fail
  refine (HU.out.via Locs.framed RefP.framed fun A hA => hA.do_ HB.out).mono ?_
  rintro e w1 ⟨rfl, hU1⟩
  have HU2 := Lib.hid (hU1.loc RefP.framed (resO 0 false 0 false 0 0))
  obtain ⟨t10, ht10⟩ : ∃ t10, t10 = w1.heap.size := ⟨_, rfl⟩
  have h8 := heap_lt (hU1.get (g := w.heap.size) (List.mem_cons_self ..))
  clear HU hU1 q0 q1 q2 q3
  dsimp only
  generalize hhas : hasP s.1 key = had at *
  have HH := Lib.hid hhas
  clear hhas
  go_upto_region 3 with (fail)
  rw [← ht10] at HU2 h8 ⊢
  clear ht10
  generalize World.alloc w1 _ = w2 at *
  obtain ⟨vk2, vw2, vl2, ⟨_, hv⟩, m0, m1, ⟨la, lc, rfl⟩, hbl⟩ := (HU2.out.1.left RefP.framed).cells
  obtain ⟨q0, q1, q2, q3, qf, hgl2⟩ := hv.cells
  have HIF := Lib.hid (show isFull cap s.1 op key = ((decide (op = 2) || decide (op = 4)) && (!had && decide ((s.1.length : Int) = cap))) by unfold isFull full; rw [HH.out])
  clear hv qf
  go_cut [48] (fun t48 wc => t48 = .bool (isFull cap s.1 op key) ∧ Hid (Upd (Sep (RefP rg bx cap ps clk s.1) (Locs [(t10, resO 0 false 0 false 0 0), (w.heap.size, resO 0 false 0 false 0 0)])) S w wc))
  case first =>
    by_cases hop : op = 2 ∨ op = 4
    · rcases hop with rfl | rfl
      all_goals
        cases had
        · by_cases hl : (s.1.length : Int) = cap
          · have hb : ((s.1.length : Int) == cap) = true := by simpa using hl
            have HI2 := Lib.hid (show isFull cap s.1 _ key = true from by rw [HIF.out]; simp [hl])
            clear hl
            go_quiet (fail)
            all_goals go_wp2_with fail
            all_goals go_meet
            case rel => exact ⟨by rw [HI2.out], Lib.hid (HU2.out.fresh (Sep.framed RefP.framed Locs.framed) ((Only.refl _ _).drewN _))⟩
          · have hb : ((s.1.length : Int) == cap) = false := by simpa using hl
            have HI2 := Lib.hid (show isFull cap s.1 _ key = false from by rw [HIF.out]; simp [hl])
            clear hl
            go_quiet (fail)
            all_goals go_wp2_with fail
            all_goals go_meet
            case rel => exact ⟨by rw [HI2.out], Lib.hid (HU2.out.fresh (Sep.framed RefP.framed Locs.framed) ((Only.refl _ _).drewN _))⟩
        · have HI2 := Lib.hid (show isFull cap s.1 _ key = false from by rw [HIF.out]; simp)
          go_quiet (fail)
          all_goals go_wp2_with fail
          all_goals go_meet
          case rel => exact ⟨by rw [HI2.out], Lib.hid (HU2.out.fresh (Sep.framed RefP.framed Locs.framed) ((Only.refl _ _).drewN _))⟩
    · have h2 : (op == 2) = false := by simp; omega
      have h4 : (op == 4) = false := by simp; omega
      have HI2 := Lib.hid (show isFull cap s.1 _ key = false from by rw [HIF.out]; have a : ¬ op = 2 := (by omega); have b : ¬ op = 4 := (by omega); simp [a, b])
      clear hop
      go_quiet (fail)
      all_goals go_wp2_with fail
      all_goals go_meet
      case rel => exact ⟨by rw [HI2.out], Lib.hid (HU2.out.fresh (Sep.framed RefP.framed Locs.framed) ((Only.refl _ _).drewN _))⟩
  case rest =>
    obtain ⟨rfl, HU3⟩ := hcut
    clear HU2 m0 m1 q0 q1 q2 q3 HIF hfl HB
    generalize hFF : isFull cap s.1 op key = fl at *
    have HFF := Lib.hid hFF
    clear hFF
    go_upto_if 48 with (fail)
    go_cut [11, 12] (fun _ _ wc => ∃ (x3 : Bool) (x4 x5 : Int) (ps1 : List (Int × Int)) (xs1 : List PairD), Hid ((x3, x4, x5, ps1, xs1) = if fl then (true, lastP s.2, oldP s.1 (lastP s.2), forgetP ps (lastP s.2), delP s.1 (lastP s.2)) else (false, 0, 0, ps, s.1)) ∧ Hid (Upd (Sep (RefP rg bx cap ps1 clk xs1) (Locs [(t10, resO 0 false 0 x3 x4 x5), (w.heap.size, resO 0 false 0 false 0 0)])) S w wc))
    case first =>
      cases fl
      · go_wp2_with fail
        go_meet
        case rel => exact ⟨false, 0, 0, ps, s.1, Lib.hid rfl, HU3⟩
      · have hF := HFF.out
        obtain ⟨hd1, h0, hlh, hd2, hg2, hnk, hnf, hd3⟩ := evict_do (v := val) HG.out hF
        have HD2 := Lib.hid (show doP cap s.1 3 (lastP s.2) 0 = ((0, true, oldP s.1 (lastP s.2), false, 0, 0), delP s.1 (lastP s.2)) from hd2)
        obtain ⟨hp0, hpl⟩ := HA.out.last h0
        have HPL := Lib.hid hpl
        have HMIN := Lib.hid HA.out.min
        have h16 : ps.length ≤ 16 := by have := HA.out.len; have := HG.out.len; have := HG.out.good.len; have := HG.out.good.hi; omega
        clear hd1 h0 hlh hd2 hg2 hnk hnf hd3 hF hpl
        go_wp2_with fail
        go_loopw [11, 12] (fun t11 t12 wr => ∃ i : Nat, i ≤ ps.length ∧ t12 = .int .i64 i ∧ t11 = .int .i64 0 ∧ Hid (Upd (Sep (RefP rg bx cap ps clk s.1) (Locs [(t10, resO 0 false 0 false 0 0), (w.heap.size, resO 0 false 0 false 0 0)])) S w wr)) (fun _ t12 _ => ps.length - (intOf t12).toNat)
        case atStart => exact ⟨0, Nat.zero_le _, rfl, rfl, HU3⟩
        case round =>
          clear HU3
          obtain ⟨i, hi, rfl, rfl, HQ⟩ := hrel
          obtain ⟨vk, vw, vl, ⟨_, hv⟩, m0, m1, ⟨la, lc, rfl⟩, hbl⟩ := (HQ.out.1.left RefP.framed).cells
          obtain ⟨q0, q1, q2, q3, qf, hgl2⟩ := hv.cells
          obtain ⟨_, ak, ck, rfl, _, _, hxk⟩ := hv.2.1.rd
          obtain ⟨_, aw, cw, rfl, _, _, hxw⟩ := hv.2.2.1.rd
          rw [map_len1] at q1 hxk
          rw [map_len2] at q2 hxw
          obtain ⟨wb, wo, rfl, hcw⟩ := hxw hp0
          obtain ⟨kb, ko, rfl, hck⟩ := hxk hp0
          have HKB := Lib.hid (fun (o : Array Value) (h : wr.heap[t10]? = some (.cells o 41 (0, 0))) => row_ne h hv.2.1.1 (by decide))
          clear hv qf hxk hxw m0 m1
          by_cases hil : i < ps.length
          · have f1 := hcw i _ (eI64_at _ i (by rw [map_len2]; exact hil))
            have f0 := hcw 0 _ (eI64_at _ 0 (by rw [map_len2]; exact hp0))
            rw [List.getElem_map] at f0 f1
            rw [Nat.add_zero] at f0
            have hlt := HMIN.out i hil
            have hm0 : (0 : Int) ≤ (i : Int) := by omega
            have hm1 : (i : Int) < (ps.length : Int) := by omega
            have hm2 : (0 : Int) < (ps.length : Int) := by omega
            have hm3 : 0 < ps.length := hp0
            clear hcw hck
            generalize ps[i].2 = pi at *
            generalize ps[0].2 = pz at *
            have hdl : decide (pi < pz) = false := decide_eq_false (by omega)
            clear hlt
            go_wp2_with fail
            go_quiet (fail)
            all_goals go_wp2_with fail
            go_roundw
            case rel => exact ⟨i + 1, by omega, by go_num, rfl, Lib.hid (HQ.out.fresh (Sep.framed RefP.framed Locs.framed) ((Only.refl _ _).drewN _))⟩
            case measure => simp [intOf]; omega
          · obtain rfl : i = ps.length := by omega
            have f0 := hck 0 _ (eU64_at _ 0 (by rw [map_len1]; exact hp0))
            rw [List.getElem_map, HPL.out, Nat.add_zero] at f0
            have h10 := HQ.out.get (g := t10) (List.mem_cons_self ..)
            obtain ⟨_, _, _, y3, y4, y5⟩ := res_cells h10
            have z3 := frozen_of_row wr t10 3 _ _ h10
            have z4 := frozen_of_row wr t10 4 _ _ h10
            have hm0 : (0 : Int) < (ps.length : Int) := by omega
            have hm1 : 0 < ps.length := hp0
            have ht1 : ¬ t10 = rg := by
              intro e
              subst e
              have := HQ.out
              obtain ⟨A, B, hd, hA, hB, hp, hq⟩ := this.1
              obtain ⟨vk, vw, hv⟩ := hp.left RefO.framed
              exact hd _ hv.2.2.2 (hq _ (List.mem_cons_self ..)).2
            have ht2 : ¬ rg = t10 := fun e => ht1 e.symm
            have hk1 : ¬ kb = t10 := fun e => HKB.out _ h10 (by simp [Value.ownBlock, e])
            have hk2 : ¬ t10 = kb := fun e => hk1 e.symm
            have H10 := Lib.hid h10
            clear hcw hck HKB h10
            go_upto_region 12 with (fail)
            have hs1 : ((wr.setCell ⟨t10, 3, none⟩ (.bool true)).setCell ⟨t10, 4, none⟩ (.int .u64 (lastP s.2))).heap[t10]? = some (resO 0 false 0 true (lastP s.2) 0) := blk_set (blk_set H10.out 3 (.bool true)) 4 (.int .u64 (lastP s.2))
            have hU5 := Upd.loc1 (A := []) (B := [_]) RefP.framed HQ.out ((Only.setCell (fun k => k = t10) wr t10 3 (.bool true) rfl).tr (Only.setCell _ _ t10 4 (.int .u64 (lastP s.2)) rfl)) hs1 (fun q hq => by simp at hq; subst hq; dsimp only; omega)
            clear hs1 HQ H10 q0 q1 q2 q3 y3 y4 y5 z3 z4 f0 hk1 hk2
            generalize World.setCell _ _ _ = W5 at *
            have HU5 := Lib.hid hU5
            obtain ⟨vk, vw, vl, ⟨_, hv⟩, _⟩ := (hU5.1.left RefP.framed).cells
            obtain ⟨q0, q1, q2, q3, qf, hgl3⟩ := hv.cells
            have h10 := hU5.get (g := t10) (List.mem_cons_self ..)
            obtain ⟨_, _, _, y3, y4, y5⟩ := res_cells h10
            have hfl := res_field2 0 (oldP s.1 (lastP s.2)) 0 0 true false
            clear hU5 hv qf h10
            go_wp2_with fail
            go_still_tail 6, (by kernel_rfl)
            go_wp2_with fail
            refine ((HU5.out.drewU (Sep.framed RefP.framed Locs.framed)).via Locs.framed RefP.framed fun A hA => hA.do_ HD2.out).mono ?_
            rintro e w6 ⟨rfl, hU6⟩
            have h10 := hU6.get (g := t10) (List.mem_cons_self ..)
            obtain ⟨_, _, _, y3, y4, y5⟩ := res_cells h10
            have z5 := frozen_of_row w6 t10 5 _ _ h10
            have hl10 := heap_lt h10
            have H10 := Lib.hid h10
            have HU6 := Lib.hid hU6
            clear hU6 h10 HU5
            dsimp only
            go_upto_region 13 with (fail)
            have hs1 : (w6.setCell ⟨t10, 5, none⟩ (.int .u64 (oldP s.1 (lastP s.2)))).heap[t10]? = some (resO 0 false 0 true (lastP s.2) (oldP s.1 (lastP s.2))) := blk_set H10.out 5 (.int .u64 _)
            have hU7 := Upd.loc1 (A := []) (B := [_]) RefP.framed HU6.out (Only.setCell (fun k => k = t10) w6 t10 5 (.int .u64 (oldP s.1 (lastP s.2))) rfl) hs1 (fun q hq => by simp at hq; subst hq; dsimp only; omega)
            clear hs1 HU6 H10 y3 y4 y5 z5
            generalize World.setCell _ _ _ = W7 at *
            have HU7 := Lib.hid hU7
            obtain ⟨_, _, _, y3, y4, y5⟩ := res_cells (hU7.get (g := t10) (List.mem_cons_self ..))
            clear hU7
            go_wp2_with fail
            refine (HU7.out.via Locs.framed RefP.framed fun A hA => hA.forget_ (by omega) (lastP s.2)).mono ?_
            rintro e w8 ⟨rfl, hU8⟩
            have HU8 := Lib.hid hU8
            clear hU8 HU7
            go_wp2_with fail
            go_meet
            case rel => exact ⟨true, lastP s.2, oldP s.1 (lastP s.2), forgetP ps (lastP s.2), delP s.1 (lastP s.2), Lib.hid rfl, HU8⟩
    case rest =>
      obtain ⟨x3, x4, x5, ps1, xs1, HX, HU4⟩ := hcut
      obtain ⟨r0, r1, r2, ys, od1, hd, hl, hra, ho16⟩ := ref_law (op := op) (key := key) (val := val) (x3 := x3) (x4 := x4) (x5 := x5) (ps1 := ps1) (xs1 := xs1) HG.out HA.out (by have h := HX.out; rwa [← HFF.out] at h)
      rw [HH.out] at hl
      have HD := Lib.hid hd
      have HL := Lib.hid hl
      have HR := Lib.hid hra
      have hp16 : ps1.length ≤ 16 := by rw [hra.len]; exact ho16
      obtain ⟨vk, vw, vl, ⟨_, hv⟩, _⟩ := (HU4.out.1.left RefP.framed).cells
      obtain ⟨q0, q1, q2, q3, qf, hgl3⟩ := hv.cells
      clear hd hl hra HU3 HX HFF hv qf ho16
      go_wp2_with fail
      refine (HU4.out.via Locs.framed RefP.framed fun A hA => hA.do_ HD.out).mono ?_
      rintro e w5 ⟨rfl, hU5⟩
      have HU5 := Lib.hid (hU5.loc RefP.framed (resO r0 r1 r2 x3 x4 x5))
      obtain ⟨t13, ht13⟩ : ∃ t13, t13 = w5.heap.size := ⟨_, rfl⟩
      have hl10 := heap_lt (hU5.get (g := t10) (List.mem_cons_self ..))
      have y0 := hU5.get (g := t10) (List.mem_cons_self ..)
      obtain ⟨_, _, _, y3, y4, y5⟩ := res_cells y0
      clear hU5 HU4 q0 q1 q2 q3 y0
      dsimp only
      go_upto_region 18 with (fail)
      rw [← ht13] at HU5 hl10 ⊢
      clear ht13 y3 y4 y5
      generalize World.alloc w5 _ = w6 at *
      go_cut [125] (fun t125 wc => t125 = .bool ((decide (op = 2) || decide (op = 4)) || (decide (op = 0) && had)) ∧ wc = w6)
      case first =>
        by_cases h2 : op = 2
        · subst h2
          go_wp2_with fail
          go_meet
          case rel => exact ⟨rfl, rfl⟩
        by_cases h4 : op = 4
        · subst h4
          go_wp2_with fail
          go_meet
          case rel => exact ⟨rfl, rfl⟩
        by_cases h0 : op = 0
        · subst h0
          cases had
          all_goals
            go_wp2_with fail
            go_meet
            case rel => exact ⟨rfl, rfl⟩
        · have b2 : (op == 2) = false := by simpa using h2
          have b4 : (op == 4) = false := by simpa using h4
          have b0 : (op == 0) = false := by simpa using h0
          go_wp2_with fail
          go_meet
          case rel => exact ⟨by simp [h0, h2, h4], rfl⟩
      case rest =>
        obtain ⟨rfl, rfl⟩ := hcut
        generalize htb : ((decide (op = 2) || decide (op = 4)) || (decide (op = 0) && had)) = tb at *
        have HB3 := Lib.hid (show tb = true → (op == 3) = false by
          rw [← htb]
          by_cases h3 : op = 3
          · subst h3; simp
          · intro _; simpa using h3)
        clear htb
        cases tb
        · by_cases h3 : op = 3
          · subst h3
            have HL2 := Lib.hid (show lruP cap s 3 key val = ((r0, r1, r2, x3, x4, x5), (ys, dropK od1 key)) from HL.out)
            clear HL
            go_wp2_with fail
            refine (HU5.out.via Locs.framed RefP.framed fun A hA => hA.forget_ (by omega) key).mono ?_
            rintro e w8 ⟨rfl, hU8⟩
            have H8 := Lib.hid (hU8.get (g := w.heap.size) (List.mem_cons_of_mem _ (List.mem_cons_of_mem _ (List.mem_singleton_self _))))
            obtain ⟨e0, e1, e2, e3, e4, e5⟩ := res_cells (hU8.get (g := t13) (List.mem_cons_self ..))
            have HU8 := Lib.hid hU8
            clear hU8 HU5
            go_wp2_with (refine wpList_store_row rfl 41 (.tmp 8) (.tmp 164) rfl w.heap.size _ rfl rfl 41 _ H8.out (by kernel_rfl) rfl (res_one _ _ _ _ _ _) ?_)
            try simp only [Exit.inBlock, Exit.then]
            refine bodyPost_ret (results_cell_row rfl _ _ w.heap.size _ _ _ _ rfl (setRow_heap _ _ _ _ _ _ H8.out) Try.underlying41 rfl (by kernel_rfl)) rfl ?_
            rw [HL2.out]
            exact ⟨rfl, forgetP ps1 key, clk, ⟨HR.out.forget key, hclk, by omega⟩, ref_fin HU8.out (List.mem_cons_of_mem _ (List.mem_cons_of_mem _ (List.mem_singleton_self _))) _⟩
          · have HL2 := Lib.hid (show lruP cap s op key val = ((r0, r1, r2, x3, x4, x5), (ys, od1)) by rw [HL.out]; simp [h3])
            have b3 : (op == 3) = false := by simpa using h3
            have H8 := Lib.hid (HU5.out.get (g := w.heap.size) (List.mem_cons_of_mem _ (List.mem_cons_of_mem _ (List.mem_singleton_self _))))
            obtain ⟨e0, e1, e2, e3, e4, e5⟩ := res_cells (HU5.out.get (g := t13) (List.mem_cons_self ..))
            clear HL h3
            go_wp2_with (refine wpList_store_row rfl 41 (.tmp 8) (.tmp 164) rfl w.heap.size _ rfl rfl 41 _ H8.out (by kernel_rfl) rfl (res_one _ _ _ _ _ _) ?_)
            try simp only [Exit.inBlock, Exit.then]
            refine bodyPost_ret (results_cell_row rfl _ _ w.heap.size _ _ _ _ rfl (setRow_heap _ _ _ _ _ _ H8.out) Try.underlying41 rfl (by kernel_rfl)) rfl ?_
            rw [HL2.out]
            exact ⟨rfl, ps1, clk, ⟨HR.out, hclk, by omega⟩, ref_fin HU5.out (List.mem_cons_of_mem _ (List.mem_cons_of_mem _ (List.mem_singleton_self _))) _⟩
        · have HL2 := Lib.hid (show lruP cap s op key val = ((r0, r1, r2, x3, x4, x5), (ys, key :: dropK od1 key)) from HL.out)
          clear HL
          go_wp2_with fail
          refine (HU5.out.via Locs.framed RefP.framed fun A hA => hA.forget_ (by omega) key).mono ?_
          rintro e w8 ⟨rfl, hU8⟩
          have hf16 : (forgetP ps1 key).length ≤ 16 := Nat.le_trans (List.length_filter_le _ _) hp16
          obtain ⟨A, vk, vw, hA, hback⟩ := RefP.hole Locs.framed hU8
          obtain ⟨q0, q1, q2, q3, qf, hgl8⟩ := hA.cells
          have z1 := qf 1
          have z2 := qf 2
          have z3 := qf 3
          have HBK := Lib.hid hback
          have HA8 := Lib.hid (Upd.refl RefOw.framed hA)
          have HA9 := Lib.hid (RefOw.tick HA8.out (clk + 1))
          clear hU8 HU5 hA hback qf HA8
          go_upto_region 21 with (fail)
          have HKL := Lib.hid (show ((forgetP ps1 key).map (·.1)).length ≤ 16 ∧ ((forgetP ps1 key).map (·.2)).length ≤ 16 from ⟨by rw [map_len1]; exact hf16, by rw [map_len2]; exact hf16⟩)
          generalize hks : (forgetP ps1 key).map (fun p : Int × Int => p.1) = ks at *
          generalize hws : (forgetP ps1 key).map (fun p : Int × Int => p.2) = ws at *
          have HKS := Lib.hid hks
          have HWS := Lib.hid hws
          clear hks hws q0 q1 q2 q3 z1 z2 z3
          generalize World.setCell _ _ _ = w9 at *
          have hk16 : ks.length ≤ 16 := HKL.out.1
          have hw16 : ws.length ≤ 16 := HKL.out.2
          have h9 := HA9.out.1
          obtain ⟨q0, q1, q2, q3, qf, hgl9⟩ := h9.cells
          have z1 := qf 1
          have HOK : Hid (OwS eU64 33 (fun k => vk.ownBlock = some k) (w9.alloc (.cells #[.int .u64 key] 33)) vk ks) := Lib.hid (OwS.framed.alloc ⟨h9.2.1.1, fun _ h => h⟩ _)
          have HRL := Lib.hid (Rd.lit (E := eU64) w9 #[.int .u64 key] 33 (0, 0) 1 1 [key] rfl rfl (by simp) (by simp [maxLen]))
          obtain ⟨ak, _, ck, rfl⟩ := h9.2.1.shape'
          clear h9 qf
          go_wp2_with (at_builtin; refine wl_appendS (E := eU64) rfl _ (.tmp 142) _ rfl 33 8 eU64_sl _ _ ks rfl HOK.out _ [key] rfl HRL.out (by simp only [List.length_cons, List.length_nil]; omega) (by unfold maxLen; simp only [List.length_cons, List.length_nil]; omega) ?_)
          intro v2 w10 hown2 hO2
          obtain ⟨hr2, hK⟩ := RefOw.keys (v2 := v2) (ks2 := ks ++ [key]) HA9.out (Only.alloc (fun _ => False) w9 (.cells #[.int .u64 key] 33)) (OwS.framed.mono _ _ _ hown2 fun k _ h => h.imp id fun h => by simpa using h) hO2
          have d1 := (blk_cell hr2 1).trans rfl
          have f1 := frozen_of_row w10 rg 1 _ _ hr2
          obtain ⟨a2, n2, c2, rfl⟩ := hown2.shape'
          have HK := Lib.hid hK
          clear hown2 hO2 hr2 hK HOK HRL q0 q1 q2 q3 z1
          go_upto_region 22 with (fail)
          generalize World.setCell _ _ _ = w11 at *
          clear d1 f1
          have h11 := HK.out.1
          obtain ⟨q0, q1, q2, q3, qf, hgl11⟩ := h11.cells
          have z2 := qf 2
          have hvg : vw.ownBlock ≠ some rg := row_ne h11.1 h11.2.2.1.1 (by decide)
          have HOW : Hid (OwS eI64 3 (fun k => vw.ownBlock = some k) w11 vw ws) := Lib.hid ⟨h11.2.2.1.1, fun _ h => h⟩
          have hoS := HOW.out
          have hrd : Rd eI64 (w11.alloc (.cells #[.int .i64 (clk + 1)] 3)) (.slice (some ⟨w11.heap.size, 0, none⟩) 1 1) [clk + 1] := Rd.lit w11 #[.int .i64 (clk + 1)] 3 (0, 0) 1 1 [clk + 1] rfl rfl (Nat.le_refl _) (by decide)
          have hga : rg < (w11.alloc (.cells #[.int .i64 (clk + 1)] 3)).drew.heap.size := by show rg < (w11.heap.push _).size; simp; omega
          have hb : (5 * (ws.length + 1) + 2816) * 8 ≤ 1125899906842624 := by omega
          have hm : ws.length + 1 ≤ maxLen := by unfold maxLen; omega
          obtain ⟨aw, nw, cw, rfl⟩ := hoS.shape'
          clear h11 qf
          go_region_law (refine step_appendS (E := eI64) (by rfl) (.tmp 150) (.tmp 155) _ (by rfl) 3 8 eI64_sl _ _ ws (by rfl) (OwS.framed.alloc hoS _) _ [clk + 1] (by rfl) hrd (ws.length + 1) (by simp) (by omega) hb hm rg hga hvg ?_; intro b3 off3 cap3 w3 hown3 hO3 hk3 hf3)
          all_goals
            obtain ⟨_, hF⟩ := RefOw.times (v2 := .slice (some ⟨b3, off3, none⟩) (ws.length + 1) cap3) (ws2 := ws ++ [clk + 1]) HK.out ((Only.alloc (fun _ => False) w11 (.cells #[.int .i64 (clk + 1)] 3)).drew_) hown3 hO3
            have HU12 := Lib.hid (HBK.out _ (forgetP ps1 key ++ [(key, clk + 1)]) (clk + 1) (.slice a2 n2 c2) (.slice (some ⟨b3, off3, none⟩) (ws.length + 1) cap3) (by rw [List.map_append, List.map_append, HKS.out, HWS.out]; exact hF))
            clear hF HBK hown3 hO3 hk3 hf3 HK HA9 HOW hoS hrd q0 q1 q2 q3 z2 hb hm hga hvg
            generalize World.setCell w3 _ _ = w12 at *
            have H8 := Lib.hid (HU12.out.get (g := w.heap.size) (List.mem_cons_of_mem _ (List.mem_cons_of_mem _ (List.mem_singleton_self _))))
            obtain ⟨e0, e1, e2, e3, e4, e5⟩ := res_cells (HU12.out.get (g := t13) (List.mem_cons_self ..))
            have b3 := HB3.out (by first | rfl | trivial)
            go_wp2_with (refine wpList_store_row rfl 41 (.tmp 8) (.tmp 164) rfl w.heap.size _ rfl rfl 41 _ H8.out (by kernel_rfl) rfl (res_one _ _ _ _ _ _) ?_)
            try simp only [Exit.inBlock, Exit.then]
            refine bodyPost_ret (results_cell_row rfl _ _ w.heap.size _ _ _ _ rfl (setRow_heap _ _ _ _ _ _ H8.out) Try.underlying41 rfl (by kernel_rfl)) rfl ?_
            rw [HL2.out]
            exact ⟨rfl, forgetP ps1 key ++ [(key, clk + 1)], clk + 1, ⟨HR.out.touch hclk key, by omega, by omega⟩, ref_fin HU12.out (List.mem_cons_of_mem _ (List.mem_cons_of_mem _ (List.mem_singleton_self _))) _⟩

def outT (ps : List (Int × Int)) (t : Int) : List Int := ((ps.filter fun p => decide (t < p.2)).map (·.1)).reverse
def atT (ps : List (Int × Int)) (t : Int) : List Int := (ps.filter fun p => p.2 == t).map (·.1)
theorem outT_len (ps : List (Int × Int)) (t : Int) : (outT ps t).length ≤ ps.length := by
  unfold outT; rw [List.length_reverse, List.length_map]; exact List.length_filter_le _ _
theorem out_split {ps : List (Int × Int)} (h : (ps.map (·.2)).Pairwise (· < ·)) (t : Int) : (ps.filter fun p => decide (t - 1 < p.2)) = (ps.filter fun p => p.2 == t) ++ (ps.filter fun p => decide (t < p.2)) := by
  induction ps with
  | nil => rfl
  | cons p ps ih =>
    rw [List.map_cons, List.pairwise_cons] at h
    have ih := ih h.2
    have hgt : ∀ q ∈ ps, p.2 < q.2 := fun q hq => h.1 _ (List.mem_map_of_mem hq)
    by_cases h1 : p.2 < t
    · rw [List.filter_cons_of_neg (by simp; omega), List.filter_cons_of_neg (by simp; omega), List.filter_cons_of_neg (by simp; omega)]
      exact ih
    · by_cases h2 : p.2 = t
      · have hn : (ps.filter fun q => q.2 == t) = [] := by
          rw [List.filter_eq_nil_iff]
          intro q hq
          have := hgt q hq
          simp; omega
        rw [List.filter_cons_of_pos (by simp; omega), List.filter_cons_of_pos (by simp [h2]), List.filter_cons_of_neg (by simp; omega), ih, hn]; simp
      · have hn : (ps.filter fun q => q.2 == t) = [] := by
          rw [List.filter_eq_nil_iff]
          intro q hq
          have := hgt q hq
          simp; omega
        rw [List.filter_cons_of_pos (by simp; omega), List.filter_cons_of_neg (by simp [h2]), List.filter_cons_of_pos (by simp; omega), ih, hn]; simp
theorem at_one {ps : List (Int × Int)} (h : (ps.map (·.2)).Pairwise (· < ·)) (t : Int) : (atT ps t).reverse = atT ps t := by
  have hl : (atT ps t).length ≤ 1 := by
    unfold atT
    rw [List.length_map]
    induction ps with
    | nil => simp
    | cons p ps ih =>
      rw [List.map_cons, List.pairwise_cons] at h
      have hgt : ∀ q ∈ ps, p.2 < q.2 := fun q hq => h.1 _ (List.mem_map_of_mem hq)
      by_cases h2 : p.2 = t
      · have hn : (ps.filter fun q => q.2 == t) = [] := by
          rw [List.filter_eq_nil_iff]
          intro q hq
          have := hgt q hq
          simp; omega
        rw [List.filter_cons_of_pos (by simp [h2]), hn]; simp
      · rw [List.filter_cons_of_neg (by simp [h2])]; exact ih h.2
  match e : atT ps t with
  | [] => rfl
  | [_] => rfl
  | _ :: _ :: _ => rw [e] at hl; simp at hl
theorem out_step {od : List Int} {ps : List (Int × Int)} {clk : Int} (h : RA od ps clk) (t : Int) : outT ps (t - 1) = outT ps t ++ atT ps t := by
  unfold outT
  rw [out_split h.up t, List.map_append, List.reverse_append]
  congr 1
  exact at_one h.up t
theorem out_top {od : List Int} {ps : List (Int × Int)} {clk : Int} (h : RA od ps clk) : outT ps clk = [] := by
  unfold outT
  have : (ps.filter fun p => decide (clk < p.2)) = [] := by
    rw [List.filter_eq_nil_iff]
    intro q hq
    have := (h.time q hq).2
    simp; omega
  rw [this]; rfl
theorem out_all {od : List Int} {ps : List (Int × Int)} {clk t : Int} (h : RA od ps clk) (ht : t ≤ 0 ∨ ps.length ≤ (outT ps t).length) : outT ps t = od := by
  have : (ps.filter fun p => decide (t < p.2)) = ps := by
    rcases ht with ht | ht
    · rw [List.filter_eq_self]
      intro q hq
      have := (h.time q hq).1
      simp; omega
    · unfold outT at ht
      rw [List.length_reverse, List.length_map] at ht
      exact List.filter_sublist.eq_of_length_le ht
  unfold outT
  rw [this, h.keys, List.reverse_reverse]
theorem at_skip {ps : List (Int × Int)} {t : Int} {i : Nat} (h : i < ps.length) (e : ps[i].2 ≠ t) : atT (ps.take (i + 1)) t = atT (ps.take i) t := by
  unfold atT
  rw [List.take_succ_eq_append_getElem h, List.filter_append]; simp [e]
theorem at_put {ps : List (Int × Int)} {t : Int} {i : Nat} (h : i < ps.length) (e : ps[i].2 = t) : atT (ps.take (i + 1)) t = atT (ps.take i) t ++ [ps[i].1] := by
  unfold atT
  rw [List.take_succ_eq_append_getElem h, List.filter_append]; simp [e]

theorem refLruNew_bad (cap : Int) (w : World) (h : cap < 1 ∨ 16 < cap) :
    Calls Try.prog 34 #[.int .i64 cap] w fun e w' => e = .returned (.tuple #[.pointer none, .int .i64 2]) ∧ Only (fun _ => False) w w' := by
  have HN := Lib.hid (refNew_bad cap w h)
  clear h
  go_enter Try.func34, Try.ntmps34
  go_wp2_with fail
  refine HN.out.mono ?_
  rintro e w1 ⟨rfl, ho⟩
  go_wp2_with fail
  go_ret2
  exact ⟨rfl, ho⟩
/-- the document's LRU, whole: its clock was moved at most n times -/
def RefL (rg bx : Nat) (cap : Int) (s : List PairD × List Int) (n : Int) (S : Nat → Prop) (w : World) : Prop := ∃ ps clk, (RA s.2 ps clk ∧ 0 ≤ clk ∧ clk ≤ n) ∧ RefP rg bx cap ps clk s.1 S w
theorem RefL.framed {rg bx : Nat} {cap : Int} {s : List PairD × List Int} {n : Int} : Framed (RefL rg bx cap s n) := Framed.ex fun _ => Framed.ex fun _ => Framed.and (Framed.pure _) RefP.framed
theorem refLruNew_ok (cap : Int) (w : World) (h1 : 1 ≤ cap) (h2 : cap ≤ 16) :
    Calls Try.prog 34 #[.int .i64 cap] w fun e w' => ∃ rg, e = .returned (.tuple #[.pointer (some ⟨rg, 0, none⟩), .int .i64 0]) ∧ (∃ bx, RefL rg bx cap ([], []) 0 (fun k => w.heap.size ≤ k) w') ∧ Only (fun _ => False) w w' := by
  have HN := Lib.hid (refNew_ok cap w h1 h2)
  have HG := Lib.hid (good_nil h1 h2)
  clear h1 h2
  go_enter Try.func34, Try.ntmps34
  go_wp2_with fail
  refine HN.out.mono ?_
  rintro e w1 ⟨b, rfl, hb, ho⟩
  go_wp2_with fail
  go_ret2
  have hb2 : RefB b cap [] (fun k => w.heap.size ≤ k) w1 := ⟨[], ⟨HG.out, rfl, fun _ => Iff.rfl, List.Pairwise.nil⟩, hb⟩
  have hU : Upd (RefB b cap []) (fun k => w.heap.size ≤ k) w w1 := ⟨RefB.framed.mono _ _ _ hb2 fun _ _ h => .inl h, ho.mono fun _ _ h => h.elim⟩
  have hU2 := hU.add RefB.framed (Q := RefO w1.heap.size b [] 0) RefO.framed (w2 := w1.alloc (.cells #[.pointer (some ⟨b, 0, none⟩), .slice none 0 0, .slice none 0 0, .int .i64 0] 95)) ⟨.slice none 0 0, .slice none 0 0, heap_alloc_new w1 _, OwS.nil _ _, OwS.nil _ _, Nat.le_refl _⟩ (Only.alloc _ _ _)
  refine ⟨w1.heap.size, rfl, ⟨b, [], 0, ⟨⟨rfl, List.Pairwise.nil, fun p hp => by simp at hp⟩, Int.le_refl _, Int.le_refl _⟩, RefP.framed.mono _ _ _ hU2.1.swap fun _ _ h => ?_⟩, ho.tr (Only.alloc _ _ _)⟩
  exact h.elim id id
theorem refLruDo_ {rg bx : Nat} {cap : Int} {s s' : List PairD × List Int} {n : Int} {T : Nat → Prop} {w : World} (hT : RefL rg bx cap s n T w) (G : LGood cap s) (hn : n < 4611686018427387904) {op key val : Int} {r : ResD} (hd : lruP cap s op key val = (r, s')) :
    Calls Try.prog 35 #[.pointer (some ⟨rg, 0, none⟩), .int .i64 op, .int .u64 key, .int .u64 val] w fun e w' => e = .returned (.agg #[.int .i64 r.1, .bool r.2.1, .int .u64 r.2.2.1, .bool r.2.2.2.1, .int .u64 r.2.2.2.2.1, .int .u64 r.2.2.2.2.2]) ∧ Upd (RefL rg bx cap s' (n + 1)) T w w' := by
  obtain ⟨ps, clk, ⟨hA, h0, h1⟩, hP⟩ := hT
  have := refLru_do rg bx cap s ps clk T op key val w hP hA G h0 (by omega)
  rw [hd] at this
  exact this.mono fun e w' ⟨he, ps', clk', ⟨a, b, c⟩, hu⟩ => ⟨he, ⟨ps', clk', ⟨a, b, by omega⟩, hu.1⟩, hu.2⟩
theorem refLruPairs_ {rg bx : Nat} {cap : Int} {s : List PairD × List Int} {n : Int} {T : Nat → Prop} {w : World} (hT : RefL rg bx cap s n T w) :
    Calls Try.prog 30 #[.pointer (some ⟨bx, 0, none⟩)] w fun e w' => ∃ v', e = .returned v' ∧ OwS ePair 50 (fun k => w.heap.size ≤ k) w' v' s.1 ∧ Only (fun _ => False) w w' := by
  obtain ⟨ps, clk, _, hP⟩ := hT
  obtain ⟨L, hA, hS⟩ := hP.right RefB.framed
  exact refPairs_any bx cap s.1 L T w hA hS
theorem RefL.cells {rg bx : Nat} {cap : Int} {s : List PairD × List Int} {n : Int} {T : Nat → Prop} {w : World} (hT : RefL rg bx cap s n T w) :
    w.cell? ⟨rg, 0, none⟩ = some (.pointer (some ⟨bx, 0, none⟩)) ∧ ∃ la lc, w.cell? ⟨bx, 1, none⟩ = some (.slice la s.1.length lc) := by
  obtain ⟨ps, clk, _, hP⟩ := hT
  obtain ⟨vk, vw, vl, ⟨_, hv⟩, m0, m1, ⟨la, lc, rfl⟩, _⟩ := hP.cells
  exact ⟨hv.cells.1, la, lc, m1⟩
end Go.Proofs.Ytdlkblklfoagbaa
