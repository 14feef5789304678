/- lru: the document's LRU: forget. -/
import Derived.Test.YtodacnpbhlkoiaaLruPlain
import Derived.Test.YtodacnpbhlkoiaaBookRefAny
import Derived.Test.YtodacnpbhlkoiaaSt
namespace Go.Proofs.Ytodacnpbhlkoiaa
open Go.RowKit
set_option linter.unusedVariables false
set_option linter.unusedSimpArgs false

abbrev eI64 : Enc Int := eInt .i64
theorem eI64_at (xs : List Int) (i : Nat) (h : i < xs.length) : (eI64.all xs)[i]? = some (.int .i64 xs[i]) := eInt_at _ xs i h
theorem eI64_sl : SliceInfo Try.prog 58 3 eI64.size 8 := SliceInfo.mk' Try.underlying58 (z := .int .i64 0) (by kernel_rfl) rfl
/-- the document's LRU's own block: keys and when, as pairs; its clock -/
def RefOv (rg bx : Nat) (vk vw : Value) (ps : List (Int × Int)) (clk : Int) (S : Nat → Prop) (w : World) : Prop :=
  w.heap[rg]? = some (.cells #[.pointer (some ⟨bx, 0, none⟩), vk, vw, .int .i64 clk] 60 (0, 0)) ∧ OwS eU64 28 S w vk (ps.map (·.1)) ∧ OwS eI64 3 S w vw (ps.map (·.2)) ∧ S rg
theorem RefOv.framed {rg bx : Nat} {vk vw : Value} {ps : List (Int × Int)} {clk : Int} : Framed (RefOv rg bx vk vw ps clk) where
  only S F w w' h ho hn := ⟨ho.heap h.1 (hn _ (heap_lt h.1) h.2.2.2), OwS.framed.only _ _ _ _ h.2.1 ho hn, OwS.framed.only _ _ _ _ h.2.2.1 ho hn, h.2.2.2⟩
  mono S S' w h hs := ⟨h.1, OwS.framed.mono _ _ _ h.2.1 hs, OwS.framed.mono _ _ _ h.2.2.1 hs, hs _ (heap_lt h.1) h.2.2.2⟩
def RefO (rg bx : Nat) (ps : List (Int × Int)) (clk : Int) (S : Nat → Prop) (w : World) : Prop := ∃ vk vw, RefOv rg bx vk vw ps clk S w
theorem RefO.framed {rg bx : Nat} {ps : List (Int × Int)} {clk : Int} : Framed (RefO rg bx ps clk) := Framed.ex fun _ => Framed.ex fun _ => RefOv.framed
theorem RefOv.cells {rg bx : Nat} {vk vw : Value} {ps : List (Int × Int)} {clk : Int} {S : Nat → Prop} {w : World} (h : RefOv rg bx vk vw ps clk S w) :
    w.cell? ⟨rg, 0, none⟩ = some (.pointer (some ⟨bx, 0, none⟩)) ∧ w.cell? ⟨rg, 1, none⟩ = some vk ∧ w.cell? ⟨rg, 2, none⟩ = some vw ∧ w.cell? ⟨rg, 3, none⟩ = some (.int .i64 clk) ∧ (∀ i, w.frozen? ⟨rg, i, none⟩ = false) ∧ rg < w.heap.size :=
  ⟨blk_cell h.1 0, blk_cell h.1 1, blk_cell h.1 2, blk_cell h.1 3, blk_free h.1, heap_lt h.1⟩
/-- its two slices are set -/
theorem RefOv.set2 {rg bx : Nat} {vk vw vk' vw' : Value} {ps ps' : List (Int × Int)} {clk : Int} {S : Nat → Prop} {w w2 : World}
    (h : Upd (Sep (fun S w => OwS eU64 28 S w vk' (ps'.map (·.1))) (Sep (fun S w => OwS eI64 3 S w vw' (ps'.map (·.2))) (RefOv rg bx vk vw ps clk))) S w w2) :
    Upd (RefO rg bx ps' clk) S w ((w2.setCell ⟨rg, 1, none⟩ vk').setCell ⟨rg, 2, none⟩ vw') := by
  have h1 := h.1.left OwS.framed
  have h23 := h.1.right (Sep.framed OwS.framed RefOv.framed)
  have h2 := h23.left OwS.framed
  have h3 := h23.right RefOv.framed
  have o1 := Only.setCell (fun k => k = rg) w2 rg 1 vk' rfl
  have o2 := Only.setCell (fun k => k = rg) (w2.setCell ⟨rg, 1, none⟩ vk') rg 2 vw' rfl
  have o := o1.tr o2
  refine ⟨⟨vk', vw', blk_set (blk_set h3.1 1 vk') 2 vw', ?_, ?_, h3.2.2.2⟩, h.2.trans o fun j hj e => ?_⟩
  · exact ⟨h1.1.only o fun k hk e => row_ne h3.1 h1.1 (by decide) (by rw [hk, e]), h1.2⟩
  · exact ⟨h2.1.only o fun k hk e => row_ne h3.1 h2.1 (by decide) (by rw [hk, e]), h2.2⟩
  · subst e
    rcases h3.2.2.2 with h | h
    · exact h
    · omega
def forgetP (ps : List (Int × Int)) (key : Int) : List (Int × Int) := ps.filter fun p => p.1 != key
theorem forget_skip {ps : List (Int × Int)} {key : Int} {j : Nat} (h : j < ps.length) (e : ps[j].1 = key) : forgetP (ps.take (j + 1)) key = forgetP (ps.take j) key := by
  unfold forgetP
  rw [List.take_succ_eq_append_getElem h, List.filter_append]; simp [e]
theorem forget_put {ps : List (Int × Int)} {key : Int} {j : Nat} (h : j < ps.length) (e : ps[j].1 ≠ key) : forgetP (ps.take (j + 1)) key = forgetP (ps.take j) key ++ [ps[j]] := by
  unfold forgetP
  rw [List.take_succ_eq_append_getElem h, List.filter_append]; simp [e]
theorem map_len1 (ps : List (Int × Int)) : (ps.map (·.1)).length = ps.length := by simp
theorem map_len2 (ps : List (Int × Int)) : (ps.map (·.2)).length = ps.length := by simp
set_option maxRecDepth 100000 in
set_option maxHeartbeats 2000000 in
theorem forget_any (rg bx : Nat) (ps : List (Int × Int)) (clk key : Int) (S : Nat → Prop) (w : World) (H : RefO rg bx ps clk S w) (hn : ps.length ≤ 100) :
    Calls Try.prog 35 #[.pointer (some ⟨rg, 0, none⟩), .int .u64 key] w fun e w' => e = .returned (.tuple #[]) ∧ Upd (RefO rg bx (forgetP ps key) clk) S w w' := by
  obtain ⟨vk, vw, H⟩ := H
  have HU := Lib.hid (Upd.refl RefOv.framed H)
  have hk1 := H.2.1.rd
  have hk2 := H.2.2.1.rd
  obtain ⟨_, ak, ck, rfl, _, _, _⟩ := hk1
  obtain ⟨_, aw, cw, rfl, _, _, _⟩ := hk2
  rw [map_len1] at HU H
  rw [map_len2] at HU H
  obtain ⟨q0, q1, q2, q3, qf, hgl⟩ := H.cells
  clear H qf
  go_enter Try.func35, Try.ntmps35
  go_wp2_with fail
  go_loopw [4, 5, 6] (fun t4 t5 t6 wr => ∃ (j : Nat) (qs : List (Int × Int)) (a1 a2 : Option Addr) (c1 c2 : Nat), j ≤ ps.length ∧ qs.length ≤ j ∧ t6 = .int .i64 j ∧ t4 = .slice a1 qs.length c1 ∧ t5 = .slice a2 qs.length c2 ∧ Hid (qs = forgetP (ps.take j) key) ∧
    Hid (Upd (Sep (fun S w => OwS eU64 28 S w (.slice a1 qs.length c1) (qs.map (·.1))) (Sep (fun S w => OwS eI64 3 S w (.slice a2 qs.length c2) (qs.map (·.2))) (RefOv rg bx (.slice ak ps.length ck) (.slice aw ps.length cw) ps clk))) S w wr)) (fun _ _ t6 _ => ps.length - (intOf t6).toNat)
  case atStart => exact ⟨0, [], none, none, 0, 0, Nat.zero_le _, Nat.le_refl _, rfl, rfl, rfl, Lib.hid rfl, Lib.hid (HU.out.imp fun T h => Sep.nilL (E := eU64) (ty := 28) (Sep.nilL (E := eI64) (ty := 3) h))⟩
  case round =>
    clear HU q0 q1 q2 q3
    obtain ⟨j, qs, a1, a2, c1, c2, hj, hql, rfl, rfl, rfl, HX, HQ⟩ := hrel
    obtain ⟨_, h23⟩ := HQ.out.getR
    have h3 := h23.right RefOv.framed
    obtain ⟨q0, q1, q2, q3, qf, hgl2⟩ := h3.cells
    have HK := Lib.hid h3.2.1.rd
    clear h23 qf
    by_cases hjl : j < ps.length
    · obtain ⟨_, ao', c', hao, _, _, hx⟩ := HK.out
      obtain ⟨rfl, -, rfl⟩ : ak = ao' ∧ ps.length = (ps.map (·.1)).length ∧ ck = c' := by simpa using hao
      obtain ⟨kb, ko, rfl, hc⟩ := hx (by rw [map_len1]; omega)
      have f0 := hc j _ (eU64_at _ j (by rw [map_len1]; exact hjl))
      rw [List.getElem_map] at f0
      have hm0 : (0 : Int) ≤ (j : Int) := by omega
      have hm1 : (j : Int) < (ps.length : Int) := by omega
      have HS := Lib.hid (show (ps[j].1 = key → forgetP (ps.take (j + 1)) key = forgetP (ps.take j) key) ∧ (ps[j].1 ≠ key → forgetP (ps.take (j + 1)) key = forgetP (ps.take j) key ++ [(ps[j].1, ps[j].2)]) from ⟨forget_skip hjl, forget_put hjl⟩)
      clear hc hx hao
      obtain ⟨_, ao', c', hao, _, _, hx⟩ := h3.2.2.1.rd
      obtain ⟨rfl, -, rfl⟩ : aw = ao' ∧ ps.length = (ps.map (·.2)).length ∧ cw = c' := by simpa using hao
      obtain ⟨wb, wo, rfl, hc⟩ := hx (by rw [map_len2]; omega)
      have HKW := Lib.hid (fun (W : World) (T : Nat → Prop) (h : RefOv rg bx (.slice (some ⟨kb, ko, none⟩) ps.length ck) (.slice (some ⟨wb, wo, none⟩) ps.length cw) ps clk T W) => show W.cell? ⟨wb, wo + j, none⟩ = some (.int .i64 ps[j].2) from by
        obtain ⟨_, ao', c', hao, _, _, hx⟩ := h.2.2.1.rd
        obtain ⟨hab, -, -⟩ : some (⟨wb, wo, none⟩ : Addr) = ao' ∧ ps.length = (ps.map (·.2)).length ∧ cw = c' := by simpa using hao
        obtain ⟨sb, off, hso, hc⟩ := hx (by rw [map_len2]; omega)
        obtain ⟨rfl, rfl⟩ : wb = sb ∧ wo = off := by rw [hso] at hab; simpa using hab
        have f0 := hc j _ (eI64_at _ j (by rw [map_len2]; exact hjl))
        rw [List.getElem_map] at f0
        exact f0)
      clear hc hx hao h3
      generalize ps[j].1 = p0 at *
      generalize ps[j].2 = p1 at *
      by_cases hpk : p0 = key
      · have hpb : (p0 != key) = false := by simpa using hpk
        have HS2 := Lib.hid (HX.out.trans (HS.out.1 hpk).symm)
        clear hpk
        go_wp2_with fail
        go_roundw
        case rel => exact ⟨j + 1, qs, a1, a2, c1, c2, by omega, by omega, by go_num, rfl, rfl, HS2, HQ⟩
        case measure => simp [intOf]; omega
      · have hpb : (p0 != key) = true := by simpa using hpk
        have HS2 := Lib.hid (show qs ++ [(p0, p1)] = forgetP (ps.take (j + 1)) key by rw [HX.out]; exact (HS.out.2 hpk).symm)
        have HLN := Lib.hid (show (qs ++ [(p0, p1)]).length = qs.length + 1 by simp)
        have HQ2 := Lib.hid (HQ.out.fresh (Sep.framed OwS.framed (Sep.framed OwS.framed RefOv.framed)) (Only.alloc (fun _ => False) _ (.cells #[.int .u64 p0] 28)))
        obtain ⟨A, hA, hbk⟩ := HQ2.out.call (Sep.framed OwS.framed RefOv.framed) OwS.framed
        have HA := Lib.hid hA
        have HB := Lib.hid hbk
        have HRL := Lib.hid (Rd.lit (E := eU64) wr #[.int .u64 p0] 28 (0, 0) 1 1 [p0] rfl rfl (by simp) (by simp [maxLen]))
        have HML := Lib.hid (map_len1 qs)
        clear hA hbk hpk
        go_wp2_with (at_builtin; refine wl_appendS (E := eU64) rfl _ (.tmp 33) _ rfl 28 8 eU64_sl A _ (qs.map (fun p : Int × Int => p.1)) rfl HA.out _ [p0] rfl HRL.out (by rw [HML.out]; simp only [List.length_cons, List.length_nil]; omega) (by rw [HML.out]; unfold maxLen; simp only [List.length_cons, List.length_nil]; omega) ?_)
        intro va wa ha hOa
        have HQ3 := Lib.hid (HB.out (fun S w => OwS eU64 28 S w va (qs.map (·.1) ++ [p0])) wa OwS.framed ⟨OwS.framed.mono _ _ _ ha fun k _ h => h.imp id fun h => by simpa using h, hOa⟩)
        obtain ⟨_, xo1, xc1, rfl, _⟩ := id ha.1
        obtain ⟨_, h23⟩ := HQ3.out.getR
        have h3 := h23.right RefOv.framed
        obtain ⟨q0, q1, q2, q3, qf, hgl2⟩ := h3.cells
        have f1 := HKW.out _ _ h3
        have HL1 := Lib.hid (show (qs.map (·.1) ++ [p0]).length = qs.length + 1 by simp)
        have HQ4 := Lib.hid (HQ3.out.turn.fresh (Sep.framed OwS.framed (Sep.framed OwS.framed RefOv.framed)) (Only.alloc (fun _ => False) _ (.cells #[.int .i64 p1] 3)))
        obtain ⟨A2, hA, hbk⟩ := HQ4.out.call (Sep.framed OwS.framed RefOv.framed) OwS.framed
        have HA2 := Lib.hid hA
        have HB2 := Lib.hid hbk
        have HRL2 := Lib.hid (Rd.lit (E := eI64) wa #[.int .i64 p1] 3 (0, 0) 1 1 [p1] rfl rfl (by simp) (by simp [maxLen]))
        have HML2 := Lib.hid (map_len2 qs)
        clear ha hOa HB HA HQ2 HRL h23 h3 qf hA hbk HQ3
        go_wp2_with (at_builtin; refine wl_appendS (E := eI64) rfl _ (.tmp 43) _ rfl 3 8 eI64_sl A2 _ (qs.map (fun p : Int × Int => p.2)) rfl HA2.out _ [p1] rfl HRL2.out (by rw [HML2.out]; simp only [List.length_cons, List.length_nil]; omega) (by rw [HML2.out]; unfold maxLen; simp only [List.length_cons, List.length_nil]; omega) ?_)
        intro vb wb2 ha hOa
        have HQ5 := Lib.hid ((HB2.out (fun S w => OwS eI64 3 S w vb (qs.map (·.2) ++ [p1])) wb2 OwS.framed ⟨OwS.framed.mono _ _ _ ha fun k _ h => h.imp id fun h => by simpa using h, hOa⟩).turn)
        obtain ⟨_, xo2, xc2, rfl, _⟩ := id ha.1
        have HL2 := Lib.hid (show (qs.map (·.2) ++ [p1]).length = qs.length + 1 by simp)
        clear ha hOa HB2 HA2 HQ4 HRL2
        go_wp2_with fail
        go_roundw
        case rel => exact ⟨j + 1, qs ++ [(p0, p1)], xo1, xo2, xc1, xc2, by omega, by rw [HLN.out]; omega, by go_num, by simp, by simp, HS2, Lib.hid (by
          have h := HQ5.out
          try rw [HL1.out] at h
          try rw [HL2.out] at h
          rw [HLN.out, List.map_append, List.map_append]; exact h)⟩
        case measure => simp [intOf]; omega
    · obtain rfl : j = ps.length := by omega
      have HX2 := Lib.hid (show qs = forgetP ps key by have := HX.out; rwa [List.take_length] at this)
      have z1 := blk_free h3.1 1
      have z2 := blk_free h3.1 2
      have HF := Lib.hid (RefOv.set2 HQ.out)
      clear h3 HX HQ
      go_wp2_with fail
      go_end0
      exact ⟨rfl, by rw [← HX2.out]; exact HF.out⟩
end Go.Proofs.Ytodacnpbhlkoiaa
