/- The law PlaceApart: its walk. -/
import Derived.Test.YtgegpejjnpjdlaaPlaceAwake
import Derived.Test.YtgegpejjnpjdlaaNumbers
import Derived.Test.YtgegpejjnpjdlaaOpen
import Derived.Test.YtgegpejjnpjdlaaApartPlain
import Derived.Deep.RegionHeld3
namespace Go.Proofs.Ytgegpejjnpjdlaa
open Go.RowKit
set_option linter.unusedVariables false

theorem gs_app {base tyo tyi : Nat} {w w' : World} {v : Value} {m : Nat} {vs : Nat → SV} {L : Nat → List Int} (hty : tyo ≠ tyi)
    (h1 : Ow eSl base tyo w v ((List.range m).map vs)) (h2 : ∀ t, t < m → Ow eU64 base tyi w (vs t).val (L t))
    (h3 : ∀ s t, s < m → t < m → s ≠ t → (vs s).val.ownBlock = none ∨ (vs s).val.ownBlock ≠ (vs t).val.ownBlock)
    {s : Nat} (hs : s < m) {gg : Value} {ys : List Int} (hg : Ow eU64 base tyi w gg ys) (hcase : vstart gg = vstart (vs s).val ∨ ∀ g, gg.ownBlock = some g → ∀ t, t < m → (vs t).val.ownBlock ≠ some g)
    (hgrow : w.grownBy w' gg.ownBlock) (hview : ∀ q zs, Ow eU64 base tyi w q zs → vstart q = vstart gg → zs.length ≤ ys.length → Ow eU64 base tyi w' q zs) (hlen : (L s).length ≤ ys.length) :
    Ow eSl base tyo w' v ((List.range m).map vs) ∧ ∀ t, t < m → Ow eU64 base tyi w' (vs t).val (L t) := by
  constructor
  · refine h1.kept fun g hvg => hgrow.block g (h1.lt hvg).2 (fun e => ?_)
    obtain ⟨c1, e1⟩ := h1.type hvg
    obtain ⟨c2, e2⟩ := hg.type e.symm
    rw [e1] at e2; simp at e2; exact hty e2.2
  · intro t ht
    rcases hcase with hc | hc
    · by_cases e : t = s
      · subst e; exact hview _ _ (h2 t ht) hc.symm hlen
      · have hob : gg.ownBlock = (vs s).val.ownBlock := by
          obtain ⟨_, ao, cap, rfl, _⟩ := hg
          have hc' : ao = (vs s).1 := hc
          subst hc'
          cases h : (vs s).1 <;> simp [Value.ownBlock, SV.val, h]
        exact (h2 t ht).grown hgrow (by rw [hob]; exact h3 t s ht hs e)
    · refine (h2 t ht).kept fun g hvg => hgrow.block g ((h2 t ht).lt hvg).2 (fun e => hc g e.symm t ht hvg)

set_option maxRecDepth 100000 in
set_option maxHeartbeats 8000000 in
theorem placeApart_any (xs : List Int) (v : Value) (n : Int) (w : World) (hv : Rd eU64 w v xs) (hl : xs.length * 8 ≤ 140737488351232) (hwf : ∀ x ∈ xs, (Lit.int .u64 x).wf = true)
    (hn : -9223372036854775808 ≤ n ∧ n ≤ 9223372036854775807) :
    Calls Try.prog 6 #[v, .int .i64 n] w fun e w' => e = .returned (.bool true) ∧ Below w.heap.size w w' := by
  clear hwf
  have hl' : xs.length ≤ maxLen := by unfold maxLen; omega
  obtain ⟨hn0, hn1⟩ := hn
  obtain ⟨vo, vc, rfl⟩ : ∃ vo vc, v = .slice vo xs.length vc := by obtain ⟨_, a, c, h, _⟩ := hv; exact ⟨a, c, h⟩
  by_cases hin : n < 1 ∨ 4 < n
  · have hN : nSh n = 0 := by rw [nSh, if_pos hin]
    have HIN := Lib.hid hin
    have hcases : (decide (n < 1) = true) ∨ (decide (n < 1) = false ∧ decide (4 < n) = true) := by simp; omega
    clear hin
    rcases hcases with hc | ⟨hc, hc2⟩
    all_goals
      go_enter Try.func6, Try.ntmps6
      go_wp2_with fail
      refine (awake_any _).mono ?_
      rintro e w1 ⟨rfl, hb1⟩
      have hsz1 := hb1.size
      have hv1 := hv.grow hb1
      go_wp2_with (at_builtin; refine wl_append (E := eU64) rfl _ (.tmp 18) _ rfl w.heap.size 22 8 sliceU64 _ [] rfl (Ow.lit w1 _ _ _ _ _ (by simp [Enc.all]) rfl (by simp) hsz1) _ xs rfl (hv1.alloc _) (by simp; omega) (by simp; omega) (by simp; omega) ?_)
      intro vi w2 hown2 hgrow2 _ _
      have hb2 : Below w.heap.size w w2 := (hb1.alloc hsz1 _).grown hgrow2 (by simp; omega) (by simp [Value.ownBlock]; omega)
      clear hgrow2 hv1
      go_wp2_with fail
      refine (split_any n xs vi w2 hown2.rd (by omega)).mono ?_
      rintro e w3 ⟨va, rfl, hga, hb3⟩
      obtain ⟨aoa, capa, rfl⟩ := hga.len
      rw [hN]
      have hb3' := bthen hb2 hb3
      clear hga hb3 hb2 hown2 hb1
      go_wp2_with fail
      go_ret
      exact ⟨rfl, hb3'⟩
  · have h1 : ¬ n < 1 := by omega
    have h4 : ¬ 4 < n := by omega
    obtain ⟨m, rfl⟩ : ∃ m : Nat, n = m := ⟨n.toNat, by omega⟩
    have hN : nSh m = m := by rw [nSh, if_neg hin, Int.toNat_natCast]
    have hm1 : 1 ≤ m := by omega
    have hm4 : m ≤ 4 := by omega
    clear hin
    obtain ⟨M, hM⟩ : ∃ M : Nat → List Int, M = fun s : Nat => mineS s m xs := ⟨_, rfl⟩
    have HML : Hid (∀ s, (M s).length ≤ xs.length) := fun s => by rw [hM]; exact mineS_le _ _ _
    have HMO : Hid (∀ (s i : Nat) (h : i < (M s).length), ofS ((M s)[i]) m = s) := fun s i h => by subst hM; exact mineS_of _ _ _ _ h
    have HMC : Hid (∀ s, cnt m xs (s + 1) = cnt m xs s + (M s).length) := fun s => by rw [hM]; rfl
    have HCN : Hid (cnt m xs m = xs.length) := cnt_all m xs hm1
    have hmine : ∀ (s : Nat) (w : World), Rd eU64 w (.slice vo xs.length vc) xs → Calls Try.prog 13 #[.int .i64 s, .int .i64 m, .slice vo xs.length vc] w fun e w' => ∃ v', e = .returned v' ∧ Ow eU64 w.heap.size 22 w' v' (M s) ∧ Below w.heap.size w w' :=
      fun s w h => by subst hM; exact mine_any s m xs _ w h (by omega) (by omega)
    have HMINE := Lib.hid hmine
    have hsplit : ∀ (v : Value) (w : World), Rd eU64 w v xs → Calls Try.prog 10 #[.int .i64 m, v] w fun e w' => ∃ v', e = .returned v' ∧ Grid eU64 w.heap.size 26 22 w' v' m M ∧ Below w.heap.size w w' :=
      fun v w h => by subst hM; exact split_yes m xs v w h (by omega) hm1 hm4
    have HSPL := Lib.hid hsplit
    clear hmine hsplit hM
    have hmm : (((m : Nat) : Int) != ((m : Nat) : Int)) = false := by simp
    have hd1 : decide ((m : Int) < 1) = false := by simp; omega
    have hd2 : decide ((4 : Int) < m) = false := by simp; omega
    have hxx : (((xs.length : Nat) : Int) != ((xs.length : Nat) : Int)) = false := by simp
    go_enter Try.func6, Try.ntmps6
    go_wp2_with fail
    refine (awake_any _).mono ?_
    rintro e w1 ⟨rfl, hb1⟩
    have hsz1 := hb1.size
    have hv1 := hv.grow hb1
    go_wp2_with (at_builtin; refine wl_append (E := eU64) rfl _ (.tmp 18) _ rfl w.heap.size 22 8 sliceU64 _ [] rfl (Ow.lit w1 _ _ _ _ _ (by simp [Enc.all]) rfl (by simp) hsz1) _ xs rfl (hv1.alloc _) (by simp; omega) (by simp; omega) (by simp; omega) ?_)
    intro vi w2 hown2 hgrow2 _ _
    have hb2 : Below w.heap.size w w2 := (hb1.alloc hsz1 _).grown hgrow2 (by simp; omega) (by simp [Value.ownBlock]; omega)
    have hri2 := hown2.rd
    have hv2 := hv.grow hb2
    clear hgrow2 hv1 hown2
    go_wp2_with fail
    refine (HSPL.out vi w2 hri2).mono ?_
    rintro e w3 ⟨va, rfl, hga, hb3⟩
    obtain ⟨aoa, capa, rfl⟩ := hga.len
    have hb3' := bthen hb2 hb3
    clear hb1
    obtain ⟨gA, oA, aoA, cA, rfl, _⟩ := hga.get rfl (s := 0) (by omega)
    have hcn0 : cnt m xs 0 = 0 := rfl
    go_wp2_with fail
    -- the counts
    go_loopw [7, 8] (fun nn ss wr => ∃ s : Nat, s ≤ m ∧ ss = .int .i64 s ∧ nn = .int .i64 (cnt m xs s : Nat) ∧ Below w3.heap.size w3 wr) (fun _ ss _ => m - (intOf ss).toNat)
    case atStart => exact ⟨0, Nat.zero_le _, rfl, rfl, Below.refl _ _⟩
    case round =>
      obtain ⟨s, hs, rfl, rfl, hbr⟩ := hrel
      by_cases hlt : s < m
      · obtain ⟨g1, o1, ao1, cap1, he, c1, _, hw1⟩ := (hga.grow hbr).get rfl hlt
        obtain ⟨rfl, rfl⟩ : gA = g1 ∧ oA = o1 := by simpa using he
        have lg1 := World.block_lt_of_cell? wr _ c1
        have hcs := HMC.out s
        have hcl := cnt_le m xs s
        have hMl := HML.out s
        have hsum : cnt m xs s + (M s).length ≤ xs.length := by rw [← hcs]; exact cnt_le _ _ _
        have HCS := Lib.hid hcs
        clear hcs
        have k0 : (0 : Int) ≤ (s : Int) := by omega
        have k1 : (s : Int) < (m : Int) := by omega
        have hvr := hv2.grow (bthen hb3 hbr)
        have hw1r := hw1.rd
        go_wp2_with fail
        go_region_held3 (fun w' => Below wr.heap.size wr w' ∧ w'.cell? ⟨gA, oA + s, none⟩ = some (.slice ao1 (M s).length cap1))
          ((refine keep1 ?_ lg1 c1; first | exact (Below.refl _ _).drew | exact hbk | exact hbj))
          (first
            | (go_at_call 13; refine (HMINE.out s _ (hvr.drew)).mono ?_; rintro e wj ⟨vj, rfl, howj, hbj0⟩; have hbj : Below wr.heap.size wr wj := bthen ((Below.refl _ _).drew) hbj0)
            | (go_at_call 11; refine (numbers_bel _ _ _ _ (hw1r.grow hbj) howj.rd).mono ?_; rintro e wk ⟨rfl, hbk0⟩; have hbk := bthen hbj hbk0))
        clear hw1 hw1r howj hbj0 hbj hbk0 hvr c1
        go_wp2_with fail
        go_roundw
        case rel => exact ⟨s + 1, by omega, by go_num, by rw [HCS.out]; go_num, bthen hbr hbk⟩
        case measure => simp [intOf]; omega
      · obtain rfl : m = s := by omega
        rw [HCN.out]
        have hgr := hga.grow hbr
        have hb4 := bthen hb3 hbr
        have hb4' := bthen hb3' hbr
        have hsz4 := hb4.size
        clear hga hbr hcn0 HCN HMC
        rw [← apL_zero M] at hgr
        go_wp2_with fail
        -- the lists are overwritten
        go_loopw [9, 10] (fun ss _ wq => ∃ s : Nat, s ≤ m ∧ ss = .int .i64 s ∧ Grid eU64 w2.heap.size 26 22 wq (.slice (some ⟨gA, oA, none⟩) m capa) m (apL M s 0) ∧ Below w2.heap.size w2 wq) (fun ss _ _ => m - (intOf ss).toNat)
        case atStart => exact ⟨0, Nat.zero_le _, rfl, hgr, hb4⟩
        case round =>
          clear hgr hb4 hb4'
          obtain ⟨s, hs, rfl, hgr, hbr⟩ := hrel
          by_cases hlt : s < m
          · go_wp2_with fail
            have hMl := HML.out s
            go_loopw [10] (fun ii wi => ∃ i : Nat, i ≤ (M s).length ∧ ii = .int .i64 i ∧ Grid eU64 w2.heap.size 26 22 wi (.slice (some ⟨gA, oA, none⟩) m capa) m (apL M s i) ∧ Below w2.heap.size w2 wi) (fun ii _ => (M s).length - (intOf ii).toNat)
            case atStart => exact ⟨0, Nat.zero_le _, rfl, hgr, hbr⟩
            case round =>
              clear hgr hbr
              obtain ⟨i, hi, rfl, hgi, hbi⟩ := hrel
              obtain ⟨g1, o1, ao1, cap1, he, c1, _, hw1⟩ := hgi.get rfl hlt
              obtain ⟨rfl, rfl⟩ : gA = g1 ∧ oA = o1 := by simpa using he
              have hlen := apL_len M s i s hi
              rw [hlen] at c1 hw1
              by_cases hilt : i < (M s).length
              · obtain ⟨gi, oi, rfl, hgib, hcell⟩ := hw1.at_ i (by omega)
                obtain ⟨c2, f2⟩ := hcell 0 (by decide)
                have hof := HMO.out s i hilt
                rw [apL_get M s i hilt (by omega)] at c2
                obtain ⟨x, hx⟩ : ∃ x, x = (M s)[i] := ⟨_, rfl⟩
                have e1 : oi + (i * eU64.size + 0) = oi + i := by simp [eInt]
                rw [← hx] at hof
                rw [e1] at f2
                have c2' : wr.cell? ⟨gi, oi + i, none⟩ = some (.int .u64 x) := by rw [hx, ← e1, c2]; rfl
                have hofs : ∀ w, Calls Try.prog 8 #[.int .u64 x, .int .i64 m] w fun e w' => e = .returned (.int .i64 s) ∧ w = w' := fun w => by rw [← hof]; exact of_any x m w (by omega)
                have HOF := Lib.hid hofs
                have hst := hgi.storeAt (by decide) hlt (by rw [hlen]; exact c1) i (by omega) (100 + (s : Int))
                rw [apL_set M s i hilt] at hst
                have hst' : Grid eU64 w2.heap.size 26 22 (wr.setCell ⟨gi, oi + i, none⟩ (.int .u64 (100 + (s : Int)))) (.slice (some ⟨gA, oA, none⟩) m capa) m (apL M s (i + 1)) := by
                  have e2 : oi + i * eU64.size = oi + i := by simp [eInt]
                  rw [e2] at hst; exact hst
                have hbs := hbi.setCell (p := ⟨gi, oi + i, none⟩) hgib (.int .u64 (100 + (s : Int)))
                have hss : (((s : Nat) : Int) != ((s : Nat) : Int)) = false := by simp
                clear hofs hof hx hst c2 hcell e1 hgi hw1 hlen
                go_wp2_with (go_at_call 8; refine (HOF.out _).mono ?_; rintro e w' ⟨rfl, rfl⟩)
                go_roundw
                case rel => exact ⟨i + 1, by omega, by go_num, hst', hbs⟩
                case measure => simp [intOf]; omega
              · have hie : i = (M s).length := by omega
                subst hie
                rw [apL_next] at hgi
                clear hw1
                go_wp2_with fail
                go_roundw
                case rel => exact ⟨s + 1, by omega, by go_num, hgi, hbi⟩
                case measure => simp [intOf]; omega
          · obtain rfl : m = s := by omega
            go_wp2_with fail
            -- spare room is written behind each list
            go_loopw [11, 12, 13, 14] (fun ss _ _ _ wq => ∃ s : Nat, s ≤ m ∧ ss = .int .i64 s ∧ Grid eU64 w2.heap.size 26 22 wq (.slice (some ⟨gA, oA, none⟩) m capa) m (apL M m 0) ∧ Below w2.heap.size w2 wq) (fun ss _ _ _ _ => m - (intOf ss).toNat)
            case atStart => exact ⟨0, Nat.zero_le _, rfl, hgr, hbr⟩
            case round =>
              clear hgr hbr
              obtain ⟨s, hs, rfl, hgr, hbr⟩ := hrel
              by_cases hlt : s < m
              · have hsz5 := hbr.size
                have hlen := apL_end M m s hlt
                have hMl := HML.out s
                obtain ⟨vs, g1, g2, g3⟩ := hgr
                obtain ⟨⟨ao1, n1, cap1⟩, hvs⟩ : ∃ p : SV, vs s = p := ⟨_, rfl⟩
                have hws := g2 s hlt
                obtain ⟨L, hL⟩ : ∃ L, L = apL M m 0 := ⟨_, rfl⟩
                have hLs : L s = List.replicate (M s).length (100 + (s : Int)) := by rw [hL]; exact hlen
                rw [← hL] at g2 hws
                rw [hvs] at hws
                have hn1 : n1 = (M s).length := by
                  obtain ⟨_, ao, c, h, _⟩ := hws
                  have : n1 = (L s).length := by simp [SV.val] at h; exact h.2.1
                  rw [this, hLs, List.length_replicate]
                subst hn1
                have hlo : ∀ wz, Ow eSl w2.heap.size 26 wz (.slice (some ⟨gA, oA, none⟩) m capa) ((List.range m).map vs) → wz.cell? ⟨gA, oA + s, none⟩ = some (.slice ao1 (M s).length cap1) := by
                  intro wz hz
                  obtain ⟨g', off', hao, _, hc⟩ := hz.at_ s (by simpa using hlt)
                  obtain ⟨rfl, rfl⟩ : gA = g' ∧ oA = off' := by simpa using hao
                  have := (hc 0 (by decide)).1
                  simp [eSl, hvs] at this
                  rw [this]; rfl
                have HLO := Lib.hid hlo
                have c1 := hlo _ g1
                have hbl : ∀ t, t < m → ∀ g, (vs t).val.ownBlock = some g → g < wr.heap.size := fun t ht g hg => ((g2 t ht).lt hg).2
                have HBL := Lib.hid hbl
                have hw0 : Ow eU64 w2.heap.size 22 wr (.slice ao1 (M s).length cap1) (L s ++ List.replicate 0 7) := by rw [List.replicate_zero, List.append_nil]; exact hws
                clear hlo hbl hlen hws
                have hLl : (L s).length = (M s).length := by rw [hLs, List.length_replicate]
                have HLl := Lib.hid hLl
                have HLs := Lib.hid hLs
                have HL := Lib.hid hL
                have HVS := Lib.hid hvs
                clear hLl hLs hL hvs
                obtain ⟨w5, hw5⟩ : ∃ w5 : World, w5 = wr := ⟨_, rfl⟩
                rw [← hw5] at g1 g2 hbr hsz5 hw0 HBL c1
                rw [← hw5]
                clear hw5
                go_wp2_with fail
                go_loopw [12, 13] (fun gg kk wi => ∃ k : Nat, k ≤ 17 ∧ kk = .int .i64 k ∧ Ow eSl w2.heap.size 26 wi (.slice (some ⟨gA, oA, none⟩) m capa) ((List.range m).map vs) ∧ (∀ t, t < m → Ow eU64 w2.heap.size 22 wi (vs t).val (L t)) ∧
                    Ow eU64 w2.heap.size 22 wi gg (L s ++ List.replicate k 7) ∧ (vstart gg = vstart (vs s).val ∨ ∀ g, gg.ownBlock = some g → w5.heap.size ≤ g) ∧ Below w2.heap.size w2 wi ∧ w5.heap.size ≤ wi.heap.size) (fun _ kk _ => 17 - (intOf kk).toNat)
                case atStart => exact ⟨0, by omega, rfl, g1, g2, hw0, .inl (by rw [HVS.out]; rfl), hbr, Nat.le_refl _⟩
                case round =>
                  clear g1 g2 hw0 hbr c1
                  obtain ⟨k, hk, rfl, g1, g2, hwg, hst, hbr, hsz6⟩ := hrel
                  have hsz7 := hbr.size
                  have hLl := HLl.out
                  have hlk : (L s ++ List.replicate k (7 : Int)).length = (M s).length + k := by rw [List.length_append, List.length_replicate, hLl]
                  have HLK := Lib.hid hlk
                  by_cases hk17 : k < 17
                  · have e7 : (L s ++ List.replicate k 7) ++ [7] = L s ++ List.replicate (k + 1) (7 : Int) := by rw [List.replicate_succ', List.append_assoc]
                    obtain ⟨YS, hYS⟩ : ∃ YS, YS = L s ++ List.replicate k (7 : Int) := ⟨_, rfl⟩
                    rw [← hYS] at e7 hwg HLK
                    have E7 := Lib.hid e7
                    clear e7 hLl hlk hYS
                    go_wp2_with (at_builtin; refine wl_append (E := eU64) rfl _ _ _ rfl w2.heap.size 22 8 sliceU64 _ YS rfl (hwg.alloc _) _ [7] rfl (Rd.lit wr _ _ _ _ _ _ (by simp [Enc.all, eInt]) rfl (by simp) (by decide)) (by rw [HLK.out]; simp; omega) (by rw [HLK.out]; unfold maxLen; simp; omega) (by simp; omega) ?_)
                    intro gg2 w6 hown6 hgrow6 hfresh6 hview6
                    have hga := gs_app (by decide) (g1.alloc _) (fun t ht => (g2 t ht).alloc (.cells #[.int .u64 7] 22)) g3 hlt (hwg.alloc _) (hst.imp id (fun h g hg t ht e => by have := HBL.out t ht g e; have := h g hg; omega)) hgrow6 hview6 (by rw [HLK.out, HLl.out]; omega)
                    have hb6 := (hbr.alloc hsz7 (.cells #[.int .u64 7] 22)).grown hgrow6 (by simp; omega) (fun j hj => (hwg.lt hj).1)
                    have hst6 : vstart gg2 = vstart (vs s).val ∨ ∀ g, gg2.ownBlock = some g → w5.heap.size ≤ g := by
                      rcases hfresh6 with ⟨e1, e2⟩ | h
                      · rcases hst with h2 | h2
                        · exact .inl (e2.trans h2)
                        · exact .inr (fun g hg => h2 g (e1 ▸ hg))
                      · exact .inr (fun g hg => by have := h g hg; (try simp at this); omega)
                    have hs6' : wr.heap.size ≤ w6.heap.size := Nat.le_trans (size_le_alloc _ _) hgrow6.size
                    rw [E7.out] at hown6
                    clear hgrow6 hfresh6 hview6 g1 g2 hwg hst hbr E7
                    go_wp2_with fail
                    go_roundw
                    case rel => exact ⟨k + 1, by omega, by go_num, hga.1, hga.2, hown6, hst6, hb6, by omega⟩
                    case measure => simp [intOf]; omega
                  · have hke : k = 17 := by omega
                    subst hke
                    obtain ⟨YS, hYS⟩ : ∃ YS, YS = L s ++ List.replicate 17 (7 : Int) := ⟨_, rfl⟩
                    rw [← hYS] at hwg HLK
                    have hLs := HLs.out
                    have hya : ∀ i, i < (M s).length → YS[i]? = some (100 + (s : Int)) := by
                      intro i hi
                      rw [hYS, List.getElem?_append_left (by omega), hLs, List.getElem?_replicate, if_pos hi]
                    have HYA := Lib.hid hya
                    have hgrid : Grid eU64 w2.heap.size 26 22 wr (.slice (some ⟨gA, oA, none⟩) m capa) m (apL M m 0) := ⟨vs, g1, by rw [← HL.out]; exact g2, g3⟩
                    have c1 := HLO.out wr g1
                    have hws := g2 s hlt
                    rw [HVS.out] at hws
                    have hr1 := hws.rd
                    have hr2 := hwg.rd
                    obtain ⟨_, ga, gc, hge, _, _, hgcell⟩ := hr2
                    rw [HLK.out] at hge
                    subst hge
                    obtain ⟨_, sa, sc, hse, _, _, hscell⟩ := hr1
                    have hsa : ao1 = sa := by simp [SV.val] at hse; exact hse.1
                    subst hsa
                    clear hYS hya hwg g1 g2 hws hLl hlk hLs hst
                    have hLs2 := HLs.out
                    go_wp2_with fail
                    go_loop [14] (fun ii => ∃ i : Nat, i ≤ (M s).length ∧ ii = .int .i64 i) (fun ii => (M s).length - (intOf ii).toNat)
                    case atStart => exact ⟨0, Nat.zero_le _, rfl⟩
                    case round =>
                      obtain ⟨i, hi, rfl⟩ := hrel
                      by_cases hil : i < (M s).length
                      · obtain ⟨b1, o1, rfl, hc1⟩ := hgcell (by have := HLK.out; omega)
                        obtain ⟨b2, o2, rfl, hc2⟩ := hscell (by have := HLl.out; omega)
                        have d1 := hc1 i _ (eInt_at' _ (HYA.out i hil))
                        have d2 := hc2 i _ (eInt_at' _ (by rw [hLs2, List.getElem?_replicate, if_pos hil]))
                        have hi17 : i < (M s).length + 17 := by omega
                        clear hc1 hc2 hgcell hscell hse
                        go_wp2_with fail
                        go_round
                        case rel => exact ⟨i + 1, by omega, by go_num⟩
                        case measure => simp [intOf]; omega
                      · go_wp2_with fail
                        go_roundw
                        case rel => exact ⟨s + 1, by omega, by go_num, hgrid, hbr⟩
                        case measure => simp [intOf]; omega
              · obtain rfl : m = s := by omega
                go_wp2_with fail
                refine (numbers_bel xs vi _ wr (hri2.grow hbr) (hv2.grow hbr)).mono ?_
                rintro e w8 ⟨rfl, hb8⟩
                go_wp2_with fail
                go_ret
                exact ⟨rfl, bthen (bthen hb2 hbr) hb8⟩
end Go.Proofs.Ytgegpejjnpjdlaa
