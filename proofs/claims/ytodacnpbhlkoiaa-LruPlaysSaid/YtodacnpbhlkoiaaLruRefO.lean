/- lru: the document's New and Order. -/
import Derived.Test.YtodacnpbhlkoiaaLruRefDo
import Derived.Test.YtodacnpbhlkoiaaBookRefP
namespace Go.Proofs.Ytodacnpbhlkoiaa
open Go.RowKit
set_option linter.unusedVariables false
set_option linter.unusedSimpArgs false

def outT (ps : List (Int × Int)) (t : Int) : List Int := ((ps.filter fun p => decide (t < p.2)).map (·.1)).reverse
def atT (ps : List (Int × Int)) (t : Int) : List Int := (ps.filter fun p => p.2 == t).map (·.1)
theorem outT_len (ps : List (Int × Int)) (t : Int) : (outT ps t).length ≤ ps.length := by
  unfold outT; rw [List.length_reverse, List.length_map]; exact List.length_filter_le _ _
theorem out_split {ps : List (Int × Int)} (h : (ps.map (·.2)).Pairwise (· < ·)) (t : Int) : (ps.filter fun p => decide (t - 1 < p.2)) = (ps.filter fun p => p.2 == t) ++ (ps.filter fun p => decide (t < p.2)) := by
  induction ps with
  | nil => rfl
  | cons p ps ih =>
    rw [List.map_cons, List.pairwise_cons] at h
    have ih := ih h.2
    have hgt : ∀ q ∈ ps, p.2 < q.2 := fun q hq => h.1 _ (List.mem_map_of_mem hq)
    by_cases h1 : p.2 < t
    · rw [List.filter_cons_of_neg (by simp; omega), List.filter_cons_of_neg (by simp; omega), List.filter_cons_of_neg (by simp; omega)]
      exact ih
    · by_cases h2 : p.2 = t
      · have hn : (ps.filter fun q => q.2 == t) = [] := by
          rw [List.filter_eq_nil_iff]
          intro q hq
          have := hgt q hq
          simp; omega
        rw [List.filter_cons_of_pos (by simp; omega), List.filter_cons_of_pos (by simp [h2]), List.filter_cons_of_neg (by simp; omega), ih, hn]; simp
      · have hn : (ps.filter fun q => q.2 == t) = [] := by
          rw [List.filter_eq_nil_iff]
          intro q hq
          have := hgt q hq
          simp; omega
        rw [List.filter_cons_of_pos (by simp; omega), List.filter_cons_of_neg (by simp [h2]), List.filter_cons_of_pos (by simp; omega), ih, hn]; simp
theorem at_one {ps : List (Int × Int)} (h : (ps.map (·.2)).Pairwise (· < ·)) (t : Int) : (atT ps t).reverse = atT ps t := by
  have hl : (atT ps t).length ≤ 1 := by
    unfold atT
    rw [List.length_map]
    induction ps with
    | nil => simp
    | cons p ps ih =>
      rw [List.map_cons, List.pairwise_cons] at h
      have hgt : ∀ q ∈ ps, p.2 < q.2 := fun q hq => h.1 _ (List.mem_map_of_mem hq)
      by_cases h2 : p.2 = t
      · have hn : (ps.filter fun q => q.2 == t) = [] := by
          rw [List.filter_eq_nil_iff]
          intro q hq
          have := hgt q hq
          simp; omega
        rw [List.filter_cons_of_pos (by simp [h2]), hn]; simp
      · rw [List.filter_cons_of_neg (by simp [h2])]; exact ih h.2
  match e : atT ps t with
  | [] => rfl
  | [_] => rfl
  | _ :: _ :: _ => rw [e] at hl; simp at hl
theorem out_step {od : List Int} {ps : List (Int × Int)} {clk : Int} (h : RA od ps clk) (t : Int) : outT ps (t - 1) = outT ps t ++ atT ps t := by
  unfold outT
  rw [out_split h.up t, List.map_append, List.reverse_append]
  congr 1
  exact at_one h.up t
theorem out_top {od : List Int} {ps : List (Int × Int)} {clk : Int} (h : RA od ps clk) : outT ps clk = [] := by
  unfold outT
  have : (ps.filter fun p => decide (clk < p.2)) = [] := by
    rw [List.filter_eq_nil_iff]
    intro q hq
    have := (h.time q hq).2
    simp; omega
  rw [this]; rfl
theorem out_all {od : List Int} {ps : List (Int × Int)} {clk t : Int} (h : RA od ps clk) (ht : t ≤ 0 ∨ ps.length ≤ (outT ps t).length) : outT ps t = od := by
  have : (ps.filter fun p => decide (t < p.2)) = ps := by
    rcases ht with ht | ht
    · rw [List.filter_eq_self]
      intro q hq
      have := (h.time q hq).1
      simp; omega
    · unfold outT at ht
      rw [List.length_reverse, List.length_map] at ht
      exact List.filter_sublist.eq_of_length_le ht
  unfold outT
  rw [this, h.keys, List.reverse_reverse]
theorem at_skip {ps : List (Int × Int)} {t : Int} {i : Nat} (h : i < ps.length) (e : ps[i].2 ≠ t) : atT (ps.take (i + 1)) t = atT (ps.take i) t := by
  unfold atT
  rw [List.take_succ_eq_append_getElem h, List.filter_append]; simp [e]
theorem at_put {ps : List (Int × Int)} {t : Int} {i : Nat} (h : i < ps.length) (e : ps[i].2 = t) : atT (ps.take (i + 1)) t = atT (ps.take i) t ++ [ps[i].1] := by
  unfold atT
  rw [List.take_succ_eq_append_getElem h, List.filter_append]; simp [e]

set_option maxRecDepth 100000 in
set_option maxHeartbeats 4000000 in
theorem refOrder_any (rg bx : Nat) (ps : List (Int × Int)) (od : List Int) (clk : Int) (S : Nat → Prop) (w : World) (H : RefO rg bx ps clk S w) (HA : RA od ps clk) (h0 : 0 ≤ clk) (hc : clk < 4611686018427387904) (h16 : ps.length ≤ 16) :
    Calls Try.prog 21 #[.pointer (some ⟨rg, 0, none⟩)] w fun e w' => ∃ v', e = .returned v' ∧ OwS eU64 28 (fun k => w.heap.size ≤ k) w' v' od ∧ Only (fun _ => False) w w' := by
  obtain ⟨vk, vw, H⟩ := H
  have HA := Lib.hid HA
  have HH := Lib.hid (show ∃ S, RefOv rg bx vk vw ps clk S w from ⟨S, H⟩)
  obtain ⟨_, ak, ck, rfl, _, _, _⟩ := H.2.1.rd
  obtain ⟨_, aw, cw, rfl, _, _, _⟩ := H.2.2.1.rd
  rw [map_len1] at HH H
  rw [map_len2] at HH H
  obtain ⟨q0, q1, q2, q3, qf, hgl⟩ := H.cells
  obtain ⟨cn, rfl⟩ : ∃ cn : Nat, clk = cn := ⟨clk.toNat, by omega⟩
  clear H qf
  go_enter Try.func21, Try.ntmps21
  go_wp2_with fail
  go_loopw [3, 4, 5] (fun t3 t4 _ wr => ∃ (t : Nat) (xs : List Int) (vo : Option Addr) (vc : Nat), t ≤ cn ∧ xs.length ≤ 16 ∧ t4 = .int .i64 t ∧ t3 = .slice vo xs.length vc ∧ Hid (xs = outT ps t) ∧ Hid (OwS eU64 28 (fun k => w.heap.size ≤ k) wr (.slice vo xs.length vc) xs) ∧ Hid (Only (fun _ => False) w wr)) (fun _ t4 _ _ => (intOf t4).toNat)
  case atStart => exact ⟨cn, [], none, 0, Nat.le_refl _, by decide, rfl, rfl, Lib.hid (out_top HA.out).symm, Lib.hid (OwS.nil _ _), Lib.hid (Only.refl _ _)⟩
  case round =>
    clear q0 q1 q2 q3
    obtain ⟨t, xs, vo, vc, ht, hxl, rfl, rfl, HX, HO, HOR⟩ := hrel
    obtain ⟨_, h3⟩ := HH.out
    have h4 := RefOv.framed.only _ _ _ _ h3 HOR.out (fun _ _ _ h => h)
    obtain ⟨q0, q1, q2, q3, qf, hgl2⟩ := h4.cells
    clear h3 h4 qf
    by_cases ht0 : 0 < t
    · have hg0 : (0 : Int) < (t : Int) := by omega
      by_cases hl : xs.length < ps.length
      · have hl0 : (xs.length : Int) < (ps.length : Int) := by omega
        go_wp2_with fail
        go_loopw [3, 5] (fun t3 t5 wq => ∃ (i : Nat) (ys : List Int) (vo : Option Addr) (vc : Nat), i ≤ ps.length ∧ ys.length ≤ 16 + i ∧ t5 = .int .i64 i ∧ t3 = .slice vo ys.length vc ∧ Hid (ys = xs ++ atT (ps.take i) t) ∧ Hid (OwS eU64 28 (fun k => w.heap.size ≤ k) wq (.slice vo ys.length vc) ys) ∧ Hid (Only (fun _ => False) w wq)) (fun _ t5 _ => ps.length - (intOf t5).toNat)
        case atStart => exact ⟨0, xs, vo, vc, Nat.zero_le _, by omega, rfl, rfl, Lib.hid (by simp [atT]), HO, HOR⟩
        case round =>
          clear q0 q1 q2 q3 HO HOR
          obtain ⟨i, ys, uo, uc, hi, hyl, rfl, rfl, HY, HO, HOR⟩ := hrel
          obtain ⟨_, h3⟩ := HH.out
          have h4 := RefOv.framed.only _ _ _ _ h3 HOR.out (fun _ _ _ h => h)
          obtain ⟨q0, q1, q2, q3, qf, hgl2⟩ := h4.cells
          by_cases hil : i < ps.length
          · obtain ⟨_, ao', c', hao, _, _, hx⟩ := h4.2.1.rd
            obtain ⟨rfl, -, rfl⟩ : ak = ao' ∧ ps.length = (ps.map (·.1)).length ∧ ck = c' := by simpa using hao
            obtain ⟨kb, ko, rfl, hck⟩ := hx (by rw [map_len1]; omega)
            have f0 := hck i _ (eU64_at _ i (by rw [map_len1]; exact hil))
            rw [List.getElem_map] at f0
            clear hck hx hao
            obtain ⟨_, ao', c', hao, _, _, hx⟩ := h4.2.2.1.rd
            obtain ⟨rfl, -, rfl⟩ : aw = ao' ∧ ps.length = (ps.map (·.2)).length ∧ cw = c' := by simpa using hao
            obtain ⟨wb, wo, rfl, hcw⟩ := hx (by rw [map_len2]; omega)
            have f1 := hcw i _ (eI64_at _ i (by rw [map_len2]; exact hil))
            rw [List.getElem_map] at f1
            have hm0 : (0 : Int) ≤ (i : Int) := by omega
            have hm1 : (i : Int) < (ps.length : Int) := by omega
            have HS := Lib.hid (show (ps[i].2 ≠ (t : Int) → atT (ps.take (i + 1)) t = atT (ps.take i) t) ∧ (ps[i].2 = (t : Int) → atT (ps.take (i + 1)) t = atT (ps.take i) t ++ [ps[i].1]) from ⟨at_skip hil, at_put hil⟩)
            clear hcw hx hao h3 h4 qf
            generalize ps[i].1 = p0 at *
            generalize ps[i].2 = p1 at *
            by_cases hpt : p1 = (t : Int)
            · have hb : (p1 == (t : Int)) = true := by simpa using hpt
              have HS2 := Lib.hid (show ys ++ [p0] = xs ++ atT (ps.take (i + 1)) t by rw [HY.out, HS.out.2 hpt, List.append_assoc])
              have HLN := Lib.hid (show (ys ++ [p0]).length = ys.length + 1 by simp)
              have HA2 : Hid (OwS eU64 28 (fun k => w.heap.size ≤ k) (wr.alloc (.cells #[.int .u64 p0] 28)) (.slice uo ys.length uc) ys) := Lib.hid (OwS.framed.alloc HO.out _)
              have HRL := Lib.hid (Rd.lit (E := eU64) wr #[.int .u64 p0] 28 (0, 0) 1 1 [p0] rfl rfl (by simp) (by simp [maxLen]))
              have HO1 := Lib.hid (HOR.out.tr (Only.alloc _ wr (.cells #[.int .u64 p0] 28)))
              clear hpt
              go_wp2_with (at_builtin; refine wl_appendS (E := eU64) rfl _ (.tmp 50) _ rfl 28 8 eU64_sl _ _ ys rfl HA2.out _ [p0] rfl HRL.out (by simp only [List.length_cons, List.length_nil]; omega) (by unfold maxLen; simp only [List.length_cons, List.length_nil]; omega) ?_)
              intro va wa ha hOa
              have HN := Lib.hid (OwS.framed.mono _ (fun k => w.heap.size ≤ k) _ ha fun k _ h => h.elim id fun h => by have := HO1.out.size; simp at this h; omega)
              have HO2 := Lib.hid (HO1.out.trans hOa fun k hk h => by omega)
              obtain ⟨_, x2, c2, rfl, _⟩ := id ha.1
              clear ha hOa HA2 HRL HO1
              go_wp2_with fail
              go_roundw
              case rel => exact ⟨i + 1, ys ++ [p0], x2, c2, by omega, by rw [HLN.out]; omega, by go_num, rfl, HS2, HN, HO2⟩
              case measure => simp [intOf]; omega
            · have hb : (p1 == (t : Int)) = false := by simpa using hpt
              have HS2 := Lib.hid (show ys = xs ++ atT (ps.take (i + 1)) t by rw [HY.out, HS.out.1 hpt])
              clear hpt
              go_wp2_with fail
              go_roundw
              case rel => exact ⟨i + 1, ys, uo, uc, by omega, by omega, by go_num, rfl, HS2, HO, HOR⟩
              case measure => simp [intOf]; omega
          · obtain rfl : i = ps.length := by omega
            have HS2 := Lib.hid (show ys = outT ps ((t - 1 : Nat) : Int) by
              have := HY.out
              rw [List.take_length, HX.out] at this
              rw [this, show ((t - 1 : Nat) : Int) = (t : Int) - 1 by omega, out_step HA.out])
            have hy16 : ys.length ≤ 16 := by rw [HS2.out]; exact Nat.le_trans (outT_len _ _) h16
            clear h3 h4 qf
            go_wp2_with fail
            go_roundw
            case rel => exact ⟨t - 1, ys, uo, uc, by omega, hy16, by first | (rw [show ((t - 1 : Nat) : Int) = (t : Int) - 1 by omega]; done) | (rw [show ((t - 1 : Nat) : Int) = (t : Int) - 1 by omega]; go_num), rfl, HS2, HO, HOR⟩
            case measure => simp [intOf]; omega
      · have hl0 : ¬ (xs.length : Int) < (ps.length : Int) := by omega
        have HD := Lib.hid (show xs = od by rw [HX.out]; exact out_all HA.out (.inr (by rw [← HX.out]; omega)))
        go_wp2_with fail
        go_ret
        exact ⟨_, rfl, by rw [← HD.out]; exact HO.out, HOR.out⟩
    · obtain rfl : t = 0 := by omega
      have HD := Lib.hid (show xs = od by rw [HX.out]; exact out_all HA.out (.inl (by decide)))
      go_wp2_with fail
      go_ret
      exact ⟨_, rfl, by rw [← HD.out]; exact HO.out, HOR.out⟩
theorem refLruNew_bad (cap : Int) (w : World) (h : cap < 1 ∨ 16 < cap) :
    Calls Try.prog 18 #[.int .i64 cap] w fun e w' => e = .returned (.tuple #[.pointer none, .int .i64 2]) ∧ Only (fun _ => False) w w' := by
  have HN := Lib.hid (refNew_bad cap w h)
  clear h
  go_enter Try.func18, Try.ntmps18
  go_wp2_with fail
  refine HN.out.mono ?_
  rintro e w1 ⟨rfl, ho⟩
  go_wp2_with fail
  go_ret2
  exact ⟨rfl, ho⟩
/-- the document's LRU, whole: its clock was moved at most n times -/
def RefL (rg bx : Nat) (cap : Int) (s : List PairD × List Int) (n : Int) (S : Nat → Prop) (w : World) : Prop := ∃ ps clk, (RA s.2 ps clk ∧ 0 ≤ clk ∧ clk ≤ n) ∧ RefP rg bx cap ps clk s.1 S w
theorem RefL.framed {rg bx : Nat} {cap : Int} {s : List PairD × List Int} {n : Int} : Framed (RefL rg bx cap s n) := Framed.ex fun _ => Framed.ex fun _ => Framed.and (Framed.pure _) RefP.framed
theorem refLruNew_ok (cap : Int) (w : World) (h1 : 1 ≤ cap) (h2 : cap ≤ 16) :
    Calls Try.prog 18 #[.int .i64 cap] w fun e w' => ∃ rg, e = .returned (.tuple #[.pointer (some ⟨rg, 0, none⟩), .int .i64 0]) ∧ (∃ bx, RefL rg bx cap ([], []) 0 (fun k => w.heap.size ≤ k) w') ∧ Only (fun _ => False) w w' := by
  have HN := Lib.hid (refNew_ok cap w h1 h2)
  have HG := Lib.hid (good_nil h1 h2)
  clear h1 h2
  go_enter Try.func18, Try.ntmps18
  go_wp2_with fail
  refine HN.out.mono ?_
  rintro e w1 ⟨b, rfl, hb, ho⟩
  go_wp2_with fail
  go_ret2
  have hb2 : RefB b cap [] (fun k => w.heap.size ≤ k) w1 := ⟨[], ⟨HG.out, rfl, fun _ => Iff.rfl, List.Pairwise.nil⟩, hb⟩
  have hU : Upd (RefB b cap []) (fun k => w.heap.size ≤ k) w w1 := ⟨RefB.framed.mono _ _ _ hb2 fun _ _ h => .inl h, ho.mono fun _ _ h => h.elim⟩
  have hU2 := hU.add RefB.framed (Q := RefO w1.heap.size b [] 0) RefO.framed (w2 := w1.alloc (.cells #[.pointer (some ⟨b, 0, none⟩), .slice none 0 0, .slice none 0 0, .int .i64 0] 60)) ⟨.slice none 0 0, .slice none 0 0, heap_alloc_new w1 _, OwS.nil _ _, OwS.nil _ _, Nat.le_refl _⟩ (Only.alloc _ _ _)
  refine ⟨w1.heap.size, rfl, ⟨b, [], 0, ⟨⟨rfl, List.Pairwise.nil, fun p hp => by simp at hp⟩, Int.le_refl _, Int.le_refl _⟩, RefP.framed.mono _ _ _ hU2.1.swap fun _ _ h => ?_⟩, ho.tr (Only.alloc _ _ _)⟩
  exact h.elim id id
theorem refLruDo_ {rg bx : Nat} {cap : Int} {s s' : List PairD × List Int} {n : Int} {T : Nat → Prop} {w : World} (hT : RefL rg bx cap s n T w) (G : LGood cap s) (hn : n < 4611686018427387904) {op key val : Int} {r : ResD} (hd : lruP cap s op key val = (r, s')) :
    Calls Try.prog 20 #[.pointer (some ⟨rg, 0, none⟩), .int .i64 op, .int .u64 key, .int .u64 val] w fun e w' => e = .returned (.agg #[.int .i64 r.1, .bool r.2.1, .int .u64 r.2.2.1, .bool r.2.2.2.1, .int .u64 r.2.2.2.2.1, .int .u64 r.2.2.2.2.2]) ∧ Upd (RefL rg bx cap s' (n + 1)) T w w' := by
  obtain ⟨ps, clk, ⟨hA, h0, h1⟩, hP⟩ := hT
  have := refLru_do rg bx cap s ps clk T op key val w hP hA G h0 (by omega)
  rw [hd] at this
  exact this.mono fun e w' ⟨he, ps', clk', ⟨a, b, c⟩, hu⟩ => ⟨he, ⟨ps', clk', ⟨a, b, by omega⟩, hu.1⟩, hu.2⟩
theorem refLruOrder_ {rg bx : Nat} {cap : Int} {s : List PairD × List Int} {n : Int} {T : Nat → Prop} {w : World} (hT : RefL rg bx cap s n T w) (G : LGood cap s) (hn : n < 4611686018427387904) :
    Calls Try.prog 21 #[.pointer (some ⟨rg, 0, none⟩)] w fun e w' => ∃ v', e = .returned v' ∧ OwS eU64 28 (fun k => w.heap.size ≤ k) w' v' s.2 ∧ Only (fun _ => False) w w' := by
  obtain ⟨ps, clk, ⟨hA, h0, h1⟩, hP⟩ := hT
  exact refOrder_any rg bx ps s.2 clk T w (hP.left RefO.framed) hA h0 (by omega) (by have := hA.len; have := G.len; have := G.good.len; have := G.good.hi; omega)
theorem refLruPairs_ {rg bx : Nat} {cap : Int} {s : List PairD × List Int} {n : Int} {T : Nat → Prop} {w : World} (hT : RefL rg bx cap s n T w) :
    Calls Try.prog 22 #[.pointer (some ⟨bx, 0, none⟩)] w fun e w' => ∃ v', e = .returned v' ∧ OwS ePair 46 (fun k => w.heap.size ≤ k) w' v' s.1 ∧ Only (fun _ => False) w w' := by
  obtain ⟨ps, clk, _, hP⟩ := hT
  obtain ⟨L, hA, hS⟩ := hP.right RefB.framed
  exact refPairs_any bx cap s.1 L T w hA hS
theorem RefL.cells {rg bx : Nat} {cap : Int} {s : List PairD × List Int} {n : Int} {T : Nat → Prop} {w : World} (hT : RefL rg bx cap s n T w) :
    w.cell? ⟨rg, 0, none⟩ = some (.pointer (some ⟨bx, 0, none⟩)) ∧ ∃ la lc, w.cell? ⟨bx, 1, none⟩ = some (.slice la s.1.length lc) := by
  obtain ⟨ps, clk, _, hP⟩ := hT
  obtain ⟨vk, vw, vl, ⟨_, hv⟩, m0, m1, ⟨la, lc, rfl⟩, _⟩ := hP.cells
  exact ⟨hv.cells.1, la, lc, m1⟩
end Go.Proofs.Ytodacnpbhlkoiaa
