/- slices.DeleteFunc with the closure of drop. -/
import Derived.Test.YtodacnpbhlkoiaaLruDrop
import Derived.Test.YtodacnpbhlkoiaaBookKey
namespace Go.Proofs.Ytodacnpbhlkoiaa
open Go.RowKit
set_option linter.unusedVariables false
set_option linter.unusedSimpArgs false

def dropK (od : List Int) (key : Int) : List Int := od.filter (fun k => k != key)
theorem dropK_none {od : List Int} {key : Int} (h : NotTo od key od.length) : dropK od key = od := by
  unfold dropK
  rw [List.filter_eq_self]
  intro a ha
  obtain ⟨i, hi, rfl⟩ := List.getElem_of_mem ha
  have := h i hi hi
  simpa using this
theorem dropK_take {od : List Int} {key : Int} {i : Nat} (h : NotTo od key i) (hi : i ≤ od.length) : dropK (od.take i) key = od.take i := by
  refine dropK_none fun a ha _ => ?_
  have ha' : a < i := by simp at ha; omega
  rw [List.getElem_take]
  exact h a (by omega) ha'
theorem dropK_skip {od : List Int} {key : Int} {j : Nat} (h : j < od.length) (e : od[j] = key) : dropK (od.take (j + 1)) key = dropK (od.take j) key := by
  unfold dropK
  rw [List.take_succ_eq_append_getElem h, List.filter_append]; simp [e]
theorem dropK_put {od : List Int} {key : Int} {j : Nat} (h : j < od.length) (e : od[j] ≠ key) : dropK (od.take (j + 1)) key = dropK (od.take j) key ++ [od[j]] := by
  unfold dropK
  rw [List.take_succ_eq_append_getElem h, List.filter_append]; simp [e]

theorem u64_all_len (xs : List Int) : (eU64.all xs).length = xs.length := (eU64.all_len xs).trans (Nat.mul_one _)
theorem u64_all_take (xs : List Int) (i : Nat) : (eU64.all xs).take i = eU64.all (xs.take i) := by
  have h : eU64.all xs = eU64.all (xs.take i) ++ eU64.all (xs.drop i) := by rw [← Enc.all_append, List.take_append_drop]
  by_cases hi : i ≤ xs.length
  · rw [h, List.take_left' (by rw [u64_all_len]; simp; omega)]
  · rw [List.take_of_length_le (by rw [u64_all_len]; omega), List.take_of_length_le (by omega)]

/-- clear(s[i:]), then s[:i] -/
theorem clear_take {S : Nat → Prop} {w : World} {g off n cap : Nat} {ys : List Int} (h : OwS eU64 28 S w (.slice (some ⟨g, off, none⟩) n cap) ys) (i : Nat) (hi : i < n) :
    ∃ w', (∀ rt c, (Builtin.clear_ #[31] rt #[.slice (some ⟨g, off + i, none⟩) (n - i) c]).run Try.prog w = .ok (.tuple #[]) w') ∧ OwS eU64 28 S w' (.slice (some ⟨g, off, none⟩) i cap) (ys.take i) ∧ Only S w w' := by
  obtain ⟨⟨hm, ao', cap', he, hlc, hcm, _, hx⟩, hSg⟩ := h
  obtain ⟨rfl, rfl, rfl⟩ : some ⟨g, off, none⟩ = ao' ∧ n = ys.length ∧ cap = cap' := by simpa using he
  obtain ⟨g', off', cur, hgo, _, hh, hs, ht⟩ := hx _ rfl
  obtain ⟨rfl, rfl⟩ : g = g' ∧ off = off' := by simpa using hgo
  have hs' : off + cap ≤ cur.size := by have h : off + cap * 1 ≤ cur.size := hs; omega
  have ht' : (cur.toList.drop off).take ys.length = eU64.all ys := by have h : (cur.toList.drop off).take (ys.length * 1) = eU64.all ys := ht; rwa [Nat.mul_one] at h
  have hgS : S g := hSg g rfl
  obtain ⟨i0, hi0, hz0, hz1, hz2⟩ := info_parts (show (Try.prog.info? 28).map (fun i => (i.zero, i.size, i.bytes)) = some (some (.int .u64 0), 1, 8) by kernel_rfl)
  have hzl : (Builtin.zeroCells (Value.int .u64 0).cells (ys.length - i)).size = ys.length - i := (size_zeroCells ..).trans (Nat.mul_one _)
  obtain ⟨w2, cur2, hr2, hh2, hc2, ho2⟩ := run_clearE (P := Try.prog) w 31 28 i0 _ g (off + i) (ys.length - i) cur 28 Try.underlying31 hi0 hz0 (by omega) hh (by rw [hzl]; omega)
    (fun v hv => by
      have h := Array.mem_toList_iff.1 hv
      unfold Builtin.zeroCells at h
      simp at h
      obtain ⟨a, _, h⟩ := h
      rw [show (Value.int .u64 0).cells.size = 1 from rfl, Nat.mod_one] at h
      subst h; rfl)
  have hl2 : cur2.toList.length = cur2.size := by simp
  have hcs : cur.toList.length = cur.size := by simp
  have hs2 : cur2.size = cur.size := by rw [← hl2, hc2, lay_len _ _ _ (by rw [Array.length_toList, hzl, hcs]; omega), hcs]
  have hl : (ys.take i).length = i := by simp; omega
  refine ⟨w2, hr2, ⟨⟨by rw [hl]; omega, some ⟨g, off, none⟩, cap, by rw [hl], by rw [hl]; omega, hcm, fun h => by simp at h, fun a ha => ⟨g, off, cur2, by simpa using ha.symm, Nat.zero_le _, hh2, by rw [hs2]; exact hs, ?_⟩⟩, hSg⟩, ho2.mono fun k _ e => by subst e; exact hgS⟩
  rw [hl]
  show List.take (i * 1) _ = _
  rw [Nat.mul_one, hc2]
  unfold lay
  rw [List.drop_append_of_le_length (by simp; omega), List.take_append_of_le_length (by simp; omega), List.drop_take, Nat.add_sub_cancel_left, List.take_take, Nat.min_self]
  rw [← u64_all_take, ← ht', List.take_take, Nat.min_eq_left (by omega)]
theorem setCells_one (w : World) (g o : Nat) (v : Value) : w.setCells g o [v] = w.setCell ⟨g, o, none⟩ v := rfl

set_option maxHeartbeats 1000000 in
theorem del_any (S : Nat → Prop) (v : Value) (od : List Int) (key : Int) (kb : Nat) (w : World) (hown : OwS eU64 28 S w v od) (hkb : w.heap[kb]? = some (.cells #[.int .u64 key] 28 (0, 0))) (hkS : ¬ S kb) :
    Calls Try.prog 37 #[v, .func (.func 38) #[] #[.pointer (some ⟨kb, 0, none⟩)]] w fun e w' => ∃ v', e = .returned v' ∧ OwS eU64 28 S w' v' (dropK od key) ∧ Only S w w' := by
  have hk : w.cell? ⟨kb, 0, none⟩ = some (.int .u64 key) := cells_of_heap hkb 0 _ rfl
  have HIX := Lib.hid (idx_any v od key kb w hown.rd hk)
  have HW := Lib.hid hown
  have hm := hown.1.1
  unfold maxLen at hm
  have HK := Lib.hid (fun k (W : World) (h : Only S w W) => eqk_any k key kb W (cells_of_heap (h.heap hkb hkS) 0 _ rfl))
  clear hk hkb
  by_cases hn : NotTo od key od.length
  · have HN := Lib.hid hn
    clear hn hown
    go_enter Try.func37, Try.ntmps37
    go_wp2_with fail
    refine HIX.out.mono ?_
    rintro e w1 ⟨⟨p, rfl, _, hp, hpk⟩ | ⟨rfl, _⟩, rfl⟩
    · exact absurd hpk (HN.out p hp hp)
    go_wp2_with fail
    go_ret
    exact ⟨_, rfl, by rw [dropK_none HN.out]; exact HW.out, Only.refl _ _⟩
  · have HN := Lib.hid hn
    clear hn
    go_enter Try.func37, Try.ntmps37
    go_wp2_with fail
    refine HIX.out.mono ?_
    rintro e w1 ⟨⟨p, rfl, hnp, hp, hpk⟩ | ⟨rfl, h⟩, rfl⟩
    rotate_left
    · exact absurd h HN.out
    obtain ⟨g, off, cap, rfl⟩ := hown.1.some_ (by omega)
    clear HIX HN hown
    have HNP := Lib.hid hnp
    have HPK := Lib.hid (show ∃ h : p < od.length, od[p] = key from ⟨hp, hpk⟩)
    have hpf : ((p : Int) == -1) = false := by simp
    clear hnp hpk
    go_wp2_with fail
    go_loopw [5, 6, 7] (fun t5 t6 _ wr => ∃ (i j : Nat) (ys : List Int), i < j ∧ j ≤ od.length ∧ t5 = .int .i64 i ∧ t6 = .int .i64 j ∧ Hid (ys.take i = dropK (od.take j) key ∧ ys.drop j = od.drop j) ∧ Hid (OwS eU64 28 S wr (.slice (some ⟨g, off, none⟩) od.length cap) ys) ∧ Hid (Only S w1 wr)) (fun _ t6 _ _ => od.length - (intOf t6).toNat)
    case atStart =>
      obtain ⟨_, hpk⟩ := HPK.out
      exact ⟨p, p + 1, od, by omega, by omega, rfl, by go_num, ⟨by rw [dropK_skip hp hpk, dropK_take HNP.out (by omega)], rfl⟩, HW.out, Only.refl _ _⟩
    case round =>
      obtain ⟨i, j, ys, hij, hj, rfl, rfl, HE, HY, HO⟩ := hrel
      have hyl : od.length = ys.length := by
        obtain ⟨⟨_, _, _, he, _⟩, _⟩ := HY.out
        simpa using (show _ ∧ od.length = ys.length ∧ _ from by simpa using he).2.1
      have HYL := Lib.hid hyl
      clear hyl
      by_cases hlt : j < od.length
      · have hyj : ∃ h : j < ys.length, ys[j] = od[j] := ⟨by rw [← HYL.out]; exact hlt, by
          have h := HE.out.2
          have h2 : (ys.drop j)[0]? = (od.drop j)[0]? := by rw [h]
          rw [List.getElem?_drop, List.getElem?_drop, Nat.add_zero, List.getElem?_eq_getElem (by rw [← HYL.out]; exact hlt), List.getElem?_eq_getElem hlt] at h2
          exact Option.some.inj h2⟩
        obtain ⟨hyl, hyj⟩ := hyj
        obtain ⟨_, ao', cap', hao, _, _, hx⟩ := HY.out.rd
        obtain ⟨rfl, -, rfl⟩ : some ⟨g, off, none⟩ = ao' ∧ od.length = ys.length ∧ cap = cap' := by simpa using hao
        obtain ⟨sb, off', ho', hc⟩ := hx (by omega)
        obtain ⟨rfl, rfl⟩ : g = sb ∧ off = off' := by simpa using ho'
        have d0 := hc j _ (eU64_at ys j hyl)
        rw [hyj] at d0
        obtain ⟨gi, oi, hgo, _, hat⟩ := HY.out.1.at_ i (by rw [← HYL.out]; omega)
        obtain ⟨rfl, rfl⟩ : g = gi ∧ off = oi := by simpa using hgo
        obtain ⟨q0, e0, z0⟩ : ∃ q0, wr.cell? ⟨g, off + i, none⟩ = some (.int .u64 q0) ∧ wr.frozen? ⟨g, off + i, none⟩ = false := by
          have h := hat 0 (by decide)
          rw [show off + (i * eU64.size + 0) = off + i by show off + (i * 1 + 0) = _; omega] at h
          exact ⟨_, h.1, h.2⟩
        have hj0 : (0 : Int) ≤ (j : Int) := by omega
        have hj1 : (j : Int) < (od.length : Int) := by omega
        have hi0 : (0 : Int) ≤ (i : Int) := by omega
        have hi1 : (i : Int) < (od.length : Int) := by omega
        have hil : i < od.length := by omega
        clear hc hx hao ho' hgo hat hyl hyj
        by_cases hke : od[j] = key
        · have HE2 := Lib.hid (show ys.take i = dropK (od.take (j + 1)) key ∧ ys.drop (j + 1) = od.drop (j + 1) from ⟨by rw [dropK_skip hlt hke]; exact HE.out.1, by rw [← List.drop_drop, HE.out.2, List.drop_drop]⟩)
          have hb : (od[j] == key) = true := by simpa using hke
          generalize od[j] = p0 at *
          clear hke
          go_wp2_with (go_at_call 38; refine (HK.out _ _ HO.out).mono ?_; rintro e w' ⟨rfl, rfl⟩)
          go_roundw
          case rel => exact ⟨i, j + 1, ys, by omega, by omega, rfl, by go_num, HE2, HY, HO⟩
          case measure => simp [intOf]; omega
        · have HS := Lib.hid (HY.out.store i (by rw [← HYL.out]; omega) od[j])
          have HE2 := Lib.hid (show (ys.set i od[j]).take (i + 1) = dropK (od.take (j + 1)) key ∧ (ys.set i od[j]).drop (j + 1) = od.drop (j + 1) from ⟨by
            rw [dropK_put hlt hke, ← HE.out.1, List.take_succ_eq_append_getElem (by rw [List.length_set, ← HYL.out]; omega), List.getElem_set_self, List.take_set_of_le (Nat.le_refl _)], by
            rw [List.drop_set_of_lt (by omega), ← List.drop_drop, HE.out.2, List.drop_drop]⟩)
          have hb : (od[j] == key) = false := by simpa using hke
          generalize od[j] = p0 at *
          clear hke
          go_wp2_with (go_at_call 38; refine (HK.out _ _ HO.out).mono ?_; rintro e w' ⟨rfl, rfl⟩)
          go_roundw
          case rel =>
            have hs : ∀ W : World, W.setCells g (off + i * eU64.size) (eU64.cells p0) = W.setCell ⟨g, off + i, none⟩ (.int .u64 p0) := fun W => by
              rw [show off + i * eU64.size = off + i by show off + i * 1 = _; omega]; rfl
            have h := HS.out
            rw [hs] at h
            exact ⟨i + 1, j + 1, ys.set i p0, by omega, by omega, by go_num, by go_num, HE2, h.1, HO.out.tr h.2⟩
          case measure => simp [intOf]; omega
      · obtain rfl : j = od.length := by omega
        obtain ⟨w2, hr2, h2, ho2⟩ := clear_take HY.out i hij
        have HR2 := Lib.hid hr2
        have HO2 := Lib.hid (HO.out.tr ho2)
        have H2 := Lib.hid h2
        have HEE := Lib.hid (show ys.take i = dropK od key by have := HE.out.1; rwa [List.take_length] at this)
        have hlc : od.length ≤ cap := by
          obtain ⟨⟨_, _, c', he, hlc, _⟩, _⟩ := HY.out
          obtain ⟨_, h1, rfl⟩ : _ ∧ od.length = ys.length ∧ cap = c' := by simpa using he
          omega
        have hci : ¬ cap = i := by omega
        have hi0 : (0 : Int) ≤ (i : Int) := by omega
        have hi1 : (i : Int) ≤ (od.length : Int) := by omega
        have hi2 : i ≤ od.length := by omega
        have hi3 : i ≤ cap := by omega
        clear hr2 ho2 h2
        go_wp2_with (refine wl_clearE rfl (.tmp 38) 31 rfl _ rfl (HR2.out _ _) ?_)
        go_ret
        exact ⟨_, rfl, by rw [← HEE.out]; exact H2.out, HO2.out⟩
end Go.Proofs.Ytodacnpbhlkoiaa
