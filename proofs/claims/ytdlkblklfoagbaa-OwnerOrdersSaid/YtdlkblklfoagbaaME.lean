/- the chapters below, merged: ME -/
import Derived.Test.YtdlkblklfoagbaaMB
import Derived.Test.YtdlkblklfoagbaaMD
import Derived.Test.YtdlkblklfoagbaaMA
import Derived.Deep.RegionHeld3
import Derived.Test.YtdlkblklfoagbaaMH
namespace Go.Proofs.Ytdlkblklfoagbaa
open Go.RowKit
set_option linter.unusedVariables false
set_option linter.unusedSimpArgs false

theorem eqk_any (k key : Int) (kb : Nat) (w : World) (hk : w.cell? ⟨kb, 0, none⟩ = some (.int .u64 key)) :
    Calls Try.prog 75 #[.int .u64 k, .pointer (some ⟨kb, 0, none⟩)] w fun e w' => e = .returned (.bool (k == key)) ∧ w' = w := by
  go_enter Try.func75, Try.ntmps75
  go_wp2_with fail
  go_ret
  exact ⟨rfl, rfl⟩

def NotTo (od : List Int) (key : Int) (i : Nat) : Prop := ∀ a (h : a < od.length), a < i → od[a] ≠ key

theorem idx_any (v : Value) (od : List Int) (key : Int) (kb : Nat) (w : World) (hr : Rd eU64 w v od) (hk : w.cell? ⟨kb, 0, none⟩ = some (.int .u64 key)) :
    Calls Try.prog 78 #[v, .func (.func 75) #[] #[.pointer (some ⟨kb, 0, none⟩)]] w fun e w' =>
      ((∃ p : Nat, e = .returned (.int .i64 p) ∧ NotTo od key p ∧ ∃ h : p < od.length, od[p] = key) ∨ (e = .returned (.int .i64 (-1)) ∧ NotTo od key od.length)) ∧ w' = w := by
  have HRD := Lib.hid hr
  have HK := Lib.hid (eqk_any · key kb w hk)
  obtain ⟨hm, ao, cap, rfl, _, _, _⟩ := id hr
  unfold maxLen at hm
  clear hr hk
  go_enter Try.func78, Try.ntmps78
  go_wp2_with fail
  go_loop [4, 5, 8] (fun _ _ t8 => ∃ i : Nat, i ≤ od.length ∧ t8 = .int .i64 i ∧ Hid (NotTo od key i)) (fun _ _ t8 => od.length - (intOf t8).toNat)
  case atStart => exact ⟨0, Nat.zero_le _, rfl, fun a _ h => by omega⟩
  case round =>
    obtain ⟨i, hi, rfl, HN⟩ := hrel
    by_cases hlt : i < od.length
    · obtain ⟨_, ao', cap', hao, _, _, hx⟩ := HRD.out
      obtain ⟨rfl, _, rfl⟩ : ao = ao' ∧ od.length = od.length ∧ cap = cap' := by simpa using hao
      obtain ⟨sb, off, rfl, hc⟩ := hx (by omega)
      have d0 := hc i _ (eU64_at od i hlt)
      have hi0 : (0 : Int) ≤ (i : Int) := by omega
      have hi1 : (i : Int) < (od.length : Int) := by omega
      clear hc hx hao
      by_cases hke : od[i] = key
      · have HKE := Lib.hid (show ∃ h : i < od.length, od[i] = key from ⟨hlt, hke⟩)
        have hb : (od[i] == key) = true := by simpa using hke
        generalize od[i] = p0 at *
        clear hke
        go_wp2_with (go_at_call 75; refine (HK.out _).mono ?_; rintro e w' ⟨rfl, rfl⟩)
        go_ret
        exact ⟨.inl ⟨i, rfl, HN.out, HKE.out⟩, rfl⟩
      · have HN2 := Lib.hid (show NotTo od key (i + 1) from fun a ha hlt' => by
          by_cases e : a = i
          · subst e; exact hke
          · exact HN.out a ha (by omega))
        have hb : (od[i] == key) = false := by simpa using hke
        generalize od[i] = p0 at *
        clear hke
        go_wp2_with (go_at_call 75; refine (HK.out _).mono ?_; rintro e w' ⟨rfl, rfl⟩)
        go_round
        case rel => exact ⟨i + 1, by omega, by go_num, HN2⟩
        case measure => simp [intOf]; omega
    · obtain rfl : i = od.length := by omega
      go_wp2_with fail
      go_ret
      exact ⟨.inr ⟨rfl, HN.out⟩, rfl⟩

def dropK (od : List Int) (key : Int) : List Int := od.filter (fun k => k != key)
theorem dropK_none {od : List Int} {key : Int} (h : NotTo od key od.length) : dropK od key = od := by
  unfold dropK
  rw [List.filter_eq_self]
  intro a ha
  obtain ⟨i, hi, rfl⟩ := List.getElem_of_mem ha
  have := h i hi hi
  simpa using this
theorem dropK_take {od : List Int} {key : Int} {i : Nat} (h : NotTo od key i) (hi : i ≤ od.length) : dropK (od.take i) key = od.take i := by
  refine dropK_none fun a ha _ => ?_
  have ha' : a < i := by simp at ha; omega
  rw [List.getElem_take]
  exact h a (by omega) ha'
theorem dropK_skip {od : List Int} {key : Int} {j : Nat} (h : j < od.length) (e : od[j] = key) : dropK (od.take (j + 1)) key = dropK (od.take j) key := by
  unfold dropK
  rw [List.take_succ_eq_append_getElem h, List.filter_append]; simp [e]
theorem dropK_put {od : List Int} {key : Int} {j : Nat} (h : j < od.length) (e : od[j] ≠ key) : dropK (od.take (j + 1)) key = dropK (od.take j) key ++ [od[j]] := by
  unfold dropK
  rw [List.take_succ_eq_append_getElem h, List.filter_append]; simp [e]

theorem u64_all_len (xs : List Int) : (eU64.all xs).length = xs.length := (eU64.all_len xs).trans (Nat.mul_one _)
theorem u64_all_take (xs : List Int) (i : Nat) : (eU64.all xs).take i = eU64.all (xs.take i) := by
  have h : eU64.all xs = eU64.all (xs.take i) ++ eU64.all (xs.drop i) := by rw [← Enc.all_append, List.take_append_drop]
  by_cases hi : i ≤ xs.length
  · rw [h, List.take_left' (by rw [u64_all_len]; simp; omega)]
  · rw [List.take_of_length_le (by rw [u64_all_len]; omega), List.take_of_length_le (by omega)]

/-- clear(s[i:]), then s[:i] -/
theorem clear_take {S : Nat → Prop} {w : World} {g off n cap : Nat} {ys : List Int} (h : OwS eU64 33 S w (.slice (some ⟨g, off, none⟩) n cap) ys) (i : Nat) (hi : i < n) :
    ∃ w', (∀ rt c, (Builtin.clear_ #[93] rt #[.slice (some ⟨g, off + i, none⟩) (n - i) c]).run Try.prog w = .ok (.tuple #[]) w') ∧ OwS eU64 33 S w' (.slice (some ⟨g, off, none⟩) i cap) (ys.take i) ∧ Only S w w' := by
  obtain ⟨⟨hm, ao', cap', he, hlc, hcm, _, hx⟩, hSg⟩ := h
  obtain ⟨rfl, rfl, rfl⟩ : some ⟨g, off, none⟩ = ao' ∧ n = ys.length ∧ cap = cap' := by simpa using he
  obtain ⟨g', off', cur, hgo, _, hh, hs, ht⟩ := hx _ rfl
  obtain ⟨rfl, rfl⟩ : g = g' ∧ off = off' := by simpa using hgo
  have hs' : off + cap ≤ cur.size := by have h : off + cap * 1 ≤ cur.size := hs; omega
  have ht' : (cur.toList.drop off).take ys.length = eU64.all ys := by have h : (cur.toList.drop off).take (ys.length * 1) = eU64.all ys := ht; rwa [Nat.mul_one] at h
  have hgS : S g := hSg g rfl
  obtain ⟨i0, hi0, hz0, hz1, hz2⟩ := info_parts (show (Try.prog.info? 33).map (fun i => (i.zero, i.size, i.bytes)) = some (some (.int .u64 0), 1, 8) by kernel_rfl)
  have hzl : (Builtin.zeroCells (Value.int .u64 0).cells (ys.length - i)).size = ys.length - i := (size_zeroCells ..).trans (Nat.mul_one _)
  obtain ⟨w2, cur2, hr2, hh2, hc2, ho2⟩ := run_clearE (P := Try.prog) w 93 33 i0 _ g (off + i) (ys.length - i) cur 33 Try.underlying93 hi0 hz0 (by omega) hh (by rw [hzl]; omega)
    (fun v hv => by
      have h := Array.mem_toList_iff.1 hv
      unfold Builtin.zeroCells at h
      simp at h
      obtain ⟨a, _, h⟩ := h
      rw [show (Value.int .u64 0).cells.size = 1 from rfl, Nat.mod_one] at h
      subst h; rfl)
  have hl2 : cur2.toList.length = cur2.size := by simp
  have hcs : cur.toList.length = cur.size := by simp
  have hs2 : cur2.size = cur.size := by rw [← hl2, hc2, lay_len _ _ _ (by rw [Array.length_toList, hzl, hcs]; omega), hcs]
  have hl : (ys.take i).length = i := by simp; omega
  refine ⟨w2, hr2, ⟨⟨by rw [hl]; omega, some ⟨g, off, none⟩, cap, by rw [hl], by rw [hl]; omega, hcm, fun h => by simp at h, fun a ha => ⟨g, off, cur2, by simpa using ha.symm, Nat.zero_le _, hh2, by rw [hs2]; exact hs, ?_⟩⟩, hSg⟩, ho2.mono fun k _ e => by subst e; exact hgS⟩
  rw [hl]
  show List.take (i * 1) _ = _
  rw [Nat.mul_one, hc2]
  unfold lay
  rw [List.drop_append_of_le_length (by simp; omega), List.take_append_of_le_length (by simp; omega), List.drop_take, Nat.add_sub_cancel_left, List.take_take, Nat.min_self]
  rw [← u64_all_take, ← ht', List.take_take, Nat.min_eq_left (by omega)]
theorem setCells_one (w : World) (g o : Nat) (v : Value) : w.setCells g o [v] = w.setCell ⟨g, o, none⟩ v := rfl

set_option maxRecDepth 100000 in
set_option maxHeartbeats 1000000 in
theorem del_any (S : Nat → Prop) (v : Value) (od : List Int) (key : Int) (kb : Nat) (w : World) (hown : OwS eU64 33 S w v od) (hkb : w.heap[kb]? = some (.cells #[.int .u64 key] 33 (0, 0))) (hkS : ¬ S kb) :
    Calls Try.prog 74 #[v, .func (.func 75) #[] #[.pointer (some ⟨kb, 0, none⟩)]] w fun e w' => ∃ v', e = .returned v' ∧ OwS eU64 33 S w' v' (dropK od key) ∧ Only S w w' := by
  have hk : w.cell? ⟨kb, 0, none⟩ = some (.int .u64 key) := cells_of_heap hkb 0 _ rfl
  have HIX := Lib.hid (idx_any v od key kb w hown.rd hk)
  have HW := Lib.hid hown
  have hm := hown.1.1
  unfold maxLen at hm
  have HK := Lib.hid (fun k (W : World) (h : Only S w W) => eqk_any k key kb W (cells_of_heap (h.heap hkb hkS) 0 _ rfl))
  clear hk hkb
  by_cases hn : NotTo od key od.length
  · have HN := Lib.hid hn
    clear hn hown
    go_enter Try.func74, Try.ntmps74
    go_wp2_with fail
    refine HIX.out.mono ?_
    rintro e w1 ⟨⟨p, rfl, _, hp, hpk⟩ | ⟨rfl, _⟩, rfl⟩
    · exact absurd hpk (HN.out p hp hp)
    go_wp2_with fail
    go_ret
    exact ⟨_, rfl, by rw [dropK_none HN.out]; exact HW.out, Only.refl _ _⟩
  · have HN := Lib.hid hn
    clear hn
    go_enter Try.func74, Try.ntmps74
    go_wp2_with fail
    refine HIX.out.mono ?_
    rintro e w1 ⟨⟨p, rfl, hnp, hp, hpk⟩ | ⟨rfl, h⟩, rfl⟩
    rotate_left
    · exact absurd h HN.out
    obtain ⟨g, off, cap, rfl⟩ := hown.1.some_ (by omega)
    clear HIX HN hown
    have HNP := Lib.hid hnp
    have HPK := Lib.hid (show ∃ h : p < od.length, od[p] = key from ⟨hp, hpk⟩)
    have hpf : ((p : Int) == -1) = false := by simp
    clear hnp hpk
    go_wp2_with fail
    go_loopw [5, 6, 7] (fun t5 t6 _ wr => ∃ (i j : Nat) (ys : List Int), i < j ∧ j ≤ od.length ∧ t5 = .int .i64 i ∧ t6 = .int .i64 j ∧ Hid (ys.take i = dropK (od.take j) key ∧ ys.drop j = od.drop j) ∧ Hid (OwS eU64 33 S wr (.slice (some ⟨g, off, none⟩) od.length cap) ys) ∧ Hid (Only S w1 wr)) (fun _ t6 _ _ => od.length - (intOf t6).toNat)
    case atStart =>
      obtain ⟨_, hpk⟩ := HPK.out
      exact ⟨p, p + 1, od, by omega, by omega, rfl, by go_num, ⟨by rw [dropK_skip hp hpk, dropK_take HNP.out (by omega)], rfl⟩, HW.out, Only.refl _ _⟩
    case round =>
      obtain ⟨i, j, ys, hij, hj, rfl, rfl, HE, HY, HO⟩ := hrel
      have hyl : od.length = ys.length := by
        obtain ⟨⟨_, _, _, he, _⟩, _⟩ := HY.out
        simpa using (show _ ∧ od.length = ys.length ∧ _ from by simpa using he).2.1
      have HYL := Lib.hid hyl
      clear hyl
      by_cases hlt : j < od.length
      · have hyj : ∃ h : j < ys.length, ys[j] = od[j] := ⟨by rw [← HYL.out]; exact hlt, by
          have h := HE.out.2
          have h2 : (ys.drop j)[0]? = (od.drop j)[0]? := by rw [h]
          rw [List.getElem?_drop, List.getElem?_drop, Nat.add_zero, List.getElem?_eq_getElem (by rw [← HYL.out]; exact hlt), List.getElem?_eq_getElem hlt] at h2
          exact Option.some.inj h2⟩
        obtain ⟨hyl, hyj⟩ := hyj
        obtain ⟨_, ao', cap', hao, _, _, hx⟩ := HY.out.rd
        obtain ⟨rfl, -, rfl⟩ : some ⟨g, off, none⟩ = ao' ∧ od.length = ys.length ∧ cap = cap' := by simpa using hao
        obtain ⟨sb, off', ho', hc⟩ := hx (by omega)
        obtain ⟨rfl, rfl⟩ : g = sb ∧ off = off' := by simpa using ho'
        have d0 := hc j _ (eU64_at ys j hyl)
        rw [hyj] at d0
        obtain ⟨gi, oi, hgo, _, hat⟩ := HY.out.1.at_ i (by rw [← HYL.out]; omega)
        obtain ⟨rfl, rfl⟩ : g = gi ∧ off = oi := by simpa using hgo
        obtain ⟨q0, e0, z0⟩ : ∃ q0, wr.cell? ⟨g, off + i, none⟩ = some (.int .u64 q0) ∧ wr.frozen? ⟨g, off + i, none⟩ = false := by
          have h := hat 0 (by decide)
          rw [show off + (i * eU64.size + 0) = off + i by show off + (i * 1 + 0) = _; omega] at h
          exact ⟨_, h.1, h.2⟩
        have hj0 : (0 : Int) ≤ (j : Int) := by omega
        have hj1 : (j : Int) < (od.length : Int) := by omega
        have hi0 : (0 : Int) ≤ (i : Int) := by omega
        have hi1 : (i : Int) < (od.length : Int) := by omega
        have hil : i < od.length := by omega
        clear hc hx hao ho' hgo hat hyl hyj
        by_cases hke : od[j] = key
        · have HE2 := Lib.hid (show ys.take i = dropK (od.take (j + 1)) key ∧ ys.drop (j + 1) = od.drop (j + 1) from ⟨by rw [dropK_skip hlt hke]; exact HE.out.1, by rw [← List.drop_drop, HE.out.2, List.drop_drop]⟩)
          have hb : (od[j] == key) = true := by simpa using hke
          generalize od[j] = p0 at *
          clear hke
          go_wp2_with (go_at_call 75; refine (HK.out _ _ HO.out).mono ?_; rintro e w' ⟨rfl, rfl⟩)
          go_roundw
          case rel => exact ⟨i, j + 1, ys, by omega, by omega, rfl, by go_num, HE2, HY, HO⟩
          case measure => simp [intOf]; omega
        · have HS := Lib.hid (HY.out.store i (by rw [← HYL.out]; omega) od[j])
          have HE2 := Lib.hid (show (ys.set i od[j]).take (i + 1) = dropK (od.take (j + 1)) key ∧ (ys.set i od[j]).drop (j + 1) = od.drop (j + 1) from ⟨by
            rw [dropK_put hlt hke, ← HE.out.1, List.take_succ_eq_append_getElem (by rw [List.length_set, ← HYL.out]; omega), List.getElem_set_self, List.take_set_of_le (Nat.le_refl _)], by
            rw [List.drop_set_of_lt (by omega), ← List.drop_drop, HE.out.2, List.drop_drop]⟩)
          have hb : (od[j] == key) = false := by simpa using hke
          generalize od[j] = p0 at *
          clear hke
          go_wp2_with (go_at_call 75; refine (HK.out _ _ HO.out).mono ?_; rintro e w' ⟨rfl, rfl⟩)
          go_roundw
          case rel =>
            have hs : ∀ W : World, W.setCells g (off + i * eU64.size) (eU64.cells p0) = W.setCell ⟨g, off + i, none⟩ (.int .u64 p0) := fun W => by
              rw [show off + i * eU64.size = off + i by show off + i * 1 = _; omega]; rfl
            have h := HS.out
            rw [hs] at h
            exact ⟨i + 1, j + 1, ys.set i p0, by omega, by omega, by go_num, by go_num, HE2, h.1, HO.out.tr h.2⟩
          case measure => simp [intOf]; omega
      · obtain rfl : j = od.length := by omega
        obtain ⟨w2, hr2, h2, ho2⟩ := clear_take HY.out i hij
        have HR2 := Lib.hid hr2
        have HO2 := Lib.hid (HO.out.tr ho2)
        have H2 := Lib.hid h2
        have HEE := Lib.hid (show ys.take i = dropK od key by have := HE.out.1; rwa [List.take_length] at this)
        have hlc : od.length ≤ cap := by
          obtain ⟨⟨_, _, c', he, hlc, _⟩, _⟩ := HY.out
          obtain ⟨_, h1, rfl⟩ : _ ∧ od.length = ys.length ∧ cap = c' := by simpa using he
          omega
        have hci : ¬ cap = i := by omega
        have hi0 : (0 : Int) ≤ (i : Int) := by omega
        have hi1 : (i : Int) ≤ (od.length : Int) := by omega
        have hi2 : i ≤ od.length := by omega
        have hi3 : i ≤ cap := by omega
        clear hr2 ho2 h2
        go_wp2_with (refine wl_clearE rfl (.tmp 38) 93 rfl _ rfl (HR2.out _ _) ?_)
        go_ret
        exact ⟨_, rfl, by rw [← HEE.out]; exact H2.out, HO2.out⟩

/-- the LRU's own block, its order -/
def LruO (g b : Nat) (od : List Int) (S : Nat → Prop) (w : World) : Prop := Obj1 eU64 112 33 (fun v => #[.pointer (some ⟨b, 0, none⟩), v]) g od S w
theorem LruO.framed {g b : Nat} {od : List Int} : Framed (LruO g b od) := Obj1.framed
theorem LruO.own {g b : Nat} {od : List Int} {S : Nat → Prop} {w : World} (H : LruO g b od S w) : ∃ v, w.heap[g]? = some (.cells #[.pointer (some ⟨b, 0, none⟩), v] 112 (0, 0)) ∧ OwS eU64 33 (fun k => v.ownBlock = some k) w v od ∧ (∀ k, v.ownBlock = some k → S k ∧ k < w.heap.size) ∧ S g ∧ v.ownBlock ≠ some g := by
  obtain ⟨v, hg, hown, hS, hv⟩ := H
  exact ⟨v, hg, ⟨hown, fun _ h => h⟩, fun k hk => ⟨hv k hk, (hown.lt hk).2⟩, hS, row_ne hg hown (by decide)⟩
/-- the order is set -/
theorem LruO.set {g b : Nat} {od : List Int} {S : Nat → Prop} {w w2 : World} {u v' : Value} (hg2 : w2.heap[g]? = some (.cells #[.pointer (some ⟨b, 0, none⟩), u] 112 (0, 0))) (hS : S g) (hgl : g < w.heap.size) (hown : OwS eU64 33 (fun k => S k ∨ w.heap.size ≤ k) w2 v' od) (ho : Only S w w2) :
    Upd (LruO g b od) S w (w2.setCell ⟨g, 1, none⟩ v') := by
  obtain ⟨h1, h2⟩ := Obj1.setSlice' (E := eU64) (ety := 33) (cells := fun v => #[.pointer (some ⟨b, 0, none⟩), v]) (S := fun k => S k ∨ w.heap.size ≤ k) hg2 (.inl hS) (by decide) 1 v' hown (fun _ _ => rfl)
  exact ⟨h1, ho.trans h2 fun j _ e => by subst e; exact hS⟩

set_option maxHeartbeats 1000000 in
theorem drop_any (g b : Nat) (od : List Int) (S : Nat → Prop) (key : Int) (w : World) (H : LruO g b od S w) :
    Calls Try.prog 72 #[.pointer (some ⟨g, 0, none⟩), .int .u64 key] w fun e w' => e = .returned (.tuple #[]) ∧ Upd (LruO g b (dropK od key)) S w w' := by
  obtain ⟨v, hg, hown, hvS, hS, hne⟩ := H.own
  have hgl := heap_lt hg
  have c1 := cells_of_heap hg 1 v rfl
  have HG := Lib.hid hg
  have HV := Lib.hid hvS
  have HN := Lib.hid hne
  have HDel := Lib.hid (del_any (fun k => v.ownBlock = some k) v od key w.heap.size (w.alloc (.cells #[.int .u64 key] 33 (0, 0))) (OwS.framed.alloc hown _) (heap_alloc_new w _) (fun h => by have := (hvS _ h).2; omega))
  obtain ⟨_, _, _, rfl⟩ := hown.shape'
  clear hg hown hvS hne H
  go_enter Try.func72, Try.ntmps72
  go_wp2_with fail
  refine HDel.out.mono ?_
  rintro e w2 ⟨v', rfl, hown2, ho2⟩
  have hg2 := ho2.heap (heap_alloc HG.out) HN.out
  have d1 := cells_of_heap hg2 1 _ rfl
  have z1 := frozen_of_row w2 g 1 _ _ hg2
  have HF := Lib.hid (LruO.set (w := w) (S := S) hg2 hS hgl (OwS.framed.mono _ _ _ hown2 fun k _ hk => .inl (HV.out k hk).1) ((Only.alloc _ _ _).trans ho2 fun k _ hk => (HV.out k hk).1))
  obtain ⟨_, _, _, rfl⟩ := hown2.shape'
  clear hg2 hown2 ho2
  go_wp2_with fail
  go_end0
  exact ⟨rfl, HF.out⟩

set_option maxHeartbeats 1000000 in
theorem touch_any (g b : Nat) (od : List Int) (S : Nat → Prop) (key : Int) (w : World) (H : LruO g b od S w) (hn : od.length ≤ 1000) :
    Calls Try.prog 71 #[.pointer (some ⟨g, 0, none⟩), .int .u64 key] w fun e w' => e = .returned (.tuple #[]) ∧ Upd (LruO g b (key :: dropK od key)) S w w' := by
  have HD := Lib.hid (drop_any g b od S key w H)
  obtain ⟨_, hg0, _, _, _, _⟩ := H.own
  have hgl0 := heap_lt hg0
  clear H hg0
  go_enter Try.func71, Try.ntmps71
  go_wp2_with fail
  refine HD.out.mono ?_
  rintro e w1 ⟨rfl, hU⟩
  have HU := Lib.hid hU
  obtain ⟨v, hg, hown, hvS, hS, hne⟩ := hU.1.own
  have hgl := heap_lt hg
  have c1 := cells_of_heap hg 1 v rfl
  have HG := Lib.hid hg
  have HV := Lib.hid hvS
  have HN := Lib.hid hne
  have hdl : (dropK od key).length ≤ 1000 := Nat.le_trans (List.length_filter_le _ _) hn
  have HI := Lib.hid (uins_any (fun k => v.ownBlock = some k) v (dropK od key) key 0 (w1.alloc (.cells #[.int .u64 key] 33 (0, 0))) w1.heap.size (OwS.framed.alloc hown _) (Nat.zero_le _) hdl (heap_alloc_new w1 _) (fun h => by have := (hvS _ h).2; omega))
  obtain ⟨_, _, _, rfl⟩ := hown.shape'
  clear hg hown hvS hne hU HD
  go_wp2_with fail
  refine HI.out.mono ?_
  rintro e w2 ⟨v', rfl, hown2, ho2⟩
  have hown2' : OwS eU64 33 _ w2 v' (key :: dropK od key) := hown2
  have hg2 := ho2.heap (heap_alloc HG.out) HN.out
  have d1 := cells_of_heap hg2 1 _ rfl
  have z1 := frozen_of_row w2 g 1 _ _ hg2
  have HF := Lib.hid (LruO.set (w := w1) hg2 hS hgl (OwS.framed.mono _ _ _ hown2' fun k _ hk => by
    rcases hk with hk | hk
    · exact .inl (HV.out k hk).1
    · exact .inr (by simp at hk; omega)) ((Only.alloc _ _ _).trans ho2 fun k _ hk => (HV.out k hk).1))
  obtain ⟨_, _, _, rfl⟩ := hown2.shape'
  clear hg2 hown2 hown2' ho2
  go_wp2_with fail
  go_end0
  exact ⟨rfl, HU.out.step LruO.framed HF.out⟩

def lastP (od : List Int) : Int := od.getLastD 0
def touches (xs : List PairD) (op k : Int) : Bool := decide (op = 2) || decide (op = 4) || (decide (op = 0) && hasP xs k)
def ordP (xs : List PairD) (od : List Int) (op k : Int) : List Int := if touches xs op k then k :: dropK od k else if op = 3 then dropK od k else od
def isFull (cap : Int) (xs : List PairD) (op k : Int) : Bool := (decide (op = 2) || decide (op = 4)) && full cap xs k
def lruP (cap : Int) (s : List PairD × List Int) (op k v : Int) : ResD × (List PairD × List Int) :=
  if isFull cap s.1 op k then
    ((0, false, if op = 4 then add64 0 v else 0, true, lastP s.2, oldP s.1 (lastP s.2)), (putP (delP s.1 (lastP s.2)) k (if op = 4 then add64 0 v else v), k :: dropK (dropK s.2 (lastP s.2)) k))
  else ((doP cap s.1 op k v).1, ((doP cap s.1 op k v).2, if (doP cap s.1 op k v).1.1 = 0 then ordP s.1 s.2 op k else s.2))
structure LGood (cap : Int) (s : List PairD × List Int) : Prop where
  good : Good cap s.1
  nodup : s.2.Nodup
  keys : ∀ k, k ∈ s.2 ↔ hasP s.1 k = true

theorem mem_dropK {od : List Int} {k j : Int} : j ∈ dropK od k ↔ j ∈ od ∧ j ≠ k := by unfold dropK; simp
theorem nodup_dropK {od : List Int} (h : od.Nodup) (k : Int) : (dropK od k).Nodup := h.sublist List.filter_sublist
theorem nodup_touch {od : List Int} (h : od.Nodup) (k : Int) : (k :: dropK od k).Nodup := by
  rw [List.nodup_cons]; exact ⟨fun h => (mem_dropK.1 h).2 rfl, nodup_dropK h k⟩
theorem keys_nodup {xs : List PairD} (hr : Rising xs) : (xs.map (·.1)).Nodup := by
  rw [rising_pairwise] at hr
  rw [List.nodup_iff_pairwise_ne, List.pairwise_map]
  exact hr.imp fun h => by omega
theorem mem_keys {xs : List PairD} {k : Int} : k ∈ xs.map (·.1) ↔ hasP xs k = true := by
  rw [mem_has, List.mem_map]
  exact ⟨fun ⟨p, hp, e⟩ => ⟨p.2, by subst e; exact hp⟩, fun ⟨v, h⟩ => ⟨_, h, rfl⟩⟩
theorem LGood.len {cap : Int} {s : List PairD × List Int} (G : LGood cap s) : s.2.length = s.1.length := by
  have h : s.2.Perm (s.1.map (·.1)) := (List.perm_ext_iff_of_nodup G.nodup (keys_nodup G.good.rising)).2 fun k => by rw [G.keys, mem_keys]
  simpa using h.length_eq
theorem has_put {xs : List PairD} (hr : Rising xs) (k v j : Int) : hasP (putP xs k v) j = true ↔ j = k ∨ hasP xs j = true := by
  rw [mem_has, mem_has]
  constructor
  · rintro ⟨u, h⟩
    rcases (mem_put hr k v _).1 h with h | h
    · exact .inl (by simpa using congrArg Prod.fst h)
    · exact .inr ⟨u, h.2⟩
  · rintro (rfl | ⟨u, h⟩)
    · exact ⟨v, (mem_put hr _ _ _).2 (.inl rfl)⟩
    · by_cases e : j = k
      · subst e; exact ⟨v, (mem_put hr _ _ _).2 (.inl rfl)⟩
      · exact ⟨u, (mem_put hr _ _ _).2 (.inr ⟨e, h⟩)⟩
theorem has_del {xs : List PairD} (hr : Rising xs) (k j : Int) : hasP (delP xs k) j = true ↔ j ≠ k ∧ hasP xs j = true := by
  rw [mem_has, mem_has]
  constructor
  · rintro ⟨u, h⟩
    have := (mem_del hr k _).1 h
    exact ⟨this.1, u, this.2⟩
  · rintro ⟨e, u, h⟩
    exact ⟨u, (mem_del hr k _).2 ⟨e, h⟩⟩
theorem keys_touch {od : List Int} {k j : Int} : j ∈ k :: dropK od k ↔ j = k ∨ j ∈ od := by
  rw [List.mem_cons, mem_dropK]
  by_cases e : j = k <;> simp [e]
theorem last_mem {od : List Int} (h : 0 < od.length) : lastP od ∈ od := by
  unfold lastP
  cases od with
  | nil => simp at h
  | cons a l => rw [List.getLastD_cons]; cases l with
    | nil => simp
    | cons b l => simp only [List.getLastD_cons]; exact List.mem_cons_of_mem _ (List.getLastD_mem_cons ..)
theorem last_at {od : List Int} (h : 0 < od.length) : lastP od = od[od.length - 1] := by
  unfold lastP
  rw [List.getLastD_eq_getLast?, List.getLast?_eq_getElem?, List.getElem?_eq_getElem (by omega)]; rfl
theorem full_has {cap : Int} {xs : List PairD} {op k : Int} (h : isFull cap xs op k = true) : (op = 2 ∨ op = 4) ∧ hasP xs k = false ∧ (xs.length : Int) = cap := by
  unfold isFull full at h
  simpa using h
theorem del_len' {xs : List PairD} (hr : Rising xs) (k : Int) (h : hasP xs k = true) : (delP xs k).length + 1 = xs.length := by
  unfold delP
  rw [if_pos h]
  have := (posP_lt hr h).1
  simp; omega
/-- the second try of a full LRU goes in -/
theorem evict_do {cap : Int} {s : List PairD × List Int} {op k v : Int} (G : LGood cap s) (h : isFull cap s.1 op k = true) :
    doP cap s.1 op k v = (resE 40, s.1) ∧ 0 < s.2.length ∧ hasP s.1 (lastP s.2) = true ∧ doP cap s.1 3 (lastP s.2) 0 = (resF true (oldP s.1 (lastP s.2)), delP s.1 (lastP s.2)) ∧ Good cap (delP s.1 (lastP s.2)) ∧ hasP (delP s.1 (lastP s.2)) k = false ∧ full cap (delP s.1 (lastP s.2)) k = false ∧
    doP cap (delP s.1 (lastP s.2)) op k v = (resF false (if op = 4 then add64 0 v else 0), putP (delP s.1 (lastP s.2)) k (if op = 4 then add64 0 v else v)) := by
  obtain ⟨hop, hf, hl⟩ := full_has h
  have h0 : 0 < s.2.length := by have := G.len; have := G.good.lo; omega
  have hlh := (G.keys _).1 (last_mem h0)
  have hlen := del_len' G.good.rising _ hlh
  have hnk : hasP (delP s.1 (lastP s.2)) k = false := by
    cases e : hasP (delP s.1 (lastP s.2)) k
    · rfl
    · have := ((has_del G.good.rising _ _).1 e).2; rw [hf] at this; simp at this
  have hnf : full cap (delP s.1 (lastP s.2)) k = false := by
    unfold full
    have : ¬ (((delP s.1 (lastP s.2)).length : Int) = cap) := by omega
    simp [this]
  have hfull : full cap s.1 k = true := by unfold full; simp [hf, hl]
  have ho : oldP (delP s.1 (lastP s.2)) k = 0 := by unfold oldP; rw [hnk]; rfl
  refine ⟨?_, h0, hlh, ?_, del_good G.good, hnk, hnf, ?_⟩
  · unfold doP
    rcases hop with rfl | rfl <;> simp [hfull]
  · unfold doP; simp [hlh]
  · unfold doP
    rcases hop with rfl | rfl <;> simp [hnf, hnk, ho]
theorem lru_good {cap : Int} {s : List PairD × List Int} {op k v : Int} (G : LGood cap s) : LGood cap (lruP cap s op k v).2 := by
  have hr := G.good.rising
  unfold lruP
  by_cases hF : isFull cap s.1 op k = true
  · rw [if_pos hF]
    obtain ⟨_, _, hlh, _, hg, hnk, hnf, _⟩ := evict_do (v := v) G hF
    refine ⟨put_good hg hnf, nodup_touch (nodup_dropK G.nodup _) _, fun j => ?_⟩
    rw [keys_touch, mem_dropK, has_put hg.rising, has_del hr, G.keys]
    constructor
    · rintro (h | ⟨h1, h2⟩)
      · exact .inl h
      · exact .inr ⟨h2, h1⟩
    · rintro (h | ⟨h1, h2⟩)
      · exact .inl h
      · exact .inr ⟨h2, h1⟩
  · rw [if_neg hF]
    have hF' : isFull cap s.1 op k = false := by simpa using hF
    refine ⟨do_good G.good, ?_, fun j => ?_⟩
    · dsimp only
      split
      · unfold ordP
        split
        · exact nodup_touch G.nodup _
        · split
          · exact nodup_dropK G.nodup _
          · exact G.nodup
      · exact G.nodup
    · dsimp only
      by_cases h0 : op = 0
      · subst h0
        have e : doP cap s.1 0 k v = (resF (hasP s.1 k) (oldP s.1 k), s.1) := rfl
        rw [e]
        show j ∈ ordP s.1 s.2 0 k ↔ _
        unfold ordP
        cases hf : hasP s.1 k
        · rw [if_neg (by simp [touches, hf])]; exact G.keys j
        · rw [if_pos (by simp [touches, hf]), keys_touch]
          rw [G.keys]
          constructor
          · rintro (rfl | h)
            · exact hf
            · exact h
          · exact .inr
      by_cases h1 : op = 1
      · subst h1
        have e : doP cap s.1 1 k v = (resF (hasP s.1 k) 0, s.1) := rfl
        rw [e]
        exact G.keys j
      by_cases h3 : op = 3
      · subst h3
        have e : doP cap s.1 3 k v = (resF (hasP s.1 k) (oldP s.1 k), delP s.1 k) := rfl
        rw [e]
        show j ∈ dropK s.2 k ↔ hasP (delP s.1 k) j = true
        rw [mem_dropK, has_del hr, G.keys]
        exact And.comm
      by_cases h2 : op = 2
      · subst h2
        have hfu : full cap s.1 k = false := by unfold isFull at hF'; simpa using hF'
        have e : doP cap s.1 2 k v = (resF (hasP s.1 k) (oldP s.1 k), putP s.1 k v) := by unfold doP; simp [hfu]
        rw [e]
        show j ∈ k :: dropK s.2 k ↔ hasP (putP s.1 k v) j = true
        rw [keys_touch, has_put hr, G.keys]
      by_cases h4 : op = 4
      · subst h4
        have hfu : full cap s.1 k = false := by unfold isFull at hF'; simpa using hF'
        have e : doP cap s.1 4 k v = (resF (hasP s.1 k) (add64 (oldP s.1 k) v), putP s.1 k (add64 (oldP s.1 k) v)) := by unfold doP; simp [hfu]
        rw [e]
        show j ∈ k :: dropK s.2 k ↔ hasP (putP s.1 k _) j = true
        rw [keys_touch, has_put hr, G.keys]
      · have e : doP cap s.1 op k v = (resE 2, s.1) := by unfold doP; simp [h0, h1, h2, h3, h4]
        rw [e]
        exact G.keys j
theorem lgood_nil {cap : Int} (h1 : 1 ≤ cap) (h2 : cap ≤ 16) : LGood cap ([], []) := ⟨good_nil h1 h2, List.nodup_nil, fun k => by simp [hasP]⟩

def LruS (g b : Nat) (cap : Int) (s : List PairD × List Int) : (Nat → Prop) → World → Prop := Sep (LruO g b s.2) (BookS b cap s.1)
theorem LruS.framed {g b : Nat} {cap : Int} {s : List PairD × List Int} : Framed (LruS g b cap s) := Sep.framed LruO.framed BookS.framed
abbrev resO (x0 : Int) (x1 : Bool) (x2 : Int) (x3 : Bool) (x4 x5 : Int) : Obj := .cells #[.int .i64 x0, .bool x1, .int .u64 x2, .bool x3, .int .u64 x4, .int .u64 x5] 41 (0, 0)
theorem LruS.ptr {g b : Nat} {cap : Int} {s : List PairD × List Int} {S : Nat → Prop} {w : World} (H : LruS g b cap s S w) : w.cell? ⟨g, 0, none⟩ = some (.pointer (some ⟨b, 0, none⟩)) := by
  obtain ⟨v, hg, _⟩ := (H.left LruO.framed).own
  exact cells_of_heap hg 0 _ rfl
theorem LruS.do_ {g b : Nat} {cap : Int} {s : List PairD × List Int} {S : Nat → Prop} {w : World} (H : LruS g b cap s S w) (G : Good cap s.1) (op key val : Int) :
    Calls Try.prog 56 #[.pointer (some ⟨b, 0, none⟩), .int .i64 op, .int .u64 key, .int .u64 val] w fun e w' => e = .returned (ResD.val (doP cap s.1 op key val).1) ∧ Upd (LruS g b cap ((doP cap s.1 op key val).2, s.2)) S w w' := by
  obtain ⟨B, hB, hb⟩ := H.focusR LruO.framed
  exact (do_any b cap s.1 B op key val w hB G).mono fun e w' ⟨he, h1, h2⟩ => ⟨he, hb _ w' BookS.framed ⟨h1, h2⟩⟩
theorem LruS.drop_ {g b : Nat} {cap : Int} {s : List PairD × List Int} {S : Nat → Prop} {w : World} (H : LruS g b cap s S w) (key : Int) :
    Calls Try.prog 72 #[.pointer (some ⟨g, 0, none⟩), .int .u64 key] w fun e w' => e = .returned (.tuple #[]) ∧ Upd (LruS g b cap (s.1, dropK s.2 key)) S w w' := by
  obtain ⟨B, hB, hb⟩ := H.focus BookS.framed
  exact (drop_any g b s.2 B key w hB).mono fun e w' ⟨he, h1⟩ => ⟨he, hb _ w' LruO.framed h1⟩
theorem LruS.touch_ {g b : Nat} {cap : Int} {s : List PairD × List Int} {S : Nat → Prop} {w : World} (H : LruS g b cap s S w) (hn : s.2.length ≤ 1000) (key : Int) :
    Calls Try.prog 71 #[.pointer (some ⟨g, 0, none⟩), .int .u64 key] w fun e w' => e = .returned (.tuple #[]) ∧ Upd (LruS g b cap (s.1, key :: dropK s.2 key)) S w w' := by
  obtain ⟨B, hB, hb⟩ := H.focus BookS.framed
  exact (touch_any g b s.2 B key w hB hn).mono fun e w' ⟨he, h1⟩ => ⟨he, hb _ w' LruO.framed h1⟩
theorem LruS.doF_ {g b : Nat} {cap : Int} {s : List PairD × List Int} {S : Nat → Prop} {w : World} (H : LruS g b cap s S w) (G : Good cap s.1) {op key val : Int} {r : ResD} {ys : List PairD} (hd : doP cap s.1 op key val = (r, ys)) :
    Calls Try.prog 56 #[.pointer (some ⟨b, 0, none⟩), .int .i64 op, .int .u64 key, .int .u64 val] w fun e w' => e = .returned (.agg #[.int .i64 r.1, .bool r.2.1, .int .u64 r.2.2.1, .bool r.2.2.2.1, .int .u64 r.2.2.2.2.1, .int .u64 r.2.2.2.2.2]) ∧ Upd (LruS g b cap (ys, s.2)) S w w' := by
  have := H.do_ G op key val
  rw [hd] at this; exact this
/-- the same beside other things -/
theorem Upd.via {P R : (Nat → Prop) → World → Prop} (hR : Framed R) {S : Nat → Prop} {w w1 : World} (h : Upd (Sep P R) S w w1) {f : FuncId} {args : Array Value} {pr : Program} {e0 : Ending} {P' : (Nat → Prop) → World → Prop} (hP' : Framed P')
    (H : ∀ A, P A w1 → Calls pr f args w1 fun e w' => e = e0 ∧ Upd P' A w1 w') : Calls pr f args w1 fun e w' => e = e0 ∧ Upd (Sep P' R) S w w' := by
  obtain ⟨A, hA, hb⟩ := h.1.focus hR
  exact (H A hA).mono fun e w' ⟨he, hu⟩ => ⟨he, h.step (Sep.framed hP' hR) (hb P' w' hP' hu)⟩

theorem res_out {w : World} {r : Nat} {x0 x2 y4 y5 : Int} {x1 y3 : Bool} (h : w.heap[r]? = some (resO x0 x1 x2 y3 y4 y5)) (x4 x5 : Int) :
    ((((w.setCell ⟨r, 3, none⟩ (.bool true)).setCell ⟨r, 4, none⟩ (.int .u64 x4)).setCell ⟨r, 5, none⟩ (.int .u64 x5)).drew).heap[r]? = some (resO x0 x1 x2 true x4 x5) ∧ Only (fun k => k = r) w ((((w.setCell ⟨r, 3, none⟩ (.bool true)).setCell ⟨r, 4, none⟩ (.int .u64 x4)).setCell ⟨r, 5, none⟩ (.int .u64 x5)).drew) :=
  ⟨blk_set (blk_set (blk_set h 3 (.bool true)) 4 (.int .u64 x4)) 5 (.int .u64 x5), (((Only.setCell (fun k => k = r) w r 3 _ rfl).tr (Only.setCell _ _ r 4 _ rfl)).tr (Only.setCell _ _ r 5 _ rfl)).drew_⟩
set_option maxHeartbeats 2000000 in
theorem evict_any (g b r : Nat) (cap : Int) (s : List PairD × List Int) (S : Nat → Prop) (w : World) (H : Sep (LruS g b cap s) (Locs [(r, resO 0 false 0 false 0 0)]) S w) (G : LGood cap s) (h0 : 0 < s.2.length) (hlh : hasP s.1 (lastP s.2) = true) :
    Calls Try.prog 70 #[.pointer (some ⟨g, 0, none⟩), .pointer (some ⟨r, 0, none⟩)] w fun e w' => e = .returned (.tuple #[]) ∧ Upd (Sep (LruS g b cap (delP s.1 (lastP s.2), dropK s.2 (lastP s.2))) (Locs [(r, resO 0 false 0 true (lastP s.2) (oldP s.1 (lastP s.2)))])) S w w' := by
  obtain ⟨v, hg, hown, _⟩ := ((H.left LruS.framed).left LruO.framed).own
  have hlen : s.2.length ≤ 16 := by have := G.len; have := G.good.len; have := G.good.hi; omega
  have hrl := heap_lt ((H.right Locs.framed) _ (List.mem_singleton_self _)).1
  have HU := Lib.hid (Upd.refl (Sep.framed LruS.framed Locs.framed) H)
  have c1 := cells_of_heap hg 1 v rfl
  have c0 := (H.left LruS.framed).ptr
  obtain ⟨bb, off, cp, rfl⟩ := hown.1.some_ h0
  have hx := hown.rd.2
  obtain ⟨ao', cap', hao, _, _, hx⟩ := hx
  obtain ⟨rfl, -, rfl⟩ : some ⟨bb, off, none⟩ = ao' ∧ s.2.length = s.2.length ∧ cp = cap' := by simpa using hao
  obtain ⟨sb, off', ho', hc⟩ := hx h0
  obtain ⟨rfl, rfl⟩ : bb = sb ∧ off = off' := by simpa using ho'
  obtain ⟨m, hm⟩ : ∃ m, m = s.2.length - 1 := ⟨_, rfl⟩
  have hml : m < s.2.length := by omega
  have d0 := hc m _ (eU64_at s.2 m hml)
  have hlast : s.2[m] = lastP s.2 := by subst hm; exact (last_at h0).symm
  rw [hlast] at d0
  have hsub : IntKind.i64.wrap ((s.2.length : Int) - 1) = (m : Int) := by rw [IntKind.wrap_i64]; omega
  have hsub2 : IntKind.i64.wrap (m : Int) = (m : Int) := by rw [IntKind.wrap_i64]; omega
  have HDel := Lib.hid (show doP cap s.1 3 (lastP s.2) 0 = (resF true (oldP s.1 (lastP s.2)), delP s.1 (lastP s.2)) by unfold doP; simp [hlh])
  have HG := Lib.hid G
  have hi0 : (0 : Int) ≤ (m : Int) := by omega
  have hi1 : (m : Int) < (s.2.length : Int) := by omega
  clear hg hown hx hao ho' hc hm hlast H G hlh
  generalize lastP s.2 = l at *
  generalize oldP s.1 l = o at *
  go_enter Try.func70, Try.ntmps70
  go_wp2_with fail
  go_quiet (fail)
  go_wp2_with fail
  have HU1 := Lib.hid (HU.out.fresh (Sep.framed LruS.framed Locs.framed) ((Only.refl _ _).drewN nq))
  refine (HU1.out.via Locs.framed LruS.framed fun A hA => LruS.doF_ hA HG.out.good HDel.out).mono ?_
  rintro e w1 ⟨rfl, hU1⟩
  have HU2 := Lib.hid (hU1.loc LruS.framed (resO 0 true o false 0 0))
  have hw1 := hU1.2.size
  have hne : ¬ r = w1.heap.size := by omega
  have hne2 : ¬ w1.heap.size = r := fun h => hne h.symm
  clear HU1 HU hU1 c1 c0 d0 hw1
  dsimp only [resF]
  go_wp2_with fail
  refine (HU2.out.via Locs.framed LruS.framed fun A hA => LruS.drop_ hA l).mono ?_
  rintro e w2 ⟨rfl, hU2⟩
  have h5 := hU2.get (g := w1.heap.size) (List.mem_cons_self ..)
  have hr := hU2.get (g := r) (List.mem_cons_of_mem _ (List.mem_singleton_self _))
  have HU3 := Lib.hid hU2
  have e2 := cells_of_heap h5 2 (.int .u64 o) rfl
  have r3 := cells_of_heap hr 3 (.bool false) rfl
  have r4 := cells_of_heap hr 4 (.int .u64 0) rfl
  have r5 := cells_of_heap hr 5 (.int .u64 0) rfl
  have z3 := frozen_of_row w2 r 3 _ _ hr
  have z4 := frozen_of_row w2 r 4 _ _ hr
  have z5 := frozen_of_row w2 r 5 _ _ hr
  have HR := Lib.hid hr
  clear hU2 h5 hr HU2
  go_wp2_with fail
  go_region_held3 (fun w' => w'.cell? ⟨w1.heap.size, 2, none⟩ = some (.int .u64 o)) (simp [*, World.cell?_setCell_far, World.cell?_setCell_other]) (fail)
  all_goals go_wp2_with fail
  all_goals go_end0
  all_goals
    obtain ⟨hs1, hs2⟩ := res_out HR.out l o
    refine ⟨rfl, HU3.out.locs LruS.framed (hs2.mono fun k _ e => ⟨_, List.mem_cons_of_mem _ (List.mem_singleton_self _), e.symm⟩) fun p hp => ?_⟩
    obtain rfl := List.mem_singleton.1 hp
    exact ⟨hs1, .inr ⟨_, List.mem_cons_of_mem _ (List.mem_singleton_self _), rfl⟩⟩

def LPost (g b : Nat) (cap : Int) (S : Nat → Prop) (w : World) (r : ResD × (List PairD × List Int)) (e : Ending) (w' : World) : Prop :=
  e = .returned (.agg #[.int .i64 r.1.1, .bool r.1.2.1, .int .u64 r.1.2.2.1, .bool r.1.2.2.2.1, .int .u64 r.1.2.2.2.2.1, .int .u64 r.1.2.2.2.2.2]) ∧ Upd (LruS g b cap r.2) S w w'
/-- the answer's block is written, and all blocks of the call's own are dropped -/
theorem lru_fin {g b : Nat} {cap : Int} {s : List PairD × List Int} {S : Nat → Prop} {w w1 : World} {L : List (Nat × Obj)} (h : Upd (Sep (LruS g b cap s) (Locs L)) S w w1) {k : Nat} {o : Obj} (hk : (k, o) ∈ L) (cs : Array Value) : Upd (LruS g b cap s) S w (w1.setRow k cs) :=
  (h.locs LruS.framed (M := []) ((only_setRow w1 k cs).mono fun j _ e => ⟨_, hk, e.symm⟩) (fun p hp => by simp at hp)).drop LruS.framed

set_option maxRecDepth 100000 in
set_option maxHeartbeats 2000000 in
theorem lru_none (g b : Nat) (cap : Int) (s : List PairD × List Int) (S : Nat → Prop) (op key val x0 x2 : Int) (x1 : Bool) (ys : List PairD) (w : World) (H : LruS g b cap s S w) (G : LGood cap s) (hd : doP cap s.1 op key val = ((x0, x1, x2, false, 0, 0), ys))
    (hc : x0 = 2 ∨ x0 = 0 ∧ op = 1 ∨ x0 = 0 ∧ op = 0 ∧ x1 = false) :
    Calls Try.prog 69 #[.pointer (some ⟨g, 0, none⟩), .int .i64 op, .int .u64 key, .int .u64 val] w (LPost g b cap S w ((x0, x1, x2, false, 0, 0), (ys, s.2))) := by
  have c0 := H.ptr
  have hl := World.block_lt_of_cell? w _ c0
  have HU := Lib.hid ((Upd.start LruS.framed H).loc LruS.framed (resO 0 false 0 false 0 0))
  have HG := Lib.hid G
  have HD := Lib.hid hd
  clear H G hd
  rcases hc with rfl | ⟨rfl, rfl⟩ | ⟨rfl, rfl, rfl⟩
  all_goals
    go_enter Try.func69, Try.ntmps69
    go_wp2_with fail
    refine (HU.out.via Locs.framed LruS.framed fun A hA => LruS.doF_ hA HG.out.good HD.out).mono ?_
    rintro e w1 ⟨rfl, hU1⟩
    have h8 := hU1.get (g := w.heap.size) (List.mem_cons_self ..)
    have HU2 := Lib.hid (fun o => hU1.loc LruS.framed o)
    have H8 := Lib.hid h8
    clear HU hU1 h8
    dsimp only
    go_wp2_with (refine wpList_store_row rfl 41 (.tmp 8) (.tmp 65) rfl w.heap.size _ rfl rfl 41 _ (heap_alloc H8.out) (by kernel_rfl) rfl (res_one _ _ _ _ _ _) ?_)
    try simp only [Exit.inBlock, Exit.then]
    refine bodyPost_ret (results_cell_row rfl _ _ w.heap.size _ _ _ _ rfl (setRow_heap _ _ _ _ _ _ (heap_alloc H8.out)) Try.underlying41 rfl (by kernel_rfl)) rfl ?_
    exact ⟨rfl, lru_fin (HU2.out _) (List.mem_cons_of_mem _ (List.mem_cons_self ..)) _⟩

set_option maxRecDepth 100000 in
set_option maxHeartbeats 2000000 in
theorem lru_touch (g b : Nat) (cap : Int) (s : List PairD × List Int) (S : Nat → Prop) (op key val x2 : Int) (x1 : Bool) (ys : List PairD) (w : World) (H : LruS g b cap s S w) (G : LGood cap s) (hd : doP cap s.1 op key val = ((0, x1, x2, false, 0, 0), ys))
    (hc : op = 2 ∨ op = 4 ∨ op = 0 ∧ x1 = true) :
    Calls Try.prog 69 #[.pointer (some ⟨g, 0, none⟩), .int .i64 op, .int .u64 key, .int .u64 val] w (LPost g b cap S w ((0, x1, x2, false, 0, 0), (ys, key :: dropK s.2 key))) := by
  have c0 := H.ptr
  have hl := World.block_lt_of_cell? w _ c0
  have HU := Lib.hid ((Upd.start LruS.framed H).loc LruS.framed (resO 0 false 0 false 0 0))
  have HG := Lib.hid G
  have HN := Lib.hid (show s.2.length ≤ 1000 by have := G.len; have := G.good.len; have := G.good.hi; omega)
  have HD := Lib.hid hd
  clear H G hd
  rcases hc with rfl | rfl | ⟨rfl, rfl⟩
  all_goals
    go_enter Try.func69, Try.ntmps69
    go_wp2_with fail
    refine (HU.out.via Locs.framed LruS.framed fun A hA => LruS.doF_ hA HG.out.good HD.out).mono ?_
    rintro e w1 ⟨rfl, hU1⟩
    have HU2 := Lib.hid (fun o => hU1.loc LruS.framed o)
    clear HU hU1
    dsimp only
    go_wp2_with fail
    refine ((HU2.out _).via Locs.framed LruS.framed fun A hA => LruS.touch_ hA HN.out key).mono ?_
    rintro e w2 ⟨rfl, hU2⟩
    have H8 := Lib.hid (hU2.get (g := w.heap.size) (List.mem_cons_of_mem _ (List.mem_singleton_self _)))
    have h9 := hU2.get (g := w1.heap.size) (List.mem_cons_self ..)
    obtain ⟨e0, e1, e2, e3, e4, e5⟩ := res_cells h9
    have HU3 := Lib.hid hU2
    clear HU2 hU2 h9
    go_wp2_with (refine wpList_store_row rfl 41 (.tmp 8) (.tmp 65) rfl w.heap.size _ rfl rfl 41 _ H8.out (by kernel_rfl) rfl (res_one _ _ _ _ _ _) ?_)
    try simp only [Exit.inBlock, Exit.then]
    refine bodyPost_ret (results_cell_row rfl _ _ w.heap.size _ _ _ _ rfl (setRow_heap _ _ _ _ _ _ H8.out) Try.underlying41 rfl (by kernel_rfl)) rfl ?_
    exact ⟨rfl, lru_fin HU3.out (List.mem_cons_of_mem _ (List.mem_cons_self ..)) _⟩

set_option maxRecDepth 100000 in
set_option maxHeartbeats 2000000 in
theorem lru_drop (g b : Nat) (cap : Int) (s : List PairD × List Int) (S : Nat → Prop) (key val x2 : Int) (x1 : Bool) (ys : List PairD) (w : World) (H : LruS g b cap s S w) (G : LGood cap s) (hd : doP cap s.1 3 key val = ((0, x1, x2, false, 0, 0), ys)) :
    Calls Try.prog 69 #[.pointer (some ⟨g, 0, none⟩), .int .i64 3, .int .u64 key, .int .u64 val] w (LPost g b cap S w ((0, x1, x2, false, 0, 0), (ys, dropK s.2 key))) := by
  have c0 := H.ptr
  have hl := World.block_lt_of_cell? w _ c0
  have HU := Lib.hid ((Upd.start LruS.framed H).loc LruS.framed (resO 0 false 0 false 0 0))
  have HG := Lib.hid G
  have HD := Lib.hid hd
  clear H G hd
  skip
  all_goals
    go_enter Try.func69, Try.ntmps69
    go_wp2_with fail
    refine (HU.out.via Locs.framed LruS.framed fun A hA => LruS.doF_ hA HG.out.good HD.out).mono ?_
    rintro e w1 ⟨rfl, hU1⟩
    have HU2 := Lib.hid (fun o => hU1.loc LruS.framed o)
    clear HU hU1
    dsimp only
    go_wp2_with fail
    refine ((HU2.out _).via Locs.framed LruS.framed fun A hA => LruS.drop_ hA key).mono ?_
    rintro e w2 ⟨rfl, hU2⟩
    have H8 := Lib.hid (hU2.get (g := w.heap.size) (List.mem_cons_of_mem _ (List.mem_singleton_self _)))
    have h9 := hU2.get (g := w1.heap.size) (List.mem_cons_self ..)
    obtain ⟨e0, e1, e2, e3, e4, e5⟩ := res_cells h9
    have HU3 := Lib.hid hU2
    clear HU2 hU2 h9
    go_wp2_with (refine wpList_store_row rfl 41 (.tmp 8) (.tmp 65) rfl w.heap.size _ rfl rfl 41 _ H8.out (by kernel_rfl) rfl (res_one _ _ _ _ _ _) ?_)
    try simp only [Exit.inBlock, Exit.then]
    refine bodyPost_ret (results_cell_row rfl _ _ w.heap.size _ _ _ _ rfl (setRow_heap _ _ _ _ _ _ H8.out) Try.underlying41 rfl (by kernel_rfl)) rfl ?_
    exact ⟨rfl, lru_fin HU3.out (List.mem_cons_of_mem _ (List.mem_cons_self ..)) _⟩

theorem Locs.cut {p : Nat × Obj} {L : List (Nat × Obj)} {S : Nat → Prop} {w : World} (h : Locs (p :: L) S w) (hn : ∀ q ∈ L, q.1 ≠ p.1) : Sep (Locs [p]) (Locs L) S w :=
  ⟨fun k => k = p.1, fun k => ∃ q ∈ L, q.1 = k, fun k h1 ⟨q, hq, e⟩ => hn q hq (e.trans h1), fun k e => e ▸ (h p (List.mem_cons_self ..)).2, fun k ⟨q, hq, e⟩ => e ▸ (h q (List.mem_cons_of_mem _ hq)).2,
    fun q hq => by obtain rfl := List.mem_singleton.1 hq; exact ⟨(h q (List.mem_cons_self ..)).1, rfl⟩, fun q hq => ⟨(h q (List.mem_cons_of_mem _ hq)).1, q, hq, rfl⟩⟩
theorem Locs.join {L M : List (Nat × Obj)} {S : Nat → Prop} {w : World} (h : Sep (Locs L) (Locs M) S w) : Locs (L ++ M) S w := by
  obtain ⟨A, B, _, hA, hB, ha, hb⟩ := h
  intro p hp
  rcases List.mem_append.1 hp with hp | hp
  · exact ⟨(ha p hp).1, hA _ (ha p hp).2⟩
  · exact ⟨(hb p hp).1, hB _ (hb p hp).2⟩
/-- a call that has the thing and one of the blocks -/
theorem Upd.via1 {P : (Nat → Prop) → World → Prop} (hP : Framed P) {S : Nat → Prop} {w w1 : World} {p p' : Nat × Obj} {L : List (Nat × Obj)} (h : Upd (Sep P (Locs (p :: L))) S w w1) (hn : ∀ q ∈ L, q.1 ≠ p.1) {f : FuncId} {args : Array Value} {pr : Program} {e0 : Ending} {P' : (Nat → Prop) → World → Prop} (hP' : Framed P')
    (H : ∀ A, Sep P (Locs [p]) A w1 → Calls pr f args w1 fun e w' => e = e0 ∧ Upd (Sep P' (Locs [p'])) A w1 w') : Calls pr f args w1 fun e w' => e = e0 ∧ Upd (Sep P' (Locs (p' :: L))) S w w' :=
  (Upd.via (P := Sep P (Locs [p])) (P' := Sep P' (Locs [p'])) Locs.framed (h.imp fun T hT => (hT.imp (fun _ h => h) fun _ h => h.cut hn).assoc') (Sep.framed hP' Locs.framed) H).mono fun e w' ⟨he, hu⟩ => ⟨he, hu.imp fun T hT => hT.assoc.imp (fun _ h => h) fun _ h => Locs.join h⟩

/-- one of the blocks is changed -/
theorem Upd.loc1 {P : (Nat → Prop) → World → Prop} (hP : Framed P) {S : Nat → Prop} {w w1 w2 : World} {A B : List (Nat × Obj)} {k : Nat} {o o' : Obj} (h : Upd (Sep P (Locs (A ++ (k, o) :: B))) S w w1) (ho : Only (fun j => j = k) w1 w2) (hk : w2.heap[k]? = some o') (hn : ∀ q ∈ A ++ B, q.1 ≠ k) :
    Upd (Sep P (Locs (A ++ (k, o') :: B))) S w w2 := by
  refine h.locs hP (ho.mono fun j _ e => ⟨(k, o), by simp, e.symm⟩) fun p hp => ?_
  rcases List.mem_append.1 hp with hp | hp
  · exact ⟨ho.heap (h.get (g := p.1) (o := p.2) (List.mem_append_left _ hp)) (hn p (List.mem_append_left _ hp)), .inr ⟨p, List.mem_append_left _ hp, rfl⟩⟩
  · rcases List.mem_cons.1 hp with rfl | hp
    · exact ⟨hk, .inr ⟨(k, o), by simp, rfl⟩⟩
    · exact ⟨ho.heap (h.get (g := p.1) (o := p.2) (List.mem_append_right _ (List.mem_cons_of_mem _ hp))) (hn p (List.mem_append_right _ hp)), .inr ⟨p, List.mem_append_right _ (List.mem_cons_of_mem _ hp), rfl⟩⟩
set_option maxRecDepth 100000 in
set_option maxHeartbeats 2000000 in
theorem lru_evict (g b : Nat) (cap : Int) (s : List PairD × List Int) (S : Nat → Prop) (op key val : Int) (w : World) (H : LruS g b cap s S w) (G : LGood cap s) (hF : isFull cap s.1 op key = true) :
    Calls Try.prog 69 #[.pointer (some ⟨g, 0, none⟩), .int .i64 op, .int .u64 key, .int .u64 val] w (LPost g b cap S w (lruP cap s op key val)) := by
  obtain ⟨hd1, h0, hlh, hd2, hg2, hnk, hnf, hd3⟩ := evict_do (v := val) G hF
  have c0 := H.ptr
  have hl := World.block_lt_of_cell? w _ c0
  have HU := Lib.hid ((Upd.start LruS.framed H).loc LruS.framed (resO 0 false 0 false 0 0))
  have HD := Lib.hid hd1
  have HD3 := Lib.hid hd3
  have HG := Lib.hid G
  have HG2 := Lib.hid hg2
  have HN := Lib.hid (show (dropK s.2 (lastP s.2)).length ≤ 1000 by have := G.len; have := G.good.len; have := G.good.hi; exact Nat.le_trans (List.length_filter_le _ _) (by omega))
  have HP := Lib.hid (show lruP cap s op key val = ((0, false, if op = 4 then add64 0 val else 0, true, lastP s.2, oldP s.1 (lastP s.2)), (putP (delP s.1 (lastP s.2)) key (if op = 4 then add64 0 val else val), key :: dropK (dropK s.2 (lastP s.2)) key)) from if_pos hF)
  have hop := (full_has hF).1
  rw [HP.out]
  have HEv := Lib.hid (fun r S w H => evict_any g b r cap s S w H G h0 hlh)
  clear H G hd1 hd2 hd3 hg2 hnk hnf hF h0 hlh HP
  generalize (if op = 4 then add64 0 val else 0) = x2 at *
  generalize putP (delP s.1 (lastP s.2)) key (if op = 4 then add64 0 val else val) = ys at *
  rcases hop with rfl | rfl
  all_goals
    go_enter Try.func69, Try.ntmps69
    go_wp2_with fail
    refine (HU.out.via Locs.framed LruS.framed fun A hA => LruS.doF_ hA HG.out.good HD.out).mono ?_
    rintro e w1 ⟨rfl, hU1⟩
    have HU2 := Lib.hid ((hU1.loc LruS.framed (resO 40 false 0 false 0 0)).loc LruS.framed (resO 0 false 0 false 0 0))
    have hw1 := hU1.2.size
    have h8 := heap_lt (hU1.get (g := w.heap.size) (List.mem_cons_self ..))
    clear HU hU1
    dsimp only [resE]
    go_wp2_with fail
    have hs : (w1.alloc (resO 40 false 0 false 0 0)).heap.size = w1.heap.size + 1 := by simp
    rw [hs] at HU2
    obtain ⟨n, hn⟩ : ∃ n, n = w1.heap.size := ⟨_, rfl⟩
    rw [← hn] at HU2 h8 ⊢
    refine (HU2.out.via1 LruS.framed (fun q hq => by simp at hq; rcases hq with rfl | rfl <;> simp <;> omega) LruS.framed fun A hA => HEv.out (n + 1) A _ hA).mono ?_
    rintro e w2 ⟨rfl, hU2⟩
    have HU3 := Lib.hid hU2
    have h82 := Lib.hid h8
    clear HU2 hU2 hs hn hw1 h8
    have hnn : ¬ n = n + 1 := by omega
    have hnn2 : ¬ n + 1 = n := by omega
    have c0 := (HU3.out.1.left LruS.framed).ptr
    have hl := World.block_lt_of_cell? w2 _ c0
    go_wp2_with fail
    refine (HU3.out.via Locs.framed LruS.framed fun A hA => LruS.doF_ hA HG2.out HD3.out).mono ?_
    rintro e w3 ⟨rfl, hU3⟩
    have h9 := Lib.hid (hU3.get (g := n) (List.mem_cons_of_mem _ (List.mem_cons_self ..)))
    have HU4 := Lib.hid hU3
    obtain ⟨_, _, _, d3, d4, d5⟩ := res_cells (hU3.get (g := n + 1) (List.mem_cons_self ..))
    clear HU3 hU3
    dsimp only [resF]
    go_upto_region 6 with (refine wpList_store_row rfl 41 (.tmp 9) (.tmp 31) rfl n _ rfl rfl 41 _ h9.out (by kernel_rfl) rfl (res_one _ _ _ _ _ _) ?_)
    obtain ⟨W4, hW4⟩ : ∃ W4, W4 = w3.setRow n #[.int .i64 0, .bool false, .int .u64 x2, .bool false, .int .u64 0, .int .u64 0] := ⟨_, rfl⟩
    have hU5 := Upd.loc1 (A := [_]) (B := [_]) LruS.framed HU4.out (only_setRow w3 n #[.int .i64 0, .bool false, .int .u64 x2, .bool false, .int .u64 0, .int .u64 0]) (o' := resO 0 false x2 false 0 0) (setRow_heap _ _ _ _ _ _ h9.out) (fun q hq => by have := h82.out; simp at hq; rcases hq with rfl | rfl <;> simp <;> omega)
    simp only [← hW4] at hU5 ⊢
    obtain ⟨_, _, _, d3, d4, d5⟩ := res_cells (hU5.get (g := n + 1) (List.mem_cons_self ..))
    have h9' := hU5.get (g := n) (List.mem_cons_of_mem _ (List.mem_cons_self ..))
    obtain ⟨_, _, _, f3, f4, f5⟩ := res_cells h9'
    have z3 := frozen_of_row W4 n 3 _ _ h9'
    have z4 := frozen_of_row W4 n 4 _ _ h9'
    have z5 := frozen_of_row W4 n 5 _ _ h9'
    have H9 := Lib.hid h9'
    have HU5 := Lib.hid hU5
    clear HU4 h9' hU5 h9 hW4
    go_region_held3 (fun w' => w'.cell? ⟨n + 1, 3, none⟩ = some (.bool true) ∧ w'.cell? ⟨n + 1, 4, none⟩ = some (.int .u64 (lastP s.2)) ∧ w'.cell? ⟨n + 1, 5, none⟩ = some (.int .u64 (oldP s.1 (lastP s.2)))) (simp [*, World.cell?_setCell_far, World.cell?_setCell_other]) (fail)
  all_goals
    obtain ⟨hs1, hs2⟩ := res_out H9.out (lastP s.2) (oldP s.1 (lastP s.2))
    have hU6 := Upd.loc1 (A := [_]) (B := [_]) LruS.framed HU5.out hs2 hs1 (fun q hq => by have := h82.out; simp at hq; rcases hq with rfl | rfl <;> simp <;> omega)
    generalize World.drew _ = W5 at *
    clear hs1 hs2 HU5 H9 d3 d4 d5 f3 f4 f5 z3 z4 z5
    obtain ⟨e0, e1, e2, e3, e4, e5⟩ := res_cells (hU6.get (g := n) (List.mem_cons_of_mem _ (List.mem_cons_self ..)))
    have HU6 := Lib.hid hU6
    clear hU6
    go_wp2_with fail
    refine (HU6.out.via Locs.framed LruS.framed fun A hA => LruS.touch_ hA HN.out key).mono ?_
    rintro e w7 ⟨rfl, hU7⟩
    have H8 := Lib.hid (hU7.get (g := w.heap.size) (List.mem_cons_of_mem _ (List.mem_cons_of_mem _ (List.mem_singleton_self _))))
    obtain ⟨e0, e1, e2, e3, e4, e5⟩ := res_cells (hU7.get (g := n) (List.mem_cons_of_mem _ (List.mem_cons_self ..)))
    have HU7 := Lib.hid hU7
    clear hU7 HU6
    go_wp2_with (refine wpList_store_row rfl 41 (.tmp 8) (.tmp 65) rfl w.heap.size _ rfl rfl 41 _ H8.out (by kernel_rfl) rfl (res_one _ _ _ _ _ _) ?_)
    try simp only [Exit.inBlock, Exit.then]
    refine bodyPost_ret (results_cell_row rfl _ _ w.heap.size _ _ _ _ rfl (setRow_heap _ _ _ _ _ _ H8.out) Try.underlying41 rfl (by kernel_rfl)) rfl ?_
    exact ⟨rfl, lru_fin HU7.out (List.mem_cons_of_mem _ (List.mem_cons_of_mem _ (List.mem_singleton_self _))) _⟩
/-- Do, every road -/
theorem lru_any (g b : Nat) (cap : Int) (s : List PairD × List Int) (S : Nat → Prop) (op key val : Int) (w : World) (H : LruS g b cap s S w) (G : LGood cap s) :
    Calls Try.prog 69 #[.pointer (some ⟨g, 0, none⟩), .int .i64 op, .int .u64 key, .int .u64 val] w (LPost g b cap S w (lruP cap s op key val)) := by
  by_cases hF : isFull cap s.1 op key = true
  · exact lru_evict g b cap s S op key val w H G hF
  · have hF' : isFull cap s.1 op key = false := by simpa using hF
    have hp : lruP cap s op key val = ((doP cap s.1 op key val).1, ((doP cap s.1 op key val).2, if (doP cap s.1 op key val).1.1 = 0 then ordP s.1 s.2 op key else s.2)) := if_neg hF
    rw [hp]
    by_cases h0 : op = 0
    · subst h0
      have e : doP cap s.1 0 key val = (resF (hasP s.1 key) (oldP s.1 key), s.1) := rfl
      rw [e]
      show Calls _ _ _ w (LPost g b cap S w (resF (hasP s.1 key) (oldP s.1 key), (s.1, ordP s.1 s.2 0 key)))
      unfold ordP
      cases hf : hasP s.1 key
      · rw [if_neg (by simp [touches, hf])]
        exact lru_none g b cap s S 0 key val 0 _ false s.1 w H G (by rw [e, hf]; rfl) (.inr (.inr ⟨rfl, rfl, rfl⟩))
      · rw [if_pos (by simp [touches, hf])]
        exact lru_touch g b cap s S 0 key val _ true s.1 w H G (by rw [e, hf]; rfl) (.inr (.inr ⟨rfl, rfl⟩))
    by_cases h1 : op = 1
    · subst h1
      exact lru_none g b cap s S 1 key val 0 0 (hasP s.1 key) s.1 w H G rfl (.inr (.inl ⟨rfl, rfl⟩))
    by_cases h3 : op = 3
    · subst h3
      exact lru_drop g b cap s S key val _ _ _ w H G rfl
    by_cases h2 : op = 2
    · subst h2
      have hfu : full cap s.1 key = false := by unfold isFull at hF'; simpa using hF'
      have e : doP cap s.1 2 key val = (resF (hasP s.1 key) (oldP s.1 key), putP s.1 key val) := by unfold doP; simp [hfu]
      rw [e]
      exact lru_touch g b cap s S 2 key val _ _ _ w H G e (.inl rfl)
    by_cases h4 : op = 4
    · subst h4
      have hfu : full cap s.1 key = false := by unfold isFull at hF'; simpa using hF'
      have e : doP cap s.1 4 key val = (resF (hasP s.1 key) (add64 (oldP s.1 key) val), putP s.1 key (add64 (oldP s.1 key) val)) := by unfold doP; simp [hfu]
      rw [e]
      exact lru_touch g b cap s S 4 key val _ _ _ w H G e (.inr (.inl rfl))
    · have e : doP cap s.1 op key val = (resE 2, s.1) := by unfold doP; simp [h0, h1, h2, h3, h4]
      rw [e]
      exact lru_none g b cap s S op key val 2 0 false s.1 w H G e (.inl rfl)

theorem lruNew_bad (cap : Int) (w : World) (h : cap < 1 ∨ 16 < cap) :
    Calls Try.prog 32 #[.int .i64 cap] w fun e w' => e = .returned (.tuple #[.pointer none, .int .i64 2]) ∧ Only (fun _ => False) w w' := by
  have HN := Lib.hid (new_bad cap w h)
  clear h
  go_enter Try.func32, Try.ntmps32
  go_wp2_with fail
  refine HN.out.mono ?_
  rintro e w1 ⟨rfl, ho⟩
  go_wp2_with fail
  go_ret2
  exact ⟨rfl, ho⟩
theorem lruNew_ok (cap : Int) (w : World) (h1 : 1 ≤ cap) (h2 : cap ≤ 16) :
    Calls Try.prog 32 #[.int .i64 cap] w fun e w' => ∃ g, e = .returned (.tuple #[.pointer (some ⟨g, 0, none⟩), .int .i64 0]) ∧ (∃ b, LruS g b cap ([], []) (fun k => w.heap.size ≤ k) w') ∧ Only (fun _ => False) w w' := by
  have HN := Lib.hid (new_ok cap w h1 h2)
  clear h1 h2
  go_enter Try.func32, Try.ntmps32
  go_wp2_with fail
  refine HN.out.mono ?_
  rintro e w1 ⟨b, rfl, hb, ho⟩
  go_wp2_with fail
  go_ret2
  have hU : Upd (BookS b cap []) (fun k => w.heap.size ≤ k) w w1 := ⟨BookS.framed.mono _ _ _ hb fun _ _ h => .inl h, ho.mono fun _ _ h => h.elim⟩
  have hU2 := hU.add BookS.framed (Q := LruO w1.heap.size b []) LruO.framed (w2 := w1.alloc (.cells #[.pointer (some ⟨b, 0, none⟩), .slice none 0 0] 112)) ⟨.slice none 0 0, heap_alloc_new w1 _, Ow.nil _ _ _, Nat.le_refl _, fun k hk => by simp [Value.ownBlock] at hk⟩ (Only.alloc _ _ _)
  refine ⟨w1.heap.size, rfl, ⟨b, LruS.framed.mono _ _ _ hU2.1.swap fun _ _ h => ?_⟩, ho.tr (Only.alloc _ _ _)⟩
  exact h.elim id id

section
variable {T : Nat → Prop} {w : World} {g b : Nat} {cap : Int} {s : List PairD × List Int}
theorem lruDo_ (hT : LruS g b cap s T w) (G : LGood cap s) {op key val : Int} {r : ResD} {s' : List PairD × List Int} (hd : lruP cap s op key val = (r, s')) :
    Calls Try.prog 69 #[.pointer (some ⟨g, 0, none⟩), .int .i64 op, .int .u64 key, .int .u64 val] w fun e w' => e = .returned (.agg #[.int .i64 r.1, .bool r.2.1, .int .u64 r.2.2.1, .bool r.2.2.2.1, .int .u64 r.2.2.2.2.1, .int .u64 r.2.2.2.2.2]) ∧ Upd (LruS g b cap s') T w w' := by
  have := lru_any g b cap s T op key val w hT G
  rw [hd] at this; exact this
theorem bookDo_ {xs ys : List PairD} (hT : BookS b cap xs T w) (G : Good cap xs) {op key val : Int} {r : ResD} (hd : doP cap xs op key val = (r, ys)) :
    Calls Try.prog 56 #[.pointer (some ⟨b, 0, none⟩), .int .i64 op, .int .u64 key, .int .u64 val] w fun e w' => e = .returned (.agg #[.int .i64 r.1, .bool r.2.1, .int .u64 r.2.2.1, .bool r.2.2.2.1, .int .u64 r.2.2.2.2.1, .int .u64 r.2.2.2.2.2]) ∧ Upd (BookS b cap ys) T w w' := by
  have := do_any b cap xs T op key val w hT G
  rw [hd] at this; exact this
theorem lruPairs_ (hT : LruS g b cap s T w) (G : LGood cap s) : Calls Try.prog 58 #[.pointer (some ⟨b, 0, none⟩)] w fun e w' => ∃ v', e = .returned v' ∧ OwS ePair 50 (fun k => w.heap.size ≤ k) w' v' s.1 ∧ Only (fun _ => False) w w' :=
  bpairs_any b cap s.1 T w (hT.right BookS.framed) (by have := G.good.len; have := G.good.hi; omega)
end
section
variable {R : (Nat → Prop) → World → Prop} {S : Nat → Prop} {w0 w : World} {g b : Nat} {cap : Int} {s : List PairD × List Int}
theorem lruDoU (hR : Framed R) (h : Upd (Sep (LruS g b cap s) R) S w0 w) (G : LGood cap s) {op key val : Int} {r : ResD} {s' : List PairD × List Int} (hd : lruP cap s op key val = (r, s')) :
    Calls Try.prog 69 #[.pointer (some ⟨g, 0, none⟩), .int .i64 op, .int .u64 key, .int .u64 val] w fun e w' => e = .returned (.agg #[.int .i64 r.1, .bool r.2.1, .int .u64 r.2.2.1, .bool r.2.2.2.1, .int .u64 r.2.2.2.2.1, .int .u64 r.2.2.2.2.2]) ∧ Upd (Sep (LruS g b cap s') R) S w0 w' :=
  h.on1 hR LruS.framed (E := fun e => e = .returned (.agg #[.int .i64 r.1, .bool r.2.1, .int .u64 r.2.2.1, .bool r.2.2.2.1, .int .u64 r.2.2.2.2.1, .int .u64 r.2.2.2.2.2])) fun A hA => by
    have := lru_any g b cap s A op key val w hA G
    rw [hd] at this; exact this
theorem lruPtrU (h : Upd (Sep (LruS g b cap s) R) S w0 w) : w.cell? ⟨g, 0, none⟩ = some (.pointer (some ⟨b, 0, none⟩)) ∧ g < w.heap.size := by
  obtain ⟨T, hT⟩ := h.getL
  exact ⟨hT.ptr, World.block_lt_of_cell? w _ hT.ptr⟩
theorem lruPairsU (hR : Framed R) (h : Upd (Sep (LruS g b cap s) R) S w0 w) (G : LGood cap s) :
    Calls Try.prog 58 #[.pointer (some ⟨b, 0, none⟩)] w fun e w' => ∃ v', e = .returned v' ∧ Upd (Sep (LruS g b cap s) (fun S w => R S w ∧ OwS ePair 50 S w v' s.1)) S w0 w' := by
  obtain ⟨T, hT⟩ := h.getL
  exact h.callKeep LruS.framed hR (Yx := fun v' S w => OwS ePair 50 S w v' s.1) (E := fun v' e => e = .returned v') (fun _ => OwS.framed) (bpairs_any b cap s.1 T w (hT.right BookS.framed) (by have := G.good.len; have := G.good.hi; omega))
/-- a new LRU beside all -/
theorem lruNewU (hR : Framed R) (h : Upd R S w0 w) (h1 : 1 ≤ cap) (h2 : cap ≤ 16) :
    Calls Try.prog 32 #[.int .i64 cap] w fun e w' => ∃ g, e = .returned (.tuple #[.pointer (some ⟨g, 0, none⟩), .int .i64 0]) ∧ ∃ b, Upd (Sep (LruS g b cap ([], [])) R) S w0 w' :=
  (h.callNew hR (Yx := fun g S w => ∃ b, LruS g b cap ([], []) S w) (E := fun g e => e = .returned (.tuple #[.pointer (some ⟨g, 0, none⟩), .int .i64 0])) (fun _ => Framed.ex fun _ => LruS.framed) (lruNew_ok cap w h1 h2)).mono fun e w' ⟨g, he, hu⟩ => by
    obtain ⟨⟨A, B, hd, hA, hB, hp, b, hq⟩, ho⟩ := hu.swap.swap
    exact ⟨g, he, b, ⟨B, A, fun k h1 h2 => hd k h2 h1, hB, hA, hq, hp⟩, ho⟩
end

theorem doP_code {cap : Int} {xs : List PairD} {op k v : Int} (h : isFull cap xs op k = false) : (doP cap xs op k v).1.1 = 0 ∨ (doP cap xs op k v).1.1 = 2 := by
  by_cases h0 : op = 0
  · subst h0; exact .inl rfl
  by_cases h1 : op = 1
  · subst h1; exact .inl rfl
  by_cases h3 : op = 3
  · subst h3; exact .inl rfl
  by_cases h2 : op = 2
  · subst h2
    have hfu : full cap xs k = false := by unfold isFull at h; simpa using h
    exact .inl (by unfold doP; simp [hfu, resF])
  by_cases h4 : op = 4
  · subst h4
    have hfu : full cap xs k = false := by unfold isFull at h; simpa using h
    exact .inl (by unfold doP; simp [hfu, resF])
  · exact .inr (by unfold doP; simp [h0, h1, h2, h3, h4, resE])
theorem lb_not {cap : Int} {s : List PairD × List Int} {op k v : Int} (h : isFull cap s.1 op k = false) :
    ∃ r s2, doP cap s.1 op k v = (r, s2.1) ∧ lruP cap s op k v = (r, s2) ∧ r.1 ≠ 40 := by
  refine ⟨(doP cap s.1 op k v).1, (lruP cap s op k v).2, ?_, ?_, ?_⟩
  · unfold lruP; rw [if_neg (by simp [h])]
  · unfold lruP; rw [if_neg (by simp [h])]
  · rcases doP_code (v := v) h with h | h <;> omega
theorem lb_full {cap : Int} {s : List PairD × List Int} {op k v : Int} (G : LGood cap s) (h : isFull cap s.1 op k = true) :
    ∃ x2 l o s2, doP cap s.1 op k v = ((40, false, 0, false, 0, 0), s.1) ∧ lruP cap s op k v = ((0, false, x2, true, l, o), s2) ∧ (s2.1.length : Int) = cap := by
  obtain ⟨h1, h0, hlh, _, hg, hnk, hnf, _⟩ := evict_do (v := v) G h
  obtain ⟨_, _, hl⟩ := full_has h
  refine ⟨_, _, _, _, h1, if_pos h, ?_⟩
  have hd := del_len' G.good.rising _ hlh
  unfold putP
  rw [hnk]
  have := posP_le (delP s.1 (lastP s.2)) k
  simp
  omega
end Go.Proofs.Ytdlkblklfoagbaa
