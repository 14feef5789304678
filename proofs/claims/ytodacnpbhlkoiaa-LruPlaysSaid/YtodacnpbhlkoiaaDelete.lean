/- slices.Delete of one pair out of a row of the call's own. -/
import Derived.Test.YtodacnpbhlkoiaaInsert3
namespace Go.Proofs.Ytodacnpbhlkoiaa
open Go.RowKit
set_option linter.unusedVariables false
set_option linter.unusedSimpArgs false

set_option maxHeartbeats 400000 in
set_option maxRecDepth 100000 in
theorem delete_walk (g off cap i l : Nat) (cur : Array Value) (xs : List PairD) (w : World) (hi : i < xs.length) (hl : l + 1 = xs.length) (hc : ¬ cap = i + 1) (hcap : xs.length ≤ cap) (hcap2 : cap ≤ 9223372036854775807)
    (hh : w.heap[g]? = some (.cells cur 46 (0, 0))) (hs : off + cap * 2 ≤ cur.size) (ht : (cur.toList.drop off).take (xs.length * 2) = ePair.all xs) :
    Calls Try.prog 31 #[.slice (some ⟨g, off, none⟩) xs.length cap, .int .i64 i, .int .i64 ((i : Int) + 1)] w fun e w' =>
      e = .returned (.slice (some ⟨g, off, none⟩) l cap) ∧ InsPost g off l 46 cur.size (ePair.all (xs.take i ++ xs.drop (i + 1))) w w' := by
  obtain ⟨n, hn⟩ : ∃ n, n = xs.length := ⟨_, rfl⟩
  obtain ⟨P, R, hcur, hP, hR⟩ := row_split cur off i xs (by omega) (by omega) ht
  have hAl : (ePair.all (xs.take i)).length = i * 2 := by rw [ePair.all_len, List.length_take]; show min i xs.length * 2 = _; rw [Nat.min_eq_left (by omega)]
  have hBl : (ePair.all (xs.drop (i + 1))).length = (n - (i + 1)) * 2 := by rw [ePair.all_len, List.length_drop, ← hn]
  have hall : ePair.all (xs.take i ++ xs.drop (i + 1)) = ePair.all (xs.take i) ++ ePair.all (xs.drop (i + 1)) := Enc.all_append ..
  have hdr : ePair.all (xs.drop i) = ePair.cells xs[i] ++ ePair.all (xs.drop (i + 1)) := by rw [List.drop_eq_getElem_cons hi, Enc.all_cons]
  have hBone := ePair.all_one (xs.drop (i + 1))
  have hXl : (ePair.cells xs[i]).length = 2 := rfl
  rw [hall]
  rw [hdr] at hcur
  clear hall ht hdr
  obtain ⟨X, hX⟩ : ∃ X, X = ePair.cells xs[i] := ⟨_, rfl⟩
  rw [← hX] at hcur hXl
  clear hX
  rw [← hn] at hi hl hcap hR ⊢
  obtain ⟨A, hA⟩ : ∃ A, A = ePair.all (xs.take i) := ⟨_, rfl⟩
  obtain ⟨B, hB⟩ : ∃ B, B = ePair.all (xs.drop (i + 1)) := ⟨_, rfl⟩
  rw [← hA, ← hB] at hcur ⊢
  rw [← hA] at hAl
  rw [← hB] at hBl hBone
  clear hA hB hn
  obtain ⟨i0, hi0, hz0, hz1, hz2⟩ := info_parts (show (Try.prog.info? 46).map (fun i => (i.zero, i.size, i.bytes)) = some (some (.agg #[.int .u64 0, .int .u64 0]), 2, 16) by kernel_rfl)
  have hcs : cur.toList.length = cur.size := by simp
  obtain ⟨src, hsrc⟩ : ∃ src, src = if cap = i + 1 then some (⟨g, off, none⟩ : Addr) else some ⟨g, off + (i + 1) * 2, none⟩ := ⟨_, rfl⟩
  obtain ⟨w1, cur1, hr1, hh1, hc1, ho1⟩ := run_appendIn (P := Try.prog) w.drew 43 46 i0 g off i (n - (i + 1)) cap src cur 46 B Try.underlying43 hi0 hh (by rw [hz1]; exact hBl)
    (fun h0 => ⟨⟨g, off + (i + 1) * 2, none⟩, by rw [hsrc, if_neg (by omega)], fun j v hj => by
      rw [Addr.add_lit]
      exact cell_split (w := w.drew) hh (P := P) (A := A ++ X) (B := B) (R := R) (by rw [hcur]; simp) (off + (i + 1) * 2) (by rw [List.length_append, hAl, hXl]; omega) j v hj⟩)
    hBone (by omega) (by rw [hz1, hBl]; omega)
  rw [hz1] at hc1
  rw [show i + (n - (i + 1)) = l by omega] at hr1
  have hl1 : cur1.toList.length = cur1.size := by simp
  have hs1 : cur1.size = cur.size := by rw [← hl1, hc1, lay_len _ _ _ (by rw [hcs, hBl]; omega), hcs]
  have hzl : (Builtin.zeroCells (Value.agg #[.int .u64 0, .int .u64 0]).cells 1).size = 2 := size_zeroCells ..
  have hzz : (Builtin.zeroCells (Value.agg #[.int .u64 0, .int .u64 0]).cells 1).toList = [.int .u64 0, .int .u64 0] := by kernel_rfl
  obtain ⟨w2, cur2, hr2, hh2, hc2, ho2⟩ := run_clearE (P := Try.prog) w1 43 46 i0 _ g (off + l * 2) 1 cur1 46 Try.underlying43 hi0 hz0 (by omega) hh1 (by rw [hzl, hs1]; omega)
    (fun v hv => by
      rw [hzz] at hv
      simp at hv; subst hv; rfl)
  have hl2 : cur2.toList.length = cur2.size := by simp
  have hzl' : (Builtin.zeroCells (Value.agg #[.int .u64 0, .int .u64 0]).cells 1).toList.length = 2 := by rw [Array.length_toList, hzl]
  have hs2 : cur2.size = cur.size := by rw [← hl2, hc2, lay_len _ _ _ (by rw [hl1, hs1, hzl']; omega), hl1, hs1]
  have hT : (cur2.toList.drop off).take (l * 2) = A ++ B := by
    have h := del_cells P A X B R (Builtin.zeroCells (Value.agg #[.int .u64 0, .int .u64 0]).cells 1).toList (by rw [hzl', hXl]) cur.toList (by rw [hcur]; simp)
    rw [hP, hAl, hBl, ← hc1, show off + i * 2 + (n - (i + 1)) * 2 = off + l * 2 by omega, ← hc2, show i * 2 + (n - (i + 1)) * 2 = l * 2 by omega] at h
    exact h
  have HP := Lib.hid (show (∃ cur', w2.heap[g]? = some (.cells cur' 46 (0, 0)) ∧ cur'.size = cur.size ∧ (cur'.toList.drop off).take (l * 2) = A ++ B) ∧ Only (fun k => k = g) w w2 from
    ⟨⟨cur2, hh2, hs2, hT⟩, ((Only.refl _ w).drew_.tr ho1).tr ho2⟩)
  have e1 : n - l = 1 := by omega
  have HR2 := Lib.hid (show (Builtin.clear_ #[43] 0 #[.slice (some ⟨g, off + l * 2, none⟩) (n - l) (cap - l)]).run Try.prog w1 = .ok (.tuple #[]) w2 from by rw [e1]; exact hr2 _ _)
  have HR1 := Lib.hid hr1
  have HSRC := Lib.hid hsrc
  have hne : ((i : Int) == (i : Int) + 1) = false := by simp; omega
  have hne2 : ¬ ((i : Int) = (i : Int) + 1) := by omega
  have hb1 : (0 : Int) ≤ (i : Int) + 1 := by omega
  have hb2 : (i : Int) + 1 ≤ (n : Int) := by omega
  have hb3 : i + 1 ≤ n := by omega
  have hb4 : i ≤ n := by omega
  have hb5 : i ≤ cap := by omega
  have hb6 : l ≤ n := by omega
  have hb7 : (l : Int) ≤ (n : Int) := by omega
  have hb8 : n ≤ cap := by omega
  have hb9 : ¬ cap = l := by omega
  have hb10 : ¬ n = i := by omega
  have hb11 : ¬ cap = i := by omega
  have htn : ((i : Int) + 1).toNat = i + 1 := by omega
  clear hr1 hh1 hc1 ho1 hl1 hs1 hr2 hh2 hc2 ho2 hl2 hs2 hT hcur hP hR hAl hBl hBone hXl hzl hzl' hzz hz0 hz1 hz2 hi0 hh hs hcs hsrc e1
  have HS2 := Lib.hid (HSRC.out.trans (if_neg hc))
  have HR1' := Lib.hid (HR1.out 43 (cap - (i + 1)))
  rw [HS2.out] at HR1'
  clear HS2 HSRC HR1
  go_enter Try.func31, Try.ntmps31
  go_wp2_with fail
  go_region_law (refine step_appendE rfl (.tmp 22) (.tmp 25) 43 43 rfl _ _ (by simp [Act.eval, Act.put]) (by simp [Act.eval, Act.put]) HR1'.out ?_)
  go_wp2_with (refine wl_clearE rfl (.tmp 31) 43 rfl _ rfl HR2.out ?_)
  go_ret
  exact ⟨rfl, HP.out⟩

set_option maxHeartbeats 400000 in
set_option maxRecDepth 100000 in
theorem delete_last (g off i : Nat) (cur : Array Value) (xs : List PairD) (w : World) (hi : xs.length = i + 1) (hcap2 : i + 1 ≤ 9223372036854775807)
    (hh : w.heap[g]? = some (.cells cur 46 (0, 0))) (hs : off + (i + 1) * 2 ≤ cur.size) (ht : (cur.toList.drop off).take (xs.length * 2) = ePair.all xs) :
    Calls Try.prog 31 #[.slice (some ⟨g, off, none⟩) (i + 1) (i + 1), .int .i64 i, .int .i64 ((i : Int) + 1)] w fun e w' =>
      e = .returned (.slice (some ⟨g, off, none⟩) i (i + 1)) ∧ InsPost g off i 46 cur.size (ePair.all (xs.take i)) w w' := by
  obtain ⟨P, R, hcur, hP, hR⟩ := row_split cur off i xs (by omega) (by omega) ht
  have hAl : (ePair.all (xs.take i)).length = i * 2 := by rw [ePair.all_len, List.length_take]; show min i xs.length * 2 = _; rw [Nat.min_eq_left (by omega)]
  obtain ⟨A, hA⟩ : ∃ A, A = ePair.all (xs.take i) := ⟨_, rfl⟩
  rw [← hA] at hcur hAl ⊢
  obtain ⟨i0, hi0, hz0, hz1, hz2⟩ := info_parts (show (Try.prog.info? 46).map (fun i => (i.zero, i.size, i.bytes)) = some (some (.agg #[.int .u64 0, .int .u64 0]), 2, 16) by kernel_rfl)
  have hcs : cur.toList.length = cur.size := by simp
  have hzl : (Builtin.zeroCells (Value.agg #[.int .u64 0, .int .u64 0]).cells 1).size = 2 := size_zeroCells ..
  have hzz : (Builtin.zeroCells (Value.agg #[.int .u64 0, .int .u64 0]).cells 1).toList = [.int .u64 0, .int .u64 0] := by kernel_rfl
  obtain ⟨w2, cur2, hr2, hh2, hc2, ho2⟩ := run_clearE (P := Try.prog) w.drew 43 46 i0 _ g (off + i * 2) 1 cur 46 Try.underlying43 hi0 hz0 (by omega) hh (by rw [hzl]; omega)
    (fun v hv => by
      rw [hzz] at hv
      simp at hv; subst hv; rfl)
  have hl2 : cur2.toList.length = cur2.size := by simp
  have hs2 : cur2.size = cur.size := by rw [← hl2, hc2, lay_len _ _ _ (by rw [hzz, hcs]; show _ + 2 ≤ _; omega), hcs]
  have hT : (cur2.toList.drop off).take (i * 2) = A := by
    rw [hc2, hcur, hzz]
    have h := lay_at P A (ePair.all (xs.drop i) ++ R) [.int .u64 0, .int .u64 0] (by rw [List.length_append, ePair.all_len, List.length_drop, hi]; show 2 ≤ (i + 1 - i) * 2 + _; omega)
    rw [hP, hAl] at h
    rw [h, ← hP, List.drop_left' rfl, ← hAl, List.take_left' rfl]
  have HP := Lib.hid (show (∃ cur', w2.heap[g]? = some (.cells cur' 46 (0, 0)) ∧ cur'.size = cur.size ∧ (cur'.toList.drop off).take (i * 2) = A) ∧ Only (fun k => k = g) w w2 from
    ⟨⟨cur2, hh2, hs2, hT⟩, (Only.refl _ w).drew_.tr ho2⟩)
  have HR1 := Lib.hid (run_append_empty (P := Try.prog) (w := w.drew) 43 43 46 i0 Try.underlying43 hi0 (some ⟨g, off, none⟩) i (i + 1) (by omega) (some ⟨g, off, none⟩) 0)
  have HR2 := Lib.hid (show (Builtin.clear_ #[43] 0 #[.slice (some ⟨g, off + i * 2, none⟩) 1 1]).run Try.prog w.drew = .ok (.tuple #[]) w2 from hr2 _ _)
  have hne : ((i : Int) == (i : Int) + 1) = false := by simp; omega
  have hb1 : (0 : Int) ≤ (i : Int) + 1 := by omega
  have hb4 : i ≤ i + 1 := by omega
  have hb7 : (i : Int) ≤ (i : Int) + 1 := by omega
  have htn : ((i : Int) + 1).toNat = i + 1 := by omega
  clear hr2 hh2 hc2 ho2 hl2 hs2 hT hcur hP hR hAl hA hzl hzz hz0 hz1 hz2 hi0 hh hs hcs hi ht
  go_enter Try.func31, Try.ntmps31
  go_wp2_with fail
  go_region_law (refine step_appendE rfl (.tmp 22) (.tmp 25) 43 43 rfl _ _ (by simp [Act.eval, Act.put]) (by simp [Act.eval, Act.put]) HR1.out ?_)
  go_wp2_with (refine wl_clearE rfl (.tmp 31) 43 rfl _ rfl HR2.out ?_)
  go_ret
  exact ⟨rfl, HP.out⟩

theorem delete_any (S : Nat → Prop) (v : Value) (xs : List PairD) (i : Nat) (w : World) (hown : OwS ePair 46 S w v xs) (hi : i < xs.length) :
    Calls Try.prog 31 #[v, .int .i64 (i : Int), .int .i64 ((i : Int) + 1)] w (SliceIs S (xs.take i ++ xs.drop (i + 1)) w) := by
  obtain ⟨g, off, cap, rfl⟩ := hown.1.some_ (by omega)
  obtain ⟨⟨hm, ao', cap', he, hlc, hcm, _, hx⟩, hSg⟩ := hown
  obtain ⟨rfl, _, rfl⟩ : some ⟨g, off, none⟩ = ao' ∧ xs.length = xs.length ∧ cap = cap' := by simpa using he
  obtain ⟨g', off', cur, hgo, _, hh, hs, ht⟩ := hx _ rfl
  obtain ⟨rfl, rfl⟩ : g = g' ∧ off = off' := by simpa using hgo
  have hgS : S g := hSg g rfl
  have hlen : (xs.take i ++ xs.drop (i + 1)).length = xs.length - 1 := by simp; omega
  have fin : ∀ e w', e = .returned (.slice (some ⟨g, off, none⟩) (xs.length - 1) cap) → InsPost g off (xs.length - 1) 46 cur.size (ePair.all (xs.take i ++ xs.drop (i + 1))) w w' → SliceIs S (xs.take i ++ xs.drop (i + 1)) w e w' := by
    rintro e w' rfl ⟨⟨cur', h1, h2, h3⟩, ho⟩
    exact ⟨_, rfl, ⟨⟨by rw [hlen]; unfold maxLen at *; omega, some ⟨g, off, none⟩, cap, by rw [hlen], by rw [hlen]; omega, hcm, fun h => by simp at h, fun a ha => ⟨g, off, cur', by simpa using ha.symm, Nat.zero_le _, h1, by rw [h2]; exact hs, by rw [hlen]; exact h3⟩⟩, fun k hk => .inl (by
        obtain rfl : g = k := by simpa [Value.ownBlock] using hk
        exact hgS)⟩, ho.mono fun k _ e => by subst e; exact hgS⟩
  unfold maxLen at hcm
  by_cases hc : cap = i + 1
  · have hl : xs.length = i + 1 := by omega
    subst hc
    have hd : xs.drop (i + 1) = [] := List.drop_eq_nil_of_le (by omega)
    have h := delete_last g off i cur xs w hl (by omega) hh hs ht
    rw [hl] at fin ⊢
    refine h.mono ?_
    rintro e w' ⟨he, hp⟩
    rw [hd, List.append_nil] at fin ⊢
    exact fin e w' he hp
  · refine (delete_walk g off cap i (xs.length - 1) cur xs w hi (by omega) hc hlc (by omega) hh hs ht).mono ?_
    rintro e w' ⟨he, hp⟩
    exact fin e w' he hp
end Go.Proofs.Ytodacnpbhlkoiaa
