/- place.Split and its reference: the keys of each shard. -/
import Derived.Test.YtgegpejjnpjdlaaMine
import Derived.Test.YtgegpejjnpjdlaaGrid
namespace Go.Proofs.Ytgegpejjnpjdlaa
open Go.RowKit
set_option linter.unusedVariables false

theorem infoSl : (Try.prog.info? 26).map (fun i => (i.zero, i.size, i.bytes)) = some (some (.slice none 0 0), 1, 24) := by kernel_rfl
theorem sliceSl : SliceInfo Try.prog 27 26 1 24 := SliceInfo.mk' Try.underlying27 infoSl rfl

set_option maxHeartbeats 400000 in
theorem split_no (n : Int) (v : Value) (w : World) (h : n < 1 ∨ 4 < n) :
    Calls Try.prog 10 #[.int .i64 n, v] w fun e w' => e = .returned (.slice none 0 0) ∧ w = w' := by
  rcases h with h | h
  · go_enter Try.func10, Try.ntmps10
    go_wp2
    go_ret
    exact ⟨rfl, rfl⟩
  · have h' : ¬ n < 1 := by omega
    go_enter Try.func10, Try.ntmps10
    go_wp2
    go_ret
    exact ⟨rfl, rfl⟩

theorem grid_made {w1 : World} {B g n : Nat} {L : Nat → List Int} (hL : ∀ s, L s = []) (hn : n ≤ maxLen)
    (h : w1.ownsRow B 26 1 (.slice (some ⟨g, 0, none⟩) n n) n (madeCells #[.slice none 0 0] n).toList) :
    Grid eU64 B 26 22 w1 (.slice (some ⟨g, 0, none⟩) n n) n L := by
  refine ⟨fun _ => (none, 0, 0), ?_, fun s _ => by rw [hL]; exact Ow.nil _ _ _, fun s t _ _ _ => .inl rfl⟩
  refine Ow.of_row (by simpa using hn) ?_
  have e : eSl.all ((List.range n).map fun _ => ((none, 0, 0) : SV)) = List.replicate n (.slice none 0 0) := by
    rw [Enc.all, List.flatMap_map]
    simp only [eSl, SV.val]
    rw [← List.map_eq_flatMap, List.map_const', List.length_range]
  rw [e, List.length_map, List.length_range]
  rw [toList_madeCells_one] at h
  exact h

theorem split_step (s n : Nat) (xs : List Int) (k : Nat) (x : Int) (h : k < xs.length) (hx : x = xs[k]) (hs : ofS x n = s) :
    (fun t : Nat => mineS t n (xs.take (k + 1))) = fun t : Nat => if t = s then mineS s n (xs.take k) ++ [x] else mineS t n (xs.take k) := by
  funext t
  rw [mineS_step _ _ _ _ h, ← hx, hs]
  by_cases e : t = s
  · subst e; simp
  · rw [if_neg e, if_neg (by simp; omega), List.append_nil]

set_option maxHeartbeats 1000000 in
theorem split_yes (n : Nat) (xs : List Int) (v : Value) (w : World) (hv : Rd eU64 w v xs) (hr : xs.length * 8 ≤ 140737488355328) (hn1 : 1 ≤ n) (hn4 : n ≤ 4) :
    Calls Try.prog 10 #[.int .i64 n, v] w fun e w' => ∃ v', e = .returned v' ∧ Grid eU64 w.heap.size 26 22 w' v' n (fun s => mineS s n xs) ∧ Below w.heap.size w w' := by
  obtain ⟨hma, a, ca, rfl, _, _, ha⟩ := hv
  unfold maxLen at hma
  obtain ⟨i0, hi, hz, hsz, hby⟩ := info_parts infoSl
  have h1 : ¬ ((n : Int) < 1) := by omega
  have h4 : ¬ ((4 : Int) < n) := by omega
  go_enter Try.func10, Try.ntmps10
  go_wp2_with (at_make; refine wpList_make_full _ rfl _ _ 27 rfl w.heap.size 26 i0 (.slice none 0 0) 1 Try.underlying27 hi hz hsz _ _ _ _ n rfl rfl rfl rfl (by rw [hby]; omega) (by unfold maxLen; omega) (Nat.le_refl _) ?_)
  intro w1 hown hgrow
  have hgr := grid_made (n := n) (L := fun s => mineS s n (xs.take 0)) (fun s => rfl) (by unfold maxLen; omega) hown
  have hbel := (Below.refl w.heap.size w).grown hgrow (Nat.le_refl _) (by simp)
  clear hown hgrow
  go_wp2
  go_loopw [7, 8, 19] (fun _ _ i wr => ∃ k : Nat, k ≤ xs.length ∧ i = .int .i64 k ∧ Grid eU64 w.heap.size 26 22 wr (.slice (some ⟨w.heap.size, 0, none⟩) n n) n (fun s => mineS s n (xs.take k)) ∧ Below w.heap.size w wr) (fun _ _ i _ => xs.length - (intOf i).toNat)
  case atStart => exact ⟨0, Nat.zero_le _, rfl, hgr, hbel⟩
  case round =>
    clear hgr hbel
    obtain ⟨k, hk, rfl, hgr, hbel⟩ := hrel
    by_cases hlt : k < xs.length
    · obtain ⟨b1, o1, rfl, hc⟩ := ha (by omega)
      have c1 := hc k _ (eU64_at xs k hlt)
      have c2 := (hbel.cell (p := ⟨b1, o1 + k, none⟩) (World.block_lt_of_cell? w _ c1)).trans c1
      clear c1 ha hc
      obtain ⟨x, hx⟩ : ∃ x, x = xs[k] := ⟨_, rfl⟩
      rw [← hx] at c2
      have HX := Lib.hid hx
      clear hx
      have hr1 := ofS_range x n
      obtain ⟨s, hs⟩ : ∃ s : Nat, ofS x n = s := ⟨(ofS x n).toNat, by omega⟩
      have hsn : s < n := by omega
      have hof : ∀ w, Calls Try.prog 8 #[.int .u64 x, .int .i64 n] w fun e w' => e = .returned (.int .i64 s) ∧ w = w' := fun w => by rw [← hs]; exact of_any x n w (by omega)
      have HS := Lib.hid hs
      have HOF := Lib.hid hof
      clear hs hof hr1
      obtain ⟨g, off, p, hao, hbg, hcell, hfr, hown⟩ := (hgr.at_ rfl).2 s hsn
      obtain ⟨rfl, rfl⟩ : w.heap.size = g ∧ 0 = off := by simpa using hao
      have hlen : (mineS s n (xs.take k)).length ≤ k := Nat.le_trans (mineS_le _ _ _) (List.length_take_le _ _)
      have hsz := hbel.size
      have hlt0 : w.heap.size < wr.heap.size := World.block_lt_of_cell? wr _ hcell
      rw [Nat.zero_add] at hcell hfr
      go_wp2_with (first | (go_at_call 8; refine (HOF.out _).mono ?_; rintro e w' ⟨rfl, rfl⟩) | (at_builtin; refine wl_append rfl _ _ _ rfl w.heap.size 22 8 sliceU64 _ (mineS s n (xs.take k)) rfl (hown.alloc _) _ [x] rfl (Rd.lit wr _ _ _ _ _ _ (by simp [Enc.all, eInt]) rfl (by omega) (by decide)) (by simp; omega) (by unfold maxLen; simp; omega) (by simp; omega) ?_))
      intro v' w2 hown' hgrow hfresh _
      have hgr1 := hgr.grow ((Below.refl _ _).alloc (Nat.le_refl _) (.cells #[.int .u64 x] 22))
      obtain ⟨q, rfl⟩ := hown'.sv
      have hcell1 : (wr.alloc (.cells #[.int .u64 x] 22)).cell? ⟨w.heap.size, 0 + s, none⟩ = some p.val := by
        rw [Nat.zero_add]; exact cell_later ((Below.refl _ _).alloc (Nat.le_refl _) _) hcell
      have hout := hgr1.outer (by decide) hsn hcell1
      have hput := hgr1.put (by decide) hsn hcell1 hown' hgrow (hfresh.imp And.left (fun h g hg => by have := h g hg; simpa using this))
      have hcell2 : w2.cell? ⟨w.heap.size, s, none⟩ = some p.val := by
        rw [World.cell?_of_block (w := wr.alloc (.cells #[.int .u64 x] 22)) (hgrow.block _ hout.2 hout.1)]
        simpa using hcell1
      have hfr2 : w2.frozen? ⟨w.heap.size, s, none⟩ = false := by
        rw [World.frozen?_of_block (w := wr.alloc (.cells #[.int .u64 x] 22)) (hgrow.block _ hout.2 hout.1)]
        rw [World.frozen?_of_block (w := wr) (Below.heap_alloc _ _ _ hlt0)]; exact hfr
      have hb2 := ((hbel.alloc hsz (.cells #[.int .u64 x] 22)).grown hgrow (by simp; omega) (fun j hj => (hown.lt hj).1)).setCell (p := ⟨w.heap.size, 0 + s, none⟩) (Nat.le_refl _) q.val
      clear hgr hgr1 hown hown' hgrow hfresh hbel hcell1 hout hcell hfr c2
      obtain ⟨ao2, n2, cap2⟩ := q
      have hv2 : SV.val (ao2, n2, cap2) = .slice ao2 n2 cap2 := rfl
      rw [hv2] at hput hb2
      rw [hv2]
      clear hv2
      rw [Nat.zero_add] at hput hb2
      go_wp2
      go_roundw
      case rel =>
        refine ⟨k + 1, by omega, by go_num, ?_, hb2⟩
        rw [split_step s n xs k x hlt HX.out HS.out]
        exact hput
      case measure => simp [intOf]; omega
    · go_wp2
      go_ret
      rw [List.take_of_length_le (by omega)] at hgr
      exact ⟨_, rfl, hgr, hbel⟩

set_option maxHeartbeats 400000 in
theorem refSplit_no (n : Int) (v : Value) (w : World) (h : n < 1 ∨ 4 < n) :
    Calls Try.prog 12 #[.int .i64 n, v] w fun e w' => e = .returned (.slice none 0 0) ∧ w = w' := by
  rcases h with h | h
  · go_enter Try.func12, Try.ntmps12
    go_wp2
    go_ret
    exact ⟨rfl, rfl⟩
  · have h' : ¬ n < 1 := by omega
    go_enter Try.func12, Try.ntmps12
    go_wp2
    go_ret
    exact ⟨rfl, rfl⟩

set_option maxHeartbeats 1000000 in
theorem refSplit_yes (n : Nat) (xs : List Int) (v : Value) (w : World) (hv : Rd eU64 w v xs) (hr : xs.length * 8 ≤ 140737488355328) (hxs : ∀ x ∈ xs, 0 ≤ x ∧ x ≤ 18446744073709551615) (hn1 : 1 ≤ n) (hn4 : n ≤ 4) :
    Calls Try.prog 12 #[.int .i64 n, v] w fun e w' => ∃ v', e = .returned v' ∧ Grid eU64 w.heap.size 26 22 w' v' n (fun s => mineS s n xs) ∧ Below w.heap.size w w' := by
  have h1 : ¬ ((n : Int) < 1) := by omega
  have h4 : ¬ ((4 : Int) < n) := by omega
  have H := Lib.hid hxs
  clear hxs
  go_enter Try.func12, Try.ntmps12
  go_wp2
  go_loopw [5, 6] (fun g i wr => ∃ k : Nat, k ≤ n ∧ i = .int .i64 k ∧ Grid eU64 w.heap.size 26 22 wr g k (fun s => mineS s n xs) ∧ Below w.heap.size w wr) (fun _ i _ => n - (intOf i).toNat)
  case atStart => exact ⟨0, Nat.zero_le _, rfl, ⟨fun _ => (none, 0, 0), Ow.nil _ _ _, fun s hs => by omega, fun s _ hs => by omega⟩, Below.refl _ _⟩
  case round =>
    obtain ⟨k, hk, rfl, hgr, hbel⟩ := hrel
    by_cases hlt : k < n
    · have hsz := hbel.size
      go_wp2_with fail
      refine (refMine_any k n xs v wr (hv.grow hbel) hr (by omega) H.out).mono ?_
      rintro e w1 ⟨v1, rfl, hown1, hb1⟩
      obtain ⟨vs, g10, g20, g3⟩ := hgr
      have g1 := g10.grow hb1
      have g2 : ∀ s, s < k → Ow eU64 w.heap.size 22 w1 (vs s).val (mineS s n xs) := fun s hs => (g20 s hs).grow hb1
      have hd : ∀ t, t < k → (vs t).val.ownBlock = none ∨ (vs t).val.ownBlock ≠ v1.ownBlock := by
        intro t ht
        cases hb : (vs t).val.ownBlock with
        | none => exact .inl rfl
        | some g =>
          right; intro e
          have := ((g20 t ht).lt hb).2
          have := (hown1.lt e.symm).1
          omega
      obtain ⟨⟨ao, m, cap⟩, rfl⟩ := hown1.sv
      have hv2 : SV.val (ao, m, cap) = .slice ao m cap := rfl
      have hown2 := hown1.mono hsz
      have hs1 := hb1.size
      have hA : ((List.range k).map vs).length = k := by simp
      rw [hv2]
      clear g10 g20
      go_wp2_with (at_builtin; refine wl_append rfl _ _ _ rfl w.heap.size 26 24 sliceSl _ ((List.range k).map vs) rfl (g1.alloc _) _ [(ao, m, cap)] rfl (Rd.lit w1 _ _ _ _ _ _ (by simp [Enc.all, eSl, SV.val]) rfl (by omega) (by decide)) (by rw [hA]; simp; omega) (by rw [hA]; unfold maxLen; simp; omega) (by simp; omega) ?_)
      intro v' w2 hown' hgrow _ _
      have hp := grid_push (n := k) (by decide) (g1.alloc (.cells #[.slice ao m cap] 26)) (fun s hs => (g2 s hs).alloc _) g3 (hown2.alloc _) hd hown' hgrow
      have hb2 := ((hbel.trans (hb1.mono hsz)).alloc (by omega) (.cells #[.slice ao m cap] 26)).grown hgrow (by simp; omega) (fun j hj => (g1.lt hj).1)
      have e : (fun s : Nat => if s = k then mineS k n xs else mineS s n xs) = fun s : Nat => mineS s n xs := by
        funext s; split
        · rename_i h; rw [h]
        · rfl
      rw [e] at hp
      clear hbel hown1 hb1 g1 g2 g3 hd hown2 hown' hgrow e hA
      go_wp2
      go_roundw
      case rel => exact ⟨k + 1, by omega, by go_num, hp, hb2⟩
      case measure => simp [intOf]; omega
    · obtain rfl : k = n := by omega
      go_wp2
      go_ret
      exact ⟨_, rfl, hgr, hbel⟩
end Go.Proofs.Ytgegpejjnpjdlaa
