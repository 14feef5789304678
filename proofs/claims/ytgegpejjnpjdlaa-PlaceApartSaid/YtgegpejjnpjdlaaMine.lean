/- place.Mine and its reference: the keys of one shard. -/
import Derived.Test.YtgegpejjnpjdlaaPlaceOf
namespace Go.Proofs.Ytgegpejjnpjdlaa
open Go.RowKit
set_option linter.unusedVariables false

/-- the keys of a shard -/
def mineS (s n : Int) (xs : List Int) : List Int := xs.filter fun k => ofS k n == s
theorem mineS_le (s n : Int) (xs : List Int) : (mineS s n xs).length ≤ xs.length := List.length_filter_le _ _
theorem mineS_step (s n : Int) (xs : List Int) (k : Nat) (h : k < xs.length) : mineS s n (xs.take (k + 1)) = mineS s n (xs.take k) ++ if ofS xs[k] n == s then [xs[k]] else [] := by
  rw [List.take_succ_eq_append_getElem h, mineS, mineS, List.filter_append]
  by_cases hb : (ofS xs[k] n == s) = true <;> simp [hb]

theorem sliceU64 : SliceInfo Try.prog 26 22 1 8 := SliceInfo.mk' Try.underlying26 (z := .int .u64 0) (by kernel_rfl) rfl

set_option maxHeartbeats 1000000 in
theorem mine_any (s n : Int) (xs : List Int) (v : Value) (w : World) (hv : Rd eU64 w v xs) (hr : xs.length * 8 ≤ 140737488355328) (hn : n ≤ 9223372036854775807) :
    Calls Try.prog 13 #[.int .i64 s, .int .i64 n, v] w fun e w' => ∃ v', e = .returned v' ∧ Ow eU64 w.heap.size 22 w' v' (mineS s n xs) ∧ Below w.heap.size w w' := by
  obtain ⟨hma, a, ca, rfl, _, _, ha⟩ := hv
  unfold maxLen at hma
  go_enter Try.func13, Try.ntmps13
  go_wp2
  go_loopw [7, 9, 12] (fun v _ i wr => ∃ k : Nat, k ≤ xs.length ∧ i = .int .i64 k ∧ Ow eU64 w.heap.size 22 wr v (mineS s n (xs.take k)) ∧ Below w.heap.size w wr) (fun _ _ i _ => xs.length - (intOf i).toNat)
  case atStart => exact ⟨0, Nat.zero_le _, rfl, Ow.nil _ _ _, Below.refl _ _⟩
  case round =>
    obtain ⟨k, hk, rfl, hown, hbel⟩ := hrel
    by_cases hlt : k < xs.length
    · obtain ⟨b1, o1, rfl, h1⟩ := ha (by omega)
      have c1 := h1 k _ (eU64_at xs k hlt)
      have c2 := (hbel.cell (p := ⟨b1, o1 + k, none⟩) (World.block_lt_of_cell? w _ c1)).trans c1
      clear c1 ha h1
      have hst := mineS_step s n xs k hlt
      have hle := mineS_le s n (xs.take k)
      have hlt' : (xs.take k).length ≤ k := List.length_take_le _ _
      have hsz := hbel.size
      obtain ⟨x, hx⟩ : ∃ x, x = xs[k] := ⟨_, rfl⟩
      rw [← hx] at c2 hst
      clear hx
      by_cases hs : (ofS x n == s) = true
      · rw [if_pos hs] at hst
        have HS := Lib.hid hst
        clear hst
        go_wp2_with (first | (go_at_call 8; refine (of_any _ _ _ hn).mono ?_; rintro e w' ⟨rfl, rfl⟩) | (at_builtin; refine wl_append rfl _ _ _ rfl w.heap.size 22 8 sliceU64 _ (mineS s n (xs.take k)) rfl (hown.alloc _) _ [x] rfl (Rd.lit wr _ _ _ _ _ _ (by simp [Enc.all, eInt]) rfl (by omega) (by decide)) (by simp; omega) (by unfold maxLen; simp; omega) (by simp; omega) ?_))
        intro v' w1 hown' hgrow _ _
        have hb' := (hbel.alloc hsz (.cells #[.int .u64 x] 22)).grown hgrow (by simp; omega) (fun j hj => (hown.lt hj).1)
        clear hown hgrow
        go_wp2
        go_roundw
        case rel => exact ⟨k + 1, by omega, by go_num, by rw [HS.out]; exact hown', hb'⟩
        case measure => simp [intOf]; omega
      · rw [if_neg hs, List.append_nil] at hst
        have HS := Lib.hid hst
        clear hst
        have hs2 : (ofS x n == s) = false := by simpa using hs
        go_wp2_with (first | (go_at_call 8; refine (of_any _ _ _ hn).mono ?_; rintro e w' ⟨rfl, rfl⟩))
        go_roundw
        case rel => exact ⟨k + 1, by omega, by go_num, by rw [HS.out]; exact hown, hbel⟩
        case measure => simp [intOf]; omega
    · go_wp2
      go_ret
      rw [List.take_of_length_le (by omega)] at hown
      exact ⟨_, rfl, hown, hbel⟩
set_option maxHeartbeats 1000000 in
theorem refMine_any (s n : Int) (xs : List Int) (v : Value) (w : World) (hv : Rd eU64 w v xs) (hr : xs.length * 8 ≤ 140737488355328) (hn : n ≤ 9223372036854775807) (hxs : ∀ x ∈ xs, 0 ≤ x ∧ x ≤ 18446744073709551615) :
    Calls Try.prog 14 #[.int .i64 s, .int .i64 n, v] w fun e w' => ∃ v', e = .returned v' ∧ Ow eU64 w.heap.size 22 w' v' (mineS s n xs) ∧ Below w.heap.size w w' := by
  obtain ⟨hma, a, ca, rfl, _, _, ha⟩ := hv
  unfold maxLen at hma
  go_enter Try.func14, Try.ntmps14
  go_wp2
  go_loopw [7, 8] (fun v i wr => ∃ k : Nat, k ≤ xs.length ∧ i = .int .i64 k ∧ Ow eU64 w.heap.size 22 wr v (mineS s n (xs.take k)) ∧ Below w.heap.size w wr) (fun _ i _ => xs.length - (intOf i).toNat)
  case atStart => exact ⟨0, Nat.zero_le _, rfl, Ow.nil _ _ _, Below.refl _ _⟩
  case round =>
    obtain ⟨k, hk, rfl, hown, hbel⟩ := hrel
    by_cases hlt : k < xs.length
    · obtain ⟨b1, o1, rfl, h1⟩ := ha (by omega)
      have c1 := h1 k _ (eU64_at xs k hlt)
      have c2 := (hbel.cell (p := ⟨b1, o1 + k, none⟩) (World.block_lt_of_cell? w _ c1)).trans c1
      clear c1 ha h1
      have hst := mineS_step s n xs k hlt
      have hle := mineS_le s n (xs.take k)
      have hlt' : (xs.take k).length ≤ k := List.length_take_le _ _
      have hsz := hbel.size
      obtain ⟨x, hx⟩ : ∃ x, x = xs[k] := ⟨_, rfl⟩
      have hx0 : 0 ≤ x := hx ▸ (hxs _ (List.getElem_mem hlt)).1
      have hx1 : x ≤ 18446744073709551615 := hx ▸ (hxs _ (List.getElem_mem hlt)).2
      rw [← hx] at c2 hst
      clear hx
      by_cases hs : (ofS x n == s) = true
      · rw [if_pos hs] at hst
        have HS := Lib.hid hst
        clear hst
        go_wp2_with (first | (go_at_call 9; refine (refOf_any _ _ _ hx0 hx1 hn).mono ?_; rintro e w' ⟨rfl, rfl⟩) | (at_builtin; refine wl_append rfl _ _ _ rfl w.heap.size 22 8 sliceU64 _ (mineS s n (xs.take k)) rfl (hown.alloc _) _ [x] rfl (Rd.lit wr _ _ _ _ _ _ (by simp [Enc.all, eInt]) rfl (by omega) (by decide)) (by simp; omega) (by unfold maxLen; simp; omega) (by simp; omega) ?_))
        intro v' w1 hown' hgrow _ _
        have hb' := (hbel.alloc hsz (.cells #[.int .u64 x] 22)).grown hgrow (by simp; omega) (fun j hj => (hown.lt hj).1)
        clear hown hgrow
        go_wp2
        go_roundw
        case rel => exact ⟨k + 1, by omega, by go_num, by rw [HS.out]; exact hown', hb'⟩
        case measure => simp [intOf]; omega
      · rw [if_neg hs, List.append_nil] at hst
        have HS := Lib.hid hst
        clear hst
        have hs2 : (ofS x n == s) = false := by simpa using hs
        go_wp2_with (first | (go_at_call 9; refine (refOf_any _ _ _ hx0 hx1 hn).mono ?_; rintro e w' ⟨rfl, rfl⟩))
        go_roundw
        case rel => exact ⟨k + 1, by omega, by go_num, by rw [HS.out]; exact hown, hbel⟩
        case measure => simp [intOf]; omega
    · go_wp2
      go_ret
      rw [List.take_of_length_le (by omega)] at hown
      exact ⟨_, rfl, hown, hbel⟩
end Go.Proofs.Ytgegpejjnpjdlaa
