/- The law PlaceJoins: its walk. -/
import Derived.Test.YtgegpejjnpjdlaaPlaceAwake
import Derived.Test.YtgegpejjnpjdlaaNumbers
import Derived.Test.YtgegpejjnpjdlaaOpen
import Derived.Deep.RegionHeld3
namespace Go.Proofs.Ytgegpejjnpjdlaa
open Go.RowKit
set_option linter.unusedVariables false

theorem mineS_append (s n : Int) (xs ys : List Int) : mineS s n (xs ++ ys) = mineS s n xs ++ mineS s n ys := by simp [mineS]

set_option maxHeartbeats 2000000 in
theorem placeJoins_any (n : Int) (xs : List Int) (vx : Value) (ys : List Int) (vy : Value) (w : World) (hn : -9223372036854775808 ≤ n ∧ n ≤ 9223372036854775807)
    (hx : Rd eU64 w vx xs) (hlx : xs.length ≤ 1048576) (hwx : ∀ x ∈ xs, (Lit.int .u64 x).wf = true) (hy : Rd eU64 w vy ys) (hly : ys.length ≤ 1048576) (hwy : ∀ x ∈ ys, (Lit.int .u64 x).wf = true) :
    Calls Try.prog 4 #[.int .i64 n, vx, vy] w fun e w' => e = .returned (.bool true) ∧ Below w.heap.size w w' := by
  clear hwx hwy
  have hm := nSh_le n
  go_enter Try.func4, Try.ntmps4
  go_wp2_with fail
  refine (awake_any _).mono ?_
  rintro e w1 ⟨rfl, hb1⟩
  go_wp2_with fail
  refine (split_any n xs vx w1 (hx.grow hb1) (by omega)).mono ?_
  rintro e w2 ⟨va, rfl, hga, hb2⟩
  obtain ⟨aoa, capa, rfl⟩ := hga.len
  have hb2' := bthen hb1 hb2
  go_wp2_with fail
  refine (split_any n ys vy w2 (hy.grow hb2') (by omega)).mono ?_
  rintro e w3 ⟨vb, rfl, hgb, hb3⟩
  obtain ⟨aob, capb, rfl⟩ := hgb.len
  have hb3' := bthen hb2' hb3
  have hx3 := hx.grow hb3'
  have hsz3 := hb3'.size
  go_wp2_with (at_builtin; refine wl_append (E := eU64) rfl _ (.tmp 21) _ rfl w3.heap.size 22 8 sliceU64 _ [] rfl (Ow.lit w3 _ _ _ _ _ (by simp [Enc.all]) rfl (by simp) (Nat.le_refl _)) _ xs rfl (hx3.alloc _) (by (try simp); omega) (by unfold maxLen; (try simp); omega) (by simp) ?_)
  intro vi w4 hown4 hgrow4 _
  have hb4 : Below w3.heap.size w3 w4 := ((Below.refl _ _).alloc (Nat.le_refl _) _).grown hgrow4 (by simp) (by simp [Value.ownBlock])
  have hy4 := hy.grow (bthen hb3' hb4)
  clear hgrow4
  go_wp2_with (at_builtin; refine wl_append (E := eU64) rfl _ (.tmp 23) _ rfl w3.heap.size 22 8 sliceU64 _ xs rfl hown4 _ ys rfl hy4 (by (try simp); omega) (by unfold maxLen; (try simp); omega) hb4.size ?_)
  intro vj w5 hown5 hgrow5 _
  have hb5 := hb4.grown hgrow5 hb4.size (fun k hk => (hown4.lt hk).1)
  have hb5' := bthen hb3' hb5
  clear hgrow5 hown4
  go_wp2_with fail
  refine (split_any n (xs ++ ys) vj w5 hown5.rd (by (try simp); omega)).mono ?_
  rintro e w6 ⟨vc, rfl, hgc, hb6⟩
  obtain ⟨aoc, capc, rfl⟩ := hgc.len
  have hb6' := bthen hb5' hb6
  have hga6 := (((hga.grow hb3).grow hb5).grow hb6)
  have hgb6 := ((hgb.grow hb5).grow hb6)
  have hnn : (((nSh n : Nat) : Int) != ((nSh n : Nat) : Int)) = false := by simp
  clear hga hgb hb1 hb2 hb2' hb3 hb3' hx3 hsz3 hb4 hy4 hown5 hb5 hb5' hb6 hx hy
  obtain ⟨m, hmN⟩ : ∃ m, m = nSh n := ⟨_, rfl⟩
  rw [← hmN] at hga6 hgb6 hgc hm hnn
  rw [← hmN]
  clear hmN
  go_wp2_with fail
  go_loopw [10] (fun i wr => ∃ k : Nat, k ≤ m ∧ i = .int .i64 k ∧ Below w6.heap.size w6 wr) (fun i _ => m - (intOf i).toNat)
  case atStart => exact ⟨0, Nat.zero_le _, rfl, Below.refl _ _⟩
  case round =>
    obtain ⟨k, hk, rfl, hbr⟩ := hrel
    by_cases hlt : k < m
    · obtain ⟨g1, o1, p1, rfl, _, c1, _, hw1⟩ := ((hga6.grow hbr).at_ rfl).2 k hlt
      obtain ⟨g2, o2, p2, rfl, _, c2, _, hw2⟩ := ((hgb6.grow hbr).at_ rfl).2 k hlt
      obtain ⟨g3, o3, p3, rfl, _, c3, _, hw3⟩ := ((hgc.grow hbr).at_ rfl).2 k hlt
      have k0 : (0 : Int) ≤ (k : Int) := by omega
      have k1 : (k : Int) < (m : Int) := by omega
      go_wp2_with fail
      have lg1 := World.block_lt_of_cell? wr _ c1
      have lg2 := World.block_lt_of_cell? wr _ c2
      have lg3 := World.block_lt_of_cell? wr _ c3
      have L1 : (mineS k n xs).length ≤ 1048576 := Nat.le_trans (mineS_le _ _ _) hlx
      have L2 : (mineS k n ys).length ≤ 1048576 := Nat.le_trans (mineS_le _ _ _) hly
      go_region_held3 (fun w' => Below wr.heap.size wr w' ∧ w'.cell? ⟨g1, o1 + k, none⟩ = some p1.val ∧ w'.cell? ⟨g2, o2 + k, none⟩ = some p2.val ∧ w'.cell? ⟨g3, o3 + k, none⟩ = some p3.val)
        ((refine keep3 ?_ lg1 c1 lg2 c2 lg3 c3; first | exact (Below.refl _ _).drew | exact ((Below.refl _ _).alloc (Nat.le_refl _) _).drew | exact hbi | exact hbj | exact hbk))
        (first
          | (refine step_append (E := eU64) (by rfl) (.tmp 48) (.tmp 52) _ (by rfl) wr.heap.size 22 8 sliceU64 _ [] (by rfl) ((Ow.lit wr _ _ _ _ _ (by simp [Enc.all]) rfl (by simp) (Nat.le_refl _)).drew) _ (mineS k n xs) (by rfl) ((hw1.rd.alloc _).drew) (by simp; omega) (by unfold maxLen; simp; omega) (by simp) ?_; intro vi wi howi hgri _; have hbi : Below wr.heap.size wr wi := ((Below.refl _ _).alloc (Nat.le_refl _) _).drew.grown hgri (by simp) (by simp [Value.ownBlock]))
          | (refine step_append (E := eU64) (by rfl) (.tmp 53) (.tmp 57) _ (by rfl) wr.heap.size 22 8 sliceU64 _ (mineS k n xs) (by rfl) howi _ (mineS k n ys) (by rfl) (hw2.rd.grow hbi) (by omega) (by unfold maxLen; omega) hbi.size ?_; intro vj wj howj hgrj _; have hbj : Below wr.heap.size wr wj := hbi.grown hgrj hbi.size (fun g hg => (howi.lt hg).1))
          | (go_at_call 11; refine (numbers_bel _ _ _ _ (hw3.rd.grow hbj) (by rw [mineS_append]; exact howj.rd)).mono ?_; rintro e wk ⟨rfl, hbk0⟩; have hbk := bthen hbj hbk0))
      clear hw1 hw2 hw3 howi hgri hbi howj hgrj hbj hbk0 c1 c2 c3
      go_wp2_with fail
      go_roundw
      case rel => exact ⟨k + 1, by omega, by go_num, bthen hbr hbk⟩
      case measure => simp [intOf]; omega
    · go_wp2_with fail
      go_ret
      exact ⟨rfl, bthen hb6' hbr⟩
end Go.Proofs.Ytgegpejjnpjdlaa
