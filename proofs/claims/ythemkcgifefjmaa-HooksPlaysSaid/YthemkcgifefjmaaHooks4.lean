/- Layer 19: Where, Detach. -/
import Derived.Test.YthemkcgifefjmaaHooks3
namespace Go.Proofs.Ythemkcgifefjmaa
open Go.RowKit
set_option linter.unusedVariables false

/-- the hooks where one of the programs is, below k -/
def whereTo (hs : List Pub) (ps : List Int) (k : Nat) : List Int := (((List.range k).filter fun h : Nat => decide (0 < (getH hs (h : Int)).1) && decide ((getH hs (h : Int)).2 ∈ ps))).map fun h : Nat => (h : Int)
theorem whereTo_yes {hs : List Pub} {ps : List Int} {k : Nat} (h1 : 0 < (getH hs k).1) (h2 : (getH hs k).2 ∈ ps) : whereTo hs ps (k + 1) = whereTo hs ps k ++ [(k : Int)] := by
  simp [whereTo, List.range_succ, List.filter_append, h1, h2]
theorem whereTo_no {hs : List Pub} {ps : List Int} {k : Nat} (h : ¬ (0 < (getH hs k).1 ∧ (getH hs k).2 ∈ ps)) : whereTo hs ps (k + 1) = whereTo hs ps k := by
  have : (decide (0 < (getH hs k).1) && decide ((getH hs k).2 ∈ ps)) = false := by
    rw [Bool.and_eq_false_iff]; by_cases h1 : 0 < (getH hs k).1
    · right; simpa using fun h2 => h ⟨h1, h2⟩
    · left; simpa using h1
  simp [whereTo, List.range_succ, List.filter_append, this]
theorem whereTo_len (hs : List Pub) (ps : List Int) (k : Nat) : (whereTo hs ps k).length ≤ k := by
  unfold whereTo
  rw [List.length_map]
  exact Nat.le_trans (List.length_filter_le _ _) (by simp)
theorem sliceI : SliceInfo Try.prog 23 3 (eInt .i64).size 8 := SliceInfo.mk' Try.underlying23 (z := .int .i64 0) (by kernel_rfl) rfl

set_option maxHeartbeats 2000000 in
theorem where_any (g : Nat) (last : Int) (hs : List Pub) (ps : List Int) (vp : Value) (S : Nat → Prop) (w : World) (H : TabS g last hs S w) (hn : hs.length ≤ 4) (hp : Rd (eInt .i64) w vp ps) :
    Calls Try.prog 11 #[.pointer (some ⟨g, 0, none⟩), vp] w fun e w' => ∃ v', e = .returned v' ∧ OwS (eInt .i64) 3 (fun k => w.heap.size ≤ k) w' v' (whereTo hs ps hs.length) ∧ Only (fun _ => False) w w' := by
  obtain ⟨v, H⟩ := H
  obtain ⟨ao, cap, rfl⟩ := H.shape
  have c1 : w.cell? ⟨g, 1, none⟩ = some (.slice ao hs.length cap) := blk_cell H.1 1
  obtain ⟨n, hnn⟩ : ∃ n, n = hs.length := ⟨_, rfl⟩
  have HN := Lib.hid hnn
  have HH := Lib.hid H
  rw [← hnn] at c1 hn
  rw [← hnn]
  clear H hnn
  go_enter Try.func11, Try.ntmps11
  go_wp2_with fail
  go_loopw [5, 6, 7, 13] (fun vn _ _ i wr => ∃ k : Nat, k ≤ n ∧ i = .int .i64 k ∧ OwS (eInt .i64) 3 (fun k => w.heap.size ≤ k) wr vn (whereTo hs ps k) ∧ Only (fun k => w.heap.size ≤ k) w wr) (fun _ _ _ i _ => n - (intOf i).toNat)
  case atStart => exact ⟨0, Nat.zero_le _, rfl, by simpa [whereTo] using OwS.nil _ _, Only.refl _ _⟩
  case round =>
    obtain ⟨k, hk, rfl, hown, ho⟩ := hrel
    by_cases hlt : k < n
    · have hkh : k < hs.length := by have := HN.out; omega
      have Hr : TabV g last (.slice ao hs.length cap) hs S wr := Obj1v.framed.only _ _ _ _ HH.out ho (fun k hk hs h => by omega)
      obtain ⟨b, off, cap', hvs, _, x0, x1⟩ := Hr.at_ k hkh
      obtain ⟨rfl, _, rfl⟩ : ao = some ⟨b, off, none⟩ ∧ hs.length = hs.length ∧ cap = cap' := by simpa using hvs
      have hge : getH hs (k : Int) = hs[k] := by simp [getH, hkh]
      have hyes := fun h1 h2 => whereTo_yes (hs := hs) (ps := ps) (k := k) h1 h2
      have hno := fun h => whereTo_no (hs := hs) (ps := ps) (k := k) h
      have hln := whereTo_len hs ps k
      have hpr : Rd (eInt .i64) wr vp ps := hp.grow (ho.below (Nat.le_refl _) (fun _ h => h))
      have hsz := ho.size
      rw [hge] at hyes hno
      have HY := Lib.hid hyes
      have HNO := Lib.hid hno
      clear hyes hno hge Hr hvs c1
      generalize hs[k] = p at *
      by_cases h1 : 0 < p.1
      · go_wp2_with fail
        refine (contains_any ps p.2 vp _ (hpr.alloc _)).mono ?_
        rintro e w1 ⟨rfl, rfl⟩
        by_cases h2 : p.2 ∈ ps
        · have hc2 : decide (p.2 ∈ ps) = true := by simpa using h2
          have hy := Lib.hid (HY.out h1 h2)
          rw [hc2]
          clear h2 hc2 HY HNO
          have hob := OwS.framed.alloc (OwS.framed.alloc hown (.cells #[.int .i64 p.1, .int .i64 p.2] 53)) (.cells #[.int .i64 (k : Int)] 3)
          have hrd := Rd.lit2 (E := eInt .i64) wr (.cells #[.int .i64 p.1, .int .i64 p.2] 53) #[.int .i64 (k : Int)] 3 (0, 0) 1 1 [(k : Int)] (by simp [Enc.all, eInt]) rfl (Nat.le_refl _) (by decide)
          go_wp2_with (at_builtin; refine wl_appendS (E := eInt .i64) rfl _ (.tmp 29) _ rfl 3 8 sliceI _ _ (whereTo hs ps k) rfl hob _ [(k : Int)] rfl hrd (by simp; omega) (by unfold maxLen; simp; omega) ?_)
          intro v4 w4 hn4 hO4
          have hn5 := OwS.framed.mono _ (fun j => w.heap.size ≤ j) _ hn4 (fun j _ h => by rcases h with h | h <;> omega)
          rw [← hy.out] at hn5
          have ho5 := (ho.tr ((Only.alloc _ wr _).tr (Only.alloc _ _ _))).tr hO4
          clear hob hrd hn4 hO4 hown ho
          go_wp2_with fail
          go_roundw
          case rel => exact ⟨k + 1, by omega, by go_num, hn5, ho5⟩
          case measure => simp [intOf]; omega
        · have hc2 : decide (p.2 ∈ ps) = false := by simpa using h2
          have hy := Lib.hid (HNO.out (fun h => h2 h.2))
          rw [hc2]
          clear h2 hc2 HY HNO
          go_wp2_with fail
          go_roundw
          case rel => exact ⟨k + 1, by omega, by go_num, by rw [hy.out]; exact OwS.framed.alloc hown _, ho.tr (Only.alloc _ _ _)⟩
          case measure => simp [intOf]; omega
      · have hy := Lib.hid (HNO.out (fun h => h1 h.1))
        clear HY HNO
        go_wp2_with fail
        go_roundw
        case rel => exact ⟨k + 1, by omega, by go_num, by rw [hy.out]; exact OwS.framed.alloc hown _, ho.tr (Only.alloc _ _ _)⟩
        case measure => simp [intOf]; omega
    · obtain rfl : k = n := by omega
      go_wp2_with fail
      go_ret
      exact ⟨_, rfl, hown, ho.mono (fun j hj h => by omega)⟩
end Go.Proofs.Ythemkcgifefjmaa
