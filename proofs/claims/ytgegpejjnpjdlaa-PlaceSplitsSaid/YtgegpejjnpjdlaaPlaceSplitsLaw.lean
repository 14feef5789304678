/- The law PlaceSplits: its walk. -/
import Derived.Test.YtgegpejjnpjdlaaPlaceAwake
import Derived.Test.YtgegpejjnpjdlaaNumbers
import Derived.Test.YtgegpejjnpjdlaaOpen
namespace Go.Proofs.Ytgegpejjnpjdlaa
open Go.RowKit
set_option linter.unusedVariables false

set_option maxHeartbeats 2000000 in
theorem placeSplits_any (s n : Int) (xs : List Int) (v : Value) (w : World) (hs : -9223372036854775808 ≤ s ∧ s ≤ 9223372036854775807) (hn : -9223372036854775808 ≤ n ∧ n ≤ 9223372036854775807)
    (hv : Rd eU64 w v xs) (hl : xs.length * 8 ≤ 140737488351232) (hwf : ∀ x ∈ xs, (Lit.int .u64 x).wf = true) :
    Calls Try.prog 5 #[.int .i64 s, .int .i64 n, v] w fun e w' => e = .returned (.bool true) ∧ Below w.heap.size w w' := by
  have HW : Hid (∀ x ∈ xs, 0 ≤ x ∧ x ≤ 18446744073709551615) := fun x hx => bounds_u64 (hwf x hx)
  clear hwf
  obtain ⟨hn0, hn1⟩ := hn
  have hm := nSh_le n
  have hl' : xs.length ≤ maxLen := by unfold maxLen; omega
  go_enter Try.func5, Try.ntmps5
  go_wp2_with fail
  refine (awake_any _).mono ?_
  rintro e w1 ⟨rfl, hb1⟩
  have hsz1 := hb1.size
  have hv1 := hv.grow hb1
  go_wp2_with (at_builtin; refine wl_append (E := eU64) rfl _ _ _ rfl w.heap.size 22 8 sliceU64 _ [] rfl (Ow.lit w1 _ _ _ _ _ (by simp [Enc.all]) rfl (by simp) hsz1) _ xs rfl (hv1.alloc _) (by simp; omega) (by simp; omega) (by simp; omega) ?_)
  intro vi w2 hown2 hgrow2 _
  have hb2 : Below w.heap.size w w2 := (hb1.alloc hsz1 _).grown hgrow2 (by simp; omega) (by simp [Value.ownBlock]; omega)
  have hsz2 := hb2.size
  have hv2 := hv.grow hb2
  have hr2 := hown2.rd
  clear hgrow2 hv1
  go_wp2_with fail
  refine (split_any n xs vi w2 hr2 (by omega)).mono ?_
  rintro e w3 ⟨va, rfl, hga, hb3⟩
  obtain ⟨aoa, capa, rfl⟩ := hga.len
  have hs3 := hb3.size
  have hb3' := bthen hb2 hb3
  have hv3 := hv.grow hb3'
  have hr3 := hr2.grow hb3
  go_wp2_with fail
  refine (refSplit_any n xs v w3 hv3 (by omega) HW.out).mono ?_
  rintro e w4 ⟨vb, rfl, hgb, hb4⟩
  obtain ⟨aob, capb, rfl⟩ := hgb.len
  have hs4 := hb4.size
  have hb4' := bthen hb3' hb4
  have hv4 := hv.grow hb4'
  have hr4 := hr3.grow hb4
  have hga4 := hga.grow hb4
  have hnn : (((nSh n : Nat) : Int) != ((nSh n : Nat) : Int)) = false := by simp
  go_wp2_with fail
  refine (numbers_bel xs vi v w4 hr4 hv4).mono ?_
  rintro e w5 ⟨rfl, hb5⟩
  have hb5' := bthen hb4' hb5
  go_wp2_with fail
  refine (mine_any s n xs vi w5 (hr4.grow hb5) (by omega) hn1).mono ?_
  rintro e w6 ⟨vm, rfl, hom, hb6⟩
  have hb6' := bthen hb5' hb6
  go_wp2_with fail
  refine (refMine_any s n xs v w6 (hv.grow hb6') (by omega) hn1 HW.out).mono ?_
  rintro e w7 ⟨vr, rfl, hor, hb7⟩
  have hb7' := bthen hb6' hb7
  go_wp2_with fail
  refine (numbers_bel _ vm vr w7 (hom.grow hb7).rd hor.rd).mono ?_
  rintro e w8 ⟨rfl, hb8⟩
  have hb8' := bthen hb7' hb8
  have hga8 := (((hga4.grow hb5).grow hb6).grow hb7).grow hb8
  have hgb8 := (((hgb.grow hb5).grow hb6).grow hb7).grow hb8
  clear hga hga4 hgb hom hor hb3 hb4 hb5 hb6 hb7 hb8 hb1 hb2 hb3' hb4' hb5' hb6' hb7' hown2 hv hv2 hv3 hv4 hr2 hr3 hr4 hsz1 hsz2 hs3 hs4
  obtain ⟨m, hmN⟩ : ∃ m, m = nSh n := ⟨_, rfl⟩
  rw [← hmN] at hga8 hgb8 hm hnn
  rw [← hmN]
  clear hmN
  go_wp2_with fail
  go_loopw [10] (fun i wr => ∃ k : Nat, k ≤ m ∧ i = .int .i64 k ∧ Below w8.heap.size w8 wr) (fun i _ => m - (intOf i).toNat)
  case atStart => exact ⟨0, Nat.zero_le _, rfl, Below.refl _ _⟩
  case round =>
    obtain ⟨k, hk, rfl, hbr⟩ := hrel
    by_cases hlt : k < m
    · obtain ⟨g1, o1, p1, rfl, _, c1, _, hw1⟩ := ((hga8.grow hbr).at_ rfl).2 k hlt
      obtain ⟨g2, o2, p2, rfl, _, c2, _, hw2⟩ := ((hgb8.grow hbr).at_ rfl).2 k hlt
      go_wp2_with fail
      go_quiet ((go_at_call 11; exact Calls.quiet_of (numbers_eq _ _ _ _ (hw1.rd.drewN _) (hw2.rd.drewN _))))
      go_wp2_with fail
      go_roundw
      case rel => exact ⟨k + 1, by omega, by go_num, below_drewN hbr _⟩
      case measure => simp [intOf]; omega
    · go_wp2_with fail
      go_ret
      exact ⟨rfl, bthen hb8' hbr⟩
end Go.Proofs.Ytgegpejjnpjdlaa
