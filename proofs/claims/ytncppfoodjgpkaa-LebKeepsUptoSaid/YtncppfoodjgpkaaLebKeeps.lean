/- The law LebKeeps: its walk. -/
import Derived.Test.YtncppfoodjgpkaaRoomy
namespace Go.Proofs.Ytncppfoodjgpkaa
open Go.RowKit
set_option linter.unusedVariables false

theorem get_w (b : List Int) (v : Value) (w : World) (hv : Rd eU8 w v b) (hb : ∀ x ∈ b, 0 ≤ x ∧ x ≤ 255) :
    Calls Try.prog 14 #[v] w fun e w' => (∃ a b c, e = .returned (.tuple #[a, b, c])) ∧ w = w' :=
  (get_any b v w hv hb).mono fun _ _ ⟨h1, h2⟩ => ⟨⟨_, _, _, h1⟩, h2⟩
theorem getInt_w (b : List Int) (v : Value) (w : World) (hv : Rd eU8 w v b) (hb : ∀ x ∈ b, 0 ≤ x ∧ x ≤ 255) :
    Calls Try.prog 16 #[v] w fun e w' => (∃ a b c, e = .returned (.tuple #[a, b, c])) ∧ w = w' :=
  (getInt_any b v w hv hb).mono fun _ _ ⟨h1, h2⟩ => ⟨⟨_, _, _, h1⟩, h2⟩
theorem grownBy_store (w : World) (g off : Nat) (u : Value) : w.grownBy (w.setCell ⟨g, off, none⟩ u) (some g) := grownBy_setCells w g off [u]

set_option maxRecDepth 100000 in
set_option maxHeartbeats 4000000 in
theorem lebKeeps_any (b : List Int) (v : Value) (xs : List Int) (vx : Value) (w : World)
    (hv : Rd (eInt .u8) w v b) (hl : b.length ≤ 1048576) (hwf : ∀ x ∈ b, (Lit.int .u8 x).wf = true)
    (hvx : Rd eU64 w vx xs) (hlx : xs.length ≤ 1048576) (hwfx : ∀ x ∈ xs, (Lit.int .u64 x).wf = true) :
    Calls Try.prog 8 #[v, vx] w fun e w' => e = .returned (.bool true) ∧ Below w.heap.size w w' := by
  have HB : Hid (∀ x ∈ b, 0 ≤ x ∧ x ≤ 255) := fun x hx => bounds_u8 (hwf x hx)
  have HX : Hid (∀ x ∈ xs, 0 ≤ x ∧ x ≤ 18446744073709551615) := fun x hx => bounds_u64 (hwfx x hx)
  clear hwf hwfx
  go_enter Try.func8, Try.ntmps8
  go_wp2_with fail
  refine (awake_any _).mono ?_
  rintro e w1 ⟨rfl, hb1⟩
  go_wp2_with fail
  refine (roomy_any b v w1 (hv.grow hb1) (by omega)).mono ?_
  rintro e w2 ⟨ro, rc, rfl, howr, hb2⟩
  have hb2' := bthen hb1 hb2
  have hsz12 := hb1.size
  have hmine : Rd eU8 w2 (.slice ro b.length rc) b := by
    have h := howr.rd
    obtain ⟨a, c, he, h1, h2⟩ := rd_same_world h
    have hl2 : (b ++ [(71 : Int), 72, 73]).length = b.length + 3 := by simp
    rw [hl2] at h1 he
    obtain ⟨rfl, rfl⟩ : ro = a ∧ rc = c := by simpa using he
    have h3 := h.taken b.length (by omega) rc (by omega) h2
    rw [List.take_left] at h3
    exact h3
  go_wp2_with fail
  refine (get_w b _ w2 hmine HB.out).mono ?_
  rintro e w3 ⟨⟨_, _, _, rfl⟩, rfl⟩
  go_wp2_with fail
  refine (getInt_w b _ w2 hmine HB.out).mono ?_
  rintro e w3 ⟨⟨_, _, _, rfl⟩, rfl⟩
  go_wp2_with fail
  refine (all_any b _ w2 hmine HB.out (by omega)).mono ?_
  rintro e w3 ⟨v3, rfl, hown3, hb3⟩
  go_wp2_with fail
  refine (all_any b _ w3 (hmine.grow hb3) HB.out (by omega)).mono ?_
  rintro e w4 ⟨v4, rfl, hown4, hb4⟩
  have hsz3 := hb3.size
  have hsz4 := hb4.size
  have hb34 := bthen hb3 hb4
  have hb4' := bthen hb2' hb34
  have howr4 := howr.grow hb34
  have hown34 := hown3.grow hb4
  have hlt3 : ∀ j, v3.ownBlock = some j → w2.heap.size ≤ j ∧ j < w3.heap.size := fun j hj => hown3.lt hj
  have hltr : ∀ j, (Value.slice ro (b.length + 3) rc).ownBlock = some j → j < w2.heap.size := fun j hj => (howr.lt hj).2
  have hlt4 : ∀ j, v4.ownBlock = some j → w3.heap.size ≤ j := fun j hj => (hown4.lt hj).1
  have hszw := hb2'.size
  have hszw4 := hb4'.size
  obtain ⟨lo, lc, rfl⟩ := hown34.len
  obtain ⟨N, hN⟩ : ∃ N, N = (alls b).1.length := ⟨_, rfl⟩
  have hNl : N ≤ maxLen := by rw [hN]; exact hown34.1
  unfold maxLen at hNl
  have HN := Lib.hid hN
  rw [← hN] at hown34 hlt3
  rw [← hN]
  clear hN hown3 hb1 hb2 hb3 hb4 hb34 hb2' hmine howr
  go_wp2_with fail
  go_loopw [11] (fun i wr => ∃ (k : Nat) (zs : List Int), k ≤ N ∧ i = .int .i64 k ∧ zs.length = N ∧ Ow eU64 w2.heap.size 22 wr (.slice lo N lc) zs ∧ w4.grownBy wr (Value.slice lo N lc).ownBlock) (fun i _ => N - (intOf i).toNat)
  case atStart => exact ⟨0, (alls b).1, Nat.zero_le _, rfl, HN.out.symm, hown34, World.grownBy.refl _ _⟩
  case round =>
    clear hown34
    obtain ⟨k, zs, hk, rfl, hzl, hown, hgr⟩ := hrel
    by_cases hlt : k < N
    · obtain ⟨g, off, rfl, hg, hc⟩ := hown.at_ k (by omega)
      obtain ⟨c1, f1⟩ := hc 0 (by decide)
      have hst := hown.store k (by omega) 11259375
      have e1 : off + (k * eU64.size + 0) = off + k := by simp [eU64, eInt]
      rw [e1] at c1 f1
      have c1' : wr.cell? ⟨g, off + k, none⟩ = some (.int .u64 zs[k]) := by rw [c1]; rfl
      have hst' : Ow eU64 w2.heap.size 22 (wr.setCell ⟨g, off + k, none⟩ (.int .u64 11259375)) (.slice (some ⟨g, off, none⟩) N lc) (zs.set k 11259375) := by
        have e2 : off + k * eU64.size = off + k := by simp [eU64, eInt]
        rw [e2] at hst; exact hst
      have hgr' := hgr.trans (grownBy_store wr g (off + k) (.int .u64 11259375))
      have hzl' : (zs.set k 11259375).length = N := by simp [hzl]
      generalize zs.set k 11259375 = zs' at hst' hzl'
      generalize zs[k] = z at c1'
      clear hst c1 hc e1 hown hgr
      go_wp2_with fail
      go_roundw
      case rel => exact ⟨k + 1, zs', by omega, by go_num, hzl', hst', hgr'⟩
      case measure => simp [intOf]; omega
    · have hbw := hb4'.grown hgr hszw4 (fun j hj => by have := (hlt3 j hj).1; omega)
      have hszr := hbw.size
      have howr5 := howr4.grown hgr (by
        cases hz : (Value.slice ro (b.length + 3) rc).ownBlock with
        | none => exact .inl rfl
        | some j => right; intro h; have h1 := hltr j hz; have h2 := (hlt3 j h.symm).1; omega)
      have hown5 := hown4.grown hgr (by
        cases hz : v4.ownBlock with
        | none => exact .inl rfl
        | some j => right; intro h; have h1 := hlt4 j hz; have h2 := (hlt3 j h.symm).2; omega)
      have hrr := howr5.rd
      have hr4 := hown5.rd
      clear hown hgr howr4 hown4 howr5 hown5 hlt3 hlt4 hltr hb4'
      go_wp2_with fail
      refine (refAll_any b v wr (hv.grow hbw) HB.out (by omega)).mono ?_
      rintro e w5 ⟨v5, rfl, hown5, hb5⟩
      have hb5' := bthen hbw hb5
      go_wp2_with fail
      refine (still_any b ro rc v w5 (hrr.grow hb5) (hv.grow hb5') (by omega)).mono ?_
      rintro e w6 ⟨rfl, hb6⟩
      have hb6' := bthen hb5' hb6
      go_wp2_with fail
      refine (numbers_bel _ v4 v5 w6 (hr4.grow (bthen hb5 hb6)) (hown5.grow hb6).rd).mono ?_
      rintro e w7 ⟨rfl, hb7⟩
      have hb7' := bthen hb6' hb7
      have hsz7 := hb7'.size
      clear hown5 hb5 hb5' hb6 hb6' hb7 hrr hr4 hbw
      go_wp2_with fail
      refine (puts_any xs vx w7 (hvx.grow hb7') HX.out (by omega)).mono ?_
      rintro e w8 ⟨v8, rfl, hown8, hb8⟩
      have hb8' := bthen hb7' hb8
      go_wp2_with fail
      refine (puts_any xs vx w8 (hvx.grow hb8') HX.out (by omega)).mono ?_
      rintro e w9 ⟨v9, rfl, hown9, hb9⟩
      have hb9' := bthen hb8' hb9
      have hsz8 := hb8.size
      have hsz9 := hb9.size
      have hown89 := hown8.grow hb9
      have hlt8 : ∀ j, v8.ownBlock = some j → w7.heap.size ≤ j ∧ j < w8.heap.size := fun j hj => hown8.lt hj
      have hlt9 : ∀ j, v9.ownBlock = some j → w8.heap.size ≤ j := fun j hj => (hown9.lt hj).1
      obtain ⟨xo, xc, rfl⟩ := hown89.len
      obtain ⟨yo, yc, rfl⟩ := hown9.len
      have hlb := (lebs_len xs).2
      obtain ⟨M, hM⟩ : ∃ M, M = (lebs xs).length := ⟨_, rfl⟩
      have HM := Lib.hid hM
      rw [← hM] at hown89 hown9 hlt8 hlt9 hlb
      rw [← hM]
      have hszw9 := hb9'.size
      clear hM hown8 hb7' hb8 hb8' hb9
      go_wp2_with fail
      go_loopw [16] (fun i wq => ∃ (k : Nat) (zs : List Int), k ≤ M ∧ i = .int .i64 k ∧ zs.length = M ∧ Ow eU8 w7.heap.size 5 wq (.slice xo M xc) zs ∧ w9.grownBy wq (Value.slice xo M xc).ownBlock) (fun i _ => M - (intOf i).toNat)
      case atStart => exact ⟨0, lebs xs, Nat.zero_le _, rfl, HM.out.symm, hown89, World.grownBy.refl _ _⟩
      case round =>
        clear hown89
        obtain ⟨k, zs, hk, rfl, hzl, hown, hgr⟩ := hrel
        by_cases hlt : k < M
        · obtain ⟨g, off, rfl, hg, hc⟩ := hown.at_ k (by omega)
          obtain ⟨c1, f1⟩ := hc 0 (by decide)
          have hst := hown.store k (by omega) 9
          have e1 : off + (k * eU8.size + 0) = off + k := by simp [eInt]
          rw [e1] at c1 f1
          have c1' : wr.cell? ⟨g, off + k, none⟩ = some (.int .u8 zs[k]) := by rw [c1]; rfl
          have hst' : Ow eU8 w7.heap.size 5 (wr.setCell ⟨g, off + k, none⟩ (.int .u8 9)) (.slice (some ⟨g, off, none⟩) M xc) (zs.set k 9) := by
            have e2 : off + k * eU8.size = off + k := by simp [eInt]
            rw [e2] at hst; exact hst
          have hgr' := hgr.trans (grownBy_store wr g (off + k) (.int .u8 9))
          have hzl' : (zs.set k 9).length = M := by simp [hzl]
          generalize zs.set k 9 = zs' at hst' hzl'
          generalize zs[k] = z at c1'
          clear hst c1 hc e1 hown hgr
          go_wp2_with fail
          go_roundw
          case rel => exact ⟨k + 1, zs', by omega, by go_num, hzl', hst', hgr'⟩
          case measure => simp [intOf]; omega
        · have hbq := hb9'.grown hgr hszw9 (fun j hj => by have := (hlt8 j hj).1; omega)
          have hszq := hbq.size
          have hneq : (Value.slice yo M yc).ownBlock = none ∨ (Value.slice yo M yc).ownBlock ≠ (Value.slice xo M xc).ownBlock := by
            cases hz : (Value.slice yo M yc).ownBlock with
            | none => exact .inl rfl
            | some j => right; intro h; have h1 := hlt9 j hz; have h2 := (hlt8 j h.symm).2; omega
          have hownq := hown9.grown hgr hneq
          have hsz7q : w7.heap.size ≤ wr.heap.size := by have := hgr.size; omega
          have hln : (zs.length + [(1 : Int), 2, 3].length) = M + 3 := by rw [hzl]; rfl
          rw [← hzl] at hown
          have hzx : (Value.slice xo M xc) = (Value.slice xo zs.length xc) := by rw [hzl]
          have HZX := Lib.hid hzx
          clear hzx hown9 hb9' hlt9
          rw [hzl] at hown
          go_wp2_with (at_builtin; refine wl_append (E := eU8) rfl _ (.tmp 76) _ rfl w7.heap.size 5 1 sliceU8 _ zs rfl (hown.alloc _) _ [1, 2, 3] rfl (rd_lit wr _ _ _ _ rfl rfl (by simp [maxLen])) (by rw [hln]; omega) (by unfold maxLen; rw [hln]; omega) (by simp; omega) ?_)
          intro v10 w10 hown10 hgrow10 _ _
          have hb10 := (hbq.alloc hszq (.cells #[.int .u8 1, .int .u8 2, .int .u8 3] 5)).grown hgrow10 (by simp; omega) (fun j hj => by have := (hlt8 j hj).1; omega)
          have hown9q := (hownq.alloc (.cells #[.int .u8 1, .int .u8 2, .int .u8 3] 5)).grown hgrow10 hneq
          obtain ⟨o10, c10, rfl⟩ := hown10.len
          have hl10 : (zs ++ [(1 : Int), 2, 3]).length = M + 3 := by simp [hzl]
          rw [hl10]
          have hr9 := hown9q.rd
          have hq3 : (((M + 3 : Nat) : Int) == ((M : Nat) : Int) + 3) = true := by simp
          clear hgrow10 hown hownq hown10 hgr hown9q hlt8 hneq
          go_wp2_with fail
          refine (refPuts_any xs vx w10 (hvx.grow hb10) HX.out (by omega)).mono ?_
          rintro e w11 ⟨v11, rfl, hown11, hb11⟩
          have hb11' := bthen hb10 hb11
          have hr9' := hr9.grow hb11
          clear hr9
          go_wp2_with fail
          refine (same_bel (lebs xs) _ _ w11 hr9' hown11.rd).mono ?_
          rintro e w12 ⟨rfl, hb12⟩
          have hb12' := bthen hb11' hb12
          clear hr9' hown11 hb12 hb11 hb10 hbq
          go_wp2_with fail
          go_ret
          exact ⟨rfl, hb12'⟩
end Go.Proofs.Ytncppfoodjgpkaa
