/- The laws LebGets and LebAlls: their walks. -/
import Derived.Test.YtncppfoodjgpkaaLebAwake
namespace Go.Proofs.Ytncppfoodjgpkaa
open Go.RowKit
set_option linter.unusedVariables false

set_option maxHeartbeats 400000 in
theorem lebAlls_any (b : List Int) (v : Value) (w : World) (hv : Rd (eInt .u8) w v b) (hl : b.length ≤ 1048576) (hwf : ∀ x ∈ b, (Lit.int .u8 x).wf = true) :
    Calls Try.prog 7 #[v] w fun e w' => e = .returned (.bool true) ∧ Below w.heap.size w w' := by
  have HW : Hid (∀ x ∈ b, 0 ≤ x ∧ x ≤ 255) := fun x hx => bounds_u8 (hwf x hx)
  clear hwf
  go_enter Try.func7, Try.ntmps7
  go_wp2_with fail
  refine (awake_any _).mono ?_
  rintro e w1 ⟨rfl, hb1⟩
  go_wp2_with fail
  refine (all_any b v w1 (hv.grow hb1) HW.out (by omega)).mono ?_
  rintro e w2 ⟨v2, rfl, hown2, hb2⟩
  have hb2' := bthen hb1 hb2
  go_wp2_with fail
  refine (refAll_any b v w2 (hv.grow hb2') HW.out (by omega)).mono ?_
  rintro e w3 ⟨v3, rfl, hown3, hb3⟩
  have hb3' := bthen hb2' hb3
  have hr2 := (hown2.grow hb3).rd
  have hr3 := hown3.rd
  clear hb1 hb2 hb3 hown2 hown3 hb2'
  go_wp2_with fail
  refine (numbers_bel _ v2 v3 w3 hr2 hr3).mono ?_
  rintro e w4 ⟨rfl, hb4⟩
  have hb4' := bthen hb3' hb4
  go_wp2_with fail
  go_ret
  exact ⟨rfl, hb4'⟩

theorem unzz_zero : unzz 0 = 0 := by decide

set_option maxRecDepth 100000 in
set_option maxHeartbeats 2000000 in
theorem lebGets_any (b : List Int) (v : Value) (w : World) (hv : Rd (eInt .u8) w v b) (hl : b.length * 1 ≤ 140737488351232) (hwf : ∀ x ∈ b, (Lit.int .u8 x).wf = true) :
    Calls Try.prog 4 #[v] w fun e w' => e = .returned (.bool true) ∧ Below w.heap.size w w' := by
  have HW : Hid (∀ x ∈ b, 0 ≤ x ∧ x ≤ 255) := fun x hx => bounds_u8 (hwf x hx)
  clear hwf
  obtain ⟨ao, ca, rfl⟩ : ∃ ao ca, v = .slice ao b.length ca := by obtain ⟨_, a, c, h, _⟩ := hv; exact ⟨a, c, h⟩
  have hcap : b.length ≤ ca := by
    obtain ⟨_, a', c', he, h1, _⟩ := hv
    have hcc : ca = c' := by simp at he; exact he.2
    omega
  go_enter Try.func4, Try.ntmps4
  go_wp2_with fail
  refine (awake_any _).mono ?_
  rintro e w1 ⟨rfl, hb1⟩
  have hv1 := hv.grow hb1
  clear hv
  go_wp2_with fail
  go_loop [3, 4, 5, 6, 7, 8, 9, 10] (fun i _ _ _ _ _ _ _ => ∃ k : Nat, k ≤ b.length + 1 ∧ k ≤ 40 ∧ i = .int .i64 k) (fun i _ _ _ _ _ _ _ => 40 - (intOf i).toNat)
  case atStart => exact ⟨0, by omega, by omega, rfl⟩
  case round =>
    obtain ⟨k, hk, hk40, rfl⟩ := hrel
    by_cases hlt : k ≤ b.length ∧ k < 40
    · obtain ⟨hkl, hk4⟩ := hlt
      have hrs := hv1.sliced k k (by simp [eInt]) hkl
      obtain ⟨d, hd⟩ : ∃ d, d = b.drop k := ⟨_, rfl⟩
      have hdb : ∀ x ∈ d, 0 ≤ x ∧ x ≤ 255 := by rw [hd]; exact drop_bytes HW.out k
      rw [← hd] at hrs
      have hrng := get1_range d hdb
      have hz := get1_err d
      have key : ∀ (sv : Value), sv = .slice (if ca = k then ao else Option.map (fun x => x.add k) ao) (b.length - k) (ca - k) → ∃ n wd er : Int, (er = 0 ∨ er ≠ 0 ∧ n = 0) ∧ (0 ≤ n ∧ n ≤ 18446744073709551615) ∧
          Calls Try.prog 14 #[sv] w1 (fun e w' => e = .returned (.tuple #[.int .u64 n, .int .i64 wd, .int .i64 er]) ∧ w1 = w') ∧
          Calls Try.prog 15 #[sv] w1 (fun e w' => e = .returned (.tuple #[.int .u64 n, .int .i64 wd, .int .i64 er]) ∧ w1 = w') ∧
          Calls Try.prog 16 #[sv] w1 (fun e w' => e = .returned (.tuple #[.int .i64 (unzz n), .int .i64 wd, .int .i64 er]) ∧ w1 = w') := by
        rintro sv rfl
        refine ⟨(get1 d).1, (get1 d).2.1, (get1 d).2.2, ?_, hrng.1, get_any d _ w1 hrs hdb, refGet_any d _ w1 hrs hdb, getInt_any d _ w1 hrs hdb⟩
        rcases hz with h | h | h
        · exact .inl h
        · right; rw [h]; simp
        · right; rw [h]; simp
      clear hrs hd hdb hrng hz
      have huz := unzz_zero
      by_cases h1 : k < b.length
      · obtain ⟨n, wd, er, hor, hn, hg, hrg, hgi⟩ := key _ rfl
        rw [if_neg (by omega)] at hg hrg hgi
        have HG := Lib.hid hg
        have HRG := Lib.hid hrg
        have HGI := Lib.hid hgi
        have hback := back_any n w1 hn.1 hn.2
        have HBK := Lib.hid hback
        clear hg hrg hgi key hback
        rcases hor with rfl | ⟨he, rfl⟩
        · go_wp2_with fail
          refine HG.out.mono ?_
          rintro e w' ⟨rfl, rfl⟩
          go_wp2_with fail
          refine HRG.out.mono ?_
          rintro e w' ⟨rfl, rfl⟩
          go_wp2_with fail
          refine HGI.out.mono ?_
          rintro e w' ⟨rfl, rfl⟩
          go_wp2_with fail
          refine HBK.out.mono ?_
          rintro e w' ⟨rfl, rfl⟩
          go_wp2_with fail
          go_round
          case rel => exact ⟨k + 1, by omega, by omega, by go_num⟩
          case measure => simp [intOf]; omega
        · have he1 : (er == 0) = false := by simpa using he
          have he2 : (er != 0) = true := by simpa using he
          clear he
          go_wp2_with fail
          refine HG.out.mono ?_
          rintro e w' ⟨rfl, rfl⟩
          go_wp2_with fail
          refine HRG.out.mono ?_
          rintro e w' ⟨rfl, rfl⟩
          go_wp2_with fail
          refine HGI.out.mono ?_
          rintro e w' ⟨rfl, rfl⟩
          go_wp2_with fail
          go_round
          case rel => exact ⟨k + 1, by omega, by omega, by go_num⟩
          case measure => simp [intOf]; omega
      · have hke : k = b.length := by omega
        subst hke
        by_cases h2 : ca = b.length
        · subst h2
          obtain ⟨n, wd, er, hor, hn, hg, hrg, hgi⟩ := key (.slice ao 0 0) (by simp)
          have HG := Lib.hid hg
          have HRG := Lib.hid hrg
          have HGI := Lib.hid hgi
          have hback := back_any n w1 hn.1 hn.2
          have HBK := Lib.hid hback
          clear hg hrg hgi key hback
          rcases hor with rfl | ⟨he, rfl⟩
          · go_wp2_with fail
            refine HG.out.mono ?_
            rintro e w' ⟨rfl, rfl⟩
            go_wp2_with fail
            refine HRG.out.mono ?_
            rintro e w' ⟨rfl, rfl⟩
            go_wp2_with fail
            refine HGI.out.mono ?_
            rintro e w' ⟨rfl, rfl⟩
            go_wp2_with fail
            refine HBK.out.mono ?_
            rintro e w' ⟨rfl, rfl⟩
            go_wp2_with fail
            go_round
            case rel => exact ⟨b.length + 1, by omega, by omega, by go_num⟩
            case measure => simp [intOf]; omega
          · have he1 : (er == 0) = false := by simpa using he
            have he2 : (er != 0) = true := by simpa using he
            clear he
            go_wp2_with fail
            refine HG.out.mono ?_
            rintro e w' ⟨rfl, rfl⟩
            go_wp2_with fail
            refine HRG.out.mono ?_
            rintro e w' ⟨rfl, rfl⟩
            go_wp2_with fail
            refine HGI.out.mono ?_
            rintro e w' ⟨rfl, rfl⟩
            go_wp2_with fail
            go_round
            case rel => exact ⟨b.length + 1, by omega, by omega, by go_num⟩
            case measure => simp [intOf]; omega
        · have h2' : ¬ ca = b.length := h2
          obtain ⟨n, wd, er, hor, hn, hg, hrg, hgi⟩ := key (.slice (Option.map (fun x => x.add b.length) ao) 0 (ca - b.length)) (by rw [if_neg h2]; simp)
          have HG := Lib.hid hg
          have HRG := Lib.hid hrg
          have HGI := Lib.hid hgi
          have hback := back_any n w1 hn.1 hn.2
          have HBK := Lib.hid hback
          clear hg hrg hgi key hback
          rcases hor with rfl | ⟨he, rfl⟩
          · go_wp2_with fail
            refine HG.out.mono ?_
            rintro e w' ⟨rfl, rfl⟩
            go_wp2_with fail
            refine HRG.out.mono ?_
            rintro e w' ⟨rfl, rfl⟩
            go_wp2_with fail
            refine HGI.out.mono ?_
            rintro e w' ⟨rfl, rfl⟩
            go_wp2_with fail
            refine HBK.out.mono ?_
            rintro e w' ⟨rfl, rfl⟩
            go_wp2_with fail
            go_round
            case rel => exact ⟨b.length + 1, by omega, by omega, by go_num⟩
            case measure => simp [intOf]; omega
          · have he1 : (er == 0) = false := by simpa using he
            have he2 : (er != 0) = true := by simpa using he
            clear he
            go_wp2_with fail
            refine HG.out.mono ?_
            rintro e w' ⟨rfl, rfl⟩
            go_wp2_with fail
            refine HRG.out.mono ?_
            rintro e w' ⟨rfl, rfl⟩
            go_wp2_with fail
            refine HGI.out.mono ?_
            rintro e w' ⟨rfl, rfl⟩
            go_wp2_with fail
            go_round
            case rel => exact ⟨b.length + 1, by omega, by omega, by go_num⟩
            case measure => simp [intOf]; omega
    · go_wp2_with fail
      all_goals
        go_ret
        exact ⟨rfl, hb1⟩
end Go.Proofs.Ytncppfoodjgpkaa
