/- ops: awake. -/
import Derived.Test.YtjmjmgemhkjomaaDoorOpsWrites
import Derived.Test.YtjmjmgemhkjomaaDoorOpsFind
import Derived.Test.YtjmjmgemhkjomaaDoorOpsName
namespace Go.Proofs.YtjmjmgemhkjomaaDoor
open Go.RowKit
set_option linter.unusedVariables false
set_option linter.unusedSimpArgs false

theorem FormsB.only {w w' : World} (h : FormsB w) (ho : Only (fun _ => False) w w') : FormsB w' := by
  obtain ⟨cs, ty, fr, hb, hr⟩ := h
  exact ⟨cs, ty, fr, ho.heap hb (fun h => h), hr⟩

set_option maxHeartbeats 2000000 in
theorem awake_any (w : World) (hF : FormsB w) :
    Calls Tryd.prog 7 #[] w fun e w' => e = .returned (.bool true) ∧ Only (fun _ => False) w w' := by
  have HF := Lib.hid hF
  clear hF
  have HFind := Lib.hid (show Calls Tryd.prog 8 #[.string ⟨#[101, 120, 105, 116]⟩] w fun e w' => e = .returned (.tuple #[.int .i64 22, .bool true]) ∧ Only (fun _ => False) w w' from by
    have := find_any ⟨#[101, 120, 105, 116]⟩ w HF.out
    rw [show findR ⟨#[101, 120, 105, 116]⟩ = (22, true) by decide +kernel] at this
    exact this)
  go_enter Tryd.func7, Tryd.ntmps7
  go_wp2_with fail
  refine HFind.out.mono ?_
  rintro e w1 ⟨rfl, ho⟩
  have HO1 := Lib.hid ho
  clear ho
  go_wp2_with fail
  refine (goes_awake _ (HF.out.only HO1.out).forms).mono ?_
  rintro e w2 ⟨rfl, ho⟩
  have HO2 := Lib.hid (HO1.out.tr ho)
  clear ho
  go_wp2_with fail
  refine (name_in 18 [106, 108, 116] [106, 97, 115] _ (by decide) (HF.out.only HO2.out).forms rfl).mono ?_
  rintro e w3 ⟨rfl, ho⟩
  have HO3 := Lib.hid (HO2.out.tr ho)
  clear ho
  go_wp2_with fail
  have HR := Lib.hid (rightAll_any [(0, 3, 0, 8, -5)] _ _ (Rd.lit w3 #[.int .i64 0, .int .i64 3, .int .i64 0, .int .i64 8, .int .i64 (-5)] 34 (0, 0) 1 1 [(0, 3, 0, 8, -5)] rfl rfl (by simp) (by simp [maxLen])) ((HF.out.only HO3.out).forms.only (Only.alloc _ _ _)))
  rw [show allP [(0, 3, 0, 8, -5)] = true by decide +kernel] at HR
  refine HR.out.mono ?_
  rintro e w4 ⟨rfl, ho⟩
  go_wp2_with fail
  go_ret
  exact ⟨rfl, (HO3.out.tr (Only.alloc _ _ _)).tr ho⟩
end Go.Proofs.YtjmjmgemhkjomaaDoor
