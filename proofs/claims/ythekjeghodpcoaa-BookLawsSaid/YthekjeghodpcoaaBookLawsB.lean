/- The law BookLaws: no book. -/
import Derived.Test.YthekjeghodpcoaaBookKey
import Derived.Deep.RegionHeld3
namespace Go.Proofs.Ythekjeghodpcoaa
open Go.RowKit
set_option linter.unusedVariables false
set_option linter.unusedSimpArgs false

set_option maxRecDepth 100000 in
set_option maxHeartbeats 4000000 in
theorem bookLaws_bad (cap : Int) (v : Value) (key : Int) (w : World) (h : cap < 1 ∨ 16 < cap) :
    Calls Try.prog 3 #[.int .i64 cap, v, .int .u64 key] w fun e w' => e = .returned (.bool true) ∧ Below w.heap.size w w' := by
  go_enter Try.func3, Try.ntmps3
  go_wp2_with fail
  refine (awake_any _).mono ?_
  rintro e w1 ⟨rfl, hb1⟩
  go_wp2_with fail
  refine (new_bad cap _ h).mono ?_
  rintro e w2 ⟨rfl, ho⟩
  have HB := Lib.hid (hb1.trans (ho.below (B := w.heap.size) hb1.size (fun _ h => h.elim)))
  clear hb1 ho
  go_wp2_with fail
  go_ret
  exact ⟨rfl, HB.out⟩

end Go.Proofs.Ythekjeghodpcoaa
