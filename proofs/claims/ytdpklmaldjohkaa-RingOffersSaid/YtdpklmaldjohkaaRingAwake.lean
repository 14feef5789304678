/- Layer 16: the law's own first look. -/
import Derived.Test.YtdpklmaldjohkaaRing3
namespace Go.Proofs.Ytdpklmaldjohkaa
open Go.RowKit
set_option linter.unusedVariables false

set_option maxHeartbeats 1000000 in
theorem awake_any (w : World) : Calls Try.prog 7 #[] w fun e w' => e = .returned (.bool true) ∧ Below w.heap.size w w' := by
  go_enter Try.func7, Try.ntmps7
  go_wp2_with fail
  refine (new_any 2 w.heap.size _ (by decide) (by decide)).mono ?_
  rintro e w1 ⟨rfl, hR, hO, hs⟩
  have hN : Num w.heap.size w.heap.size (w.alloc (.cells #[.int .i64 0] 30)) 0 := ⟨Nat.le_refl _, heap_alloc_new w _⟩
  have hN1 := hN.only hO (fun h => h)
  have hs0 : (w.alloc (.cells #[.int .i64 0] 30)).heap.size = w.heap.size + 1 := by simp
  have hR1 : Ring w.heap.size (w.heap.size + 1) w.heap.size w1 2 false (.slice none 0 0) [] 0 0 0 0 := by
    rw [hs0] at hR
    exact ⟨by omega, hR.2.1, hR.2.2.mono (by omega)⟩
  have hO1 : Only (fun _ => False) w w1 := (Only.alloc _ w _).trans hO (fun _ _ h => h)
  have hb : w.heap.size ≤ w1.heap.size := hO1.size
  clear hR hO hs hN
  go_wp2_with fail
  refine (accept_ok _ _ _ 2 0 _ [] 0 0 0 0 w1 hR1 hN1 hb 1 1 (by decide) (by decide) (by decide) (by decide) (by decide) (by decide)).mono ?_
  rintro e w2 ⟨rfl, v2, hR2, hN2, hf2, hO2⟩
  go_wp2_with fail
  refine (take_cons _ _ _ 2 false v2 (1, 1, 1) [] 1 0 0 0 w2 hR2 (by decide) (by decide)).mono ?_
  rintro e w3 ⟨rfl, v3, hR3, hf3, hO3⟩
  have hB1 := hO1.below (Nat.le_refl _) (fun _ h => h.elim)
  have hB2 : Below w.heap.size w1 w2 := hO2.below hb (by rintro k (h | h | h) <;> simp_all [Value.ownBlock])
  have hB3 : Below w.heap.size w2 w3 := hO3.below (by have := hO2.size; omega) (by rintro k rfl; omega)
  have hB := (hB1.trans hB2).trans hB3
  clear hB1 hB2 hB3 hO1 hO2 hO3 hR1 hN1 hR2 hN2 hf2 hR3 hf3
  unfold qV
  go_wp2_with fail
  go_ret
  exact ⟨rfl, hB.alloc (by have := hB.size; omega) _⟩
end Go.Proofs.Ytdpklmaldjohkaa
