/- cmap: New where it answers nil. -/
import Derived.Test.YthppleegiieneaaCMapBatch
namespace Go.Proofs.Ythppleegiieneaa
open Go.RowKit
set_option linter.unusedVariables false
set_option linter.unusedSimpArgs false

set_option maxRecDepth 100000 in
set_option maxHeartbeats 4000000 in
theorem cmapNew_badD (kind cap n : Int) (w : World) (h1 : 1 ≤ n) (h2 : n ≤ 4) (h : okDef kind cap = false) :
    Calls Try.prog 13 #[.agg #[.int .i64 kind, .int .i64 cap], .int .i64 n] w fun e w' => e = .returned (.tuple #[.pointer none, .int .i64 2]) ∧ Only (fun _ => False) w w' := by
  have HOK := Lib.hid h
  have hn1 : ¬ n < 1 := by omega
  clear h
  go_enter Try.func13, Try.ntmps13
  go_wp2_with fail
  have h2' : (w.alloc (defO kind cap)).heap[w.heap.size]? = some (defO kind cap) := heap_alloc_new _ _
  have HB := Lib.hid (show Upd (Blk w.heap.size (defO kind cap)) (fun _ => False) w ((w.alloc (defO kind cap)).alloc (.cells (mapC kind cap (.slice none 0 0)) 87 (0, 0))) from ⟨⟨(Only.alloc (fun _ => False) _ _).heap h2' (fun h => h), .inr (Nat.le_refl _)⟩, (Only.alloc _ _ _).tr (Only.alloc _ _ _)⟩)
  clear h2'
  generalize w.heap.size + 1 = m at *
  generalize World.alloc (w.alloc _) _ = wa at *
  generalize w.heap.size = bd at *
  go_loopw [19, 7, 8] (fun t19 _ _ wr => t19 = .int .i64 0 ∧ Hid (Upd (Blk bd (defO kind cap)) (fun _ => False) w wr)) (fun _ _ _ _ => 0)
  case atStart => exact ⟨rfl, HB⟩
  case round =>
    clear HB
    obtain ⟨rfl, V⟩ := hrel
    have h0 : (0 : Int) < n := by omega
    have c0 : wr.cell? ⟨bd, 0, none⟩ = some (.int .i64 kind) := blk_cell V.out.1.1 0
    have c1 : wr.cell? ⟨bd, 1, none⟩ = some (.int .i64 cap) := blk_cell V.out.1.1 1
    go_wp2_with fail
    refine (V.out.callRead Blk.framed (E := fun e => e = .returned (.tuple #[.nilIface, .int .i64 2])) (make_bad kind cap wr HOK.out)).mono ?_
    rintro e w2 ⟨rfl, hB2⟩
    have HB2 := Lib.hid hB2
    clear hB2 c0 c1 V
    go_wp2_with fail
    go_ret2
    exact ⟨rfl, HB2.out.2⟩
theorem cmapNew_bad (kind cap n : Int) (w : World) (h : ¬ ((1 ≤ n ∧ n ≤ 4) ∧ okDef kind cap = true)) :
    Calls Try.prog 13 #[.agg #[.int .i64 kind, .int .i64 cap], .int .i64 n] w fun e w' => e = .returned (.tuple #[.pointer none, .int .i64 2]) ∧ Only (fun _ => False) w w' := by
  by_cases hn : 1 ≤ n ∧ n ≤ 4
  · refine cmapNew_badD kind cap n w hn.1 hn.2 ?_
    cases hk : okDef kind cap
    · rfl
    · exact (h ⟨hn, hk⟩).elim
  · exact cmapNew_badN kind cap n w (by omega)
end Go.Proofs.Ythppleegiieneaa
