/- Layer 16: the document's Counts; Offer. -/
import Derived.Test.YtdpklmaldjohkaaRing4
import Derived.Test.YtdpklmaldjohkaaQueued
namespace Go.Proofs.Ytdpklmaldjohkaa
open Go.RowKit
set_option linter.unusedVariables false

def refCts (T : Nat) (refused : Int) (closed : Bool) (all : List Qd) : Cts :=
  ((all.length : Int), refused, (T : Int), if closed then (all.length : Int) - T else 0, if closed then 0 else (all.length : Int) - T)
set_option maxHeartbeats 2000000 in
theorem refCounts_any (g : Nat) (room : Int) (T : Nat) (refused : Int) (closed : Bool) (all : List Qd) (S : Nat → Prop) (w : World) (H : RefR g room T refused closed all S w) (hT : T ≤ all.length) (hl : all.length ≤ 1000000000000000) :
    Calls Try.prog 20 #[.pointer (some ⟨g, 0, none⟩)] w fun e w' => e = .returned (refCts T refused closed all).v ∧ Only (fun _ => False) w w' := by
  obtain ⟨v, hg, hown, hS, hv⟩ := H
  have hvl : ∃ ao cap, v = .slice ao all.length cap := by obtain ⟨_, ao, cap, rfl, _⟩ := hown; exact ⟨ao, cap, rfl⟩
  obtain ⟨ao, cap, rfl⟩ := hvl
  have c1 : w.cell? ⟨g, 1, none⟩ = some (.int .i64 (T : Int)) := blk_cell hg 1
  have c2 : w.cell? ⟨g, 2, none⟩ = some (.int .i64 refused) := blk_cell hg 2
  have c3 : w.cell? ⟨g, 3, none⟩ = some (.bool closed) := blk_cell hg 3
  have c4 : w.cell? ⟨g, 4, none⟩ = some (.slice ao all.length cap) := blk_cell hg 4
  have hlg := heap_lt hg
  have hne : ¬ g = w.heap.size := by omega
  have hne1 : ¬ g = w.heap.size + 1 := by omega
  have hne2 : ¬ w.heap.size = g := by omega
  have hne3 : ¬ w.heap.size + 1 = g := by omega
  clear hg hown hv
  have hw : IntKind.i64.wrap ((all.length : Int) - T) = (all.length : Int) - T := IntWalk.i64_in _ ⟨by omega, by omega⟩
  cases closed
  · go_enter Try.func20, Try.ntmps20
    go_wp2_with fail
    go_region_held3 (fun w' => w'.cell? ⟨g, 1, none⟩ = some (.int .i64 (T : Int)) ∧ w'.cell? ⟨g, 2, none⟩ = some (.int .i64 refused) ∧ w'.cell? ⟨g, 4, none⟩ = some (.slice ao all.length cap)) (go_keep) (fail)
    all_goals go_wp2_with fail
    all_goals go_region_held3 (fun w' => w'.cell? ⟨g, 1, none⟩ = some (.int .i64 (T : Int)) ∧ w'.cell? ⟨g, 4, none⟩ = some (.slice ao all.length cap)) (go_keep) (fail)
    all_goals go_wp2_with fail
    all_goals
      try simp only [Exit.inBlock, Exit.then]
      refine bodyPost_ret (results_cell_row rfl _ _ w.heap.size _ _ _ _ rfl (heap_alloc2_old w _ _) Try.underlying55 rfl (by kernel_rfl)) rfl ?_
      exact ⟨rfl, ((Only.alloc _ _ _).tr (Only.alloc _ _ _)).drew_.drew_⟩
  · go_enter Try.func20, Try.ntmps20
    go_wp2_with fail
    go_region_held3 (fun w' => w'.cell? ⟨g, 1, none⟩ = some (.int .i64 (T : Int)) ∧ w'.cell? ⟨g, 2, none⟩ = some (.int .i64 refused) ∧ w'.cell? ⟨g, 4, none⟩ = some (.slice ao all.length cap)) (go_keep) (fail)
    all_goals go_wp2_with fail
    all_goals go_region_held3 (fun w' => w'.cell? ⟨g, 1, none⟩ = some (.int .i64 (T : Int)) ∧ w'.cell? ⟨g, 4, none⟩ = some (.slice ao all.length cap)) (go_keep) (fail)
    all_goals go_wp2_with fail
    all_goals
      try simp only [Exit.inBlock, Exit.then]
      refine bodyPost_ret (results_cell_row rfl _ _ w.heap.size _ _ _ _ rfl (heap_alloc2_old w _ _) Try.underlying55 rfl (by kernel_rfl)) rfl ?_
      exact ⟨rfl, ((Only.alloc _ _ _).tr (Only.alloc _ _ _)).drew_.drew_⟩

set_option maxHeartbeats 1000000 in
theorem offer_nil (g : Nat) (w : World) :
    Calls Try.prog 21 #[.pointer (some ⟨g, 0, none⟩), .slice none 0 0] w fun e w' => e = .returned (.slice none 0 0) ∧ w = w' := by
  go_enter Try.func21, Try.ntmps21
  go_wp2_with fail
  go_loop [5, 7, 8, 9, 12] (fun v _ _ _ i => v = .slice none 0 0 ∧ i = .int .i64 0) (fun _ _ _ _ _ => 0)
  case atStart => exact ⟨rfl, rfl⟩
  case round =>
    obtain ⟨rfl, rfl⟩ := hrel
    go_wp2_with fail
    go_ret
    exact ⟨rfl, rfl⟩
end Go.Proofs.Ytdpklmaldjohkaa
