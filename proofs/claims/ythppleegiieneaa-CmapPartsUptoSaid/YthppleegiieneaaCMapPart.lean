/- cmap: Def, Part. -/
import Derived.Test.YthppleegiieneaaCMapLen
namespace Go.Proofs.Ythppleegiieneaa
open Go.RowKit
set_option linter.unusedVariables false
set_option linter.unusedSimpArgs false

section
variable {m : Nat} {kind cap : Int} {al : List ShA} {ss : List Sh} {T : Nat → Prop} {w : World}
set_option maxHeartbeats 1000000 in
theorem cmapDef_ (hT : MapS m kind cap al ss T w) :
    Calls Try.prog 19 #[.pointer (some ⟨m, 0, none⟩)] w fun e w' => e = .returned (.agg #[.int .i64 kind, .int .i64 cap]) ∧ Only (fun _ => False) w w' := by
  obtain ⟨v, hV⟩ := hT.named
  obtain ⟨hg, _⟩ := hV.own
  have c0 : w.cell? ⟨m, 0, none⟩ = some (.int .i64 kind) := blk_cell hg 0
  have c1 : w.cell? ⟨m, 1, none⟩ = some (.int .i64 cap) := blk_cell hg 1
  have d0 := only_cell (Only.alloc _ w (defO 0 0)) c0
  have d1 := only_cell (Only.alloc _ w (defO 0 0)) c1
  clear hT hV hg c0 c1
  go_enter Try.func19, Try.ntmps19
  go_wp2_with fail
  refine bodyPost_ret (results_cell_row rfl _ _ w.heap.size _ _ _ _ rfl (heap_alloc_new w (defO kind cap)) Try.underlying24 rfl (by kernel_rfl)) rfl ?_
  exact ⟨rfl, Only.alloc _ _ _⟩
set_option maxHeartbeats 1000000 in
theorem cmapPart_bad (hT : MapS m kind cap al ss T w) (G : MGood kind cap al ss) (s : Int) (h : s < 0 ∨ (al.length : Int) ≤ s) :
    Calls Try.prog 16 #[.pointer (some ⟨m, 0, none⟩), .int .i64 s] w fun e w' => e = .returned (.tuple #[.slice none 0 0, .int .i64 2]) ∧ Only (fun _ => False) w w' := by
  obtain ⟨v, hV⟩ := hT.named
  obtain ⟨sb, off, c, rfl⟩ := hV.shape (by have := G.n1; omega)
  obtain ⟨c0, -⟩ := hV.slot (i := 0) (by have := G.n1; omega)
  clear hT hV
  rcases h with h | h
  · go_enter Try.func16, Try.ntmps16
    go_wp2_with fail
    go_ret2
    exact ⟨rfl, Only.refl _ _⟩
  · have h0 : 0 ≤ s := by omega
    go_enter Try.func16, Try.ntmps16
    go_wp2_with fail
    go_ret2
    exact ⟨rfl, Only.refl _ _⟩
set_option maxRecDepth 100000 in
set_option maxHeartbeats 1000000 in
theorem cmapPart_ok (hT : MapS m kind cap al ss T w) (G : MGood kind cap al ss) (i : Nat) (h : i < ss.length) :
    Calls Try.prog 16 #[.pointer (some ⟨m, 0, none⟩), .int .i64 i] w fun e w' => ∃ v', e = .returned (.tuple #[v', .int .i64 0]) ∧ OwS ePair 65 (fun k => w.heap.size ≤ k) w' v' ss[i].1 ∧ Only (fun _ => False) w w' := by
  obtain ⟨v, hV⟩ := hT.named
  obtain ⟨sb, off, c, rfl⟩ := hV.shape (by have := G.n1; omega)
  have h1 : i < al.length := by rw [G.len]; exact h
  obtain ⟨c0, c1⟩ := hV.slot h1
  obtain ⟨A, hA, -⟩ := hV.at G.len i h1 h
  have HG := Lib.hid (G.good _ (List.getElem_mem h))
  have hi0 : (0 : Int) ≤ (i : Int) := by omega
  have hi1 : (i : Int) < (al.length : Int) := by omega
  clear hT hV G
  cases hai : al[i] with
  | plain b =>
    rw [hai] at c1 hA
    have hcm := cm_book_pairs b
    have HL := Lib.hid (shPairs_plain hA HG.out)
    replace c1 : w.cell? ⟨sb, off + i, none⟩ = some (.iface 67 (.pointer (some ⟨b, 0, none⟩))) := c1
    clear hA
    go_enter Try.func16, Try.ntmps16
    go_wp2_with fail
    refine HL.out.mono ?_
    rintro e w1 ⟨v', rfl, hv, ho⟩
    go_wp2_with fail
    go_ret2
    exact ⟨_, rfl, hv, ho⟩
  | bound g b =>
    rw [hai] at c1 hA
    have HP := Lib.hid hA.ptr
    have HL := Lib.hid (shPairs_bound hA HG.out)
    replace c1 : w.cell? ⟨sb, off + i, none⟩ = some (.iface 70 (.pointer (some ⟨g, 0, none⟩))) := c1
    clear hA
    go_enter Try.func16, Try.ntmps16
    go_wp2_with fail
    rw [cm_lru_n g b w HP.out "Pairs" 55 (by kernel_rfl) (by kernel_rfl)]
    go_wp2_with fail
    refine HL.out.mono ?_
    rintro e w1 ⟨v', rfl, hv, ho⟩
    go_wp2_with fail
    go_ret2
    exact ⟨_, rfl, hv, ho⟩
end
end Go.Proofs.Ythppleegiieneaa
