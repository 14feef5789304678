/- ops: right. -/
import Derived.Test.YtkocfgaajghggaaDoorOpsSmall
import Derived.Test.YtkocfgaajghggaaDoorOpsOf
import Derived.Deep.RegionHeld3
namespace Go.Proofs.YtkocfgaajghggaaDoor
open Go.RowKit
set_option linter.unusedVariables false
set_option linter.unusedSimpArgs false

/-- an operation's row: its name, its fields -/
theorem row_of (k : Nat) (hk : k < 23) : ∃ nb fb : List UInt8, (rowsOf Rows.laid_tappet_ops_forms)[k]? = some (.agg [.lit (.string nb), .lit (.string fb)]) ∧ fieldsB[k]? = some fb ∧ fb.length ≤ 3 ∧ ∀ c ∈ fb, c ∈ [100, 97, 115, 102, 109, 104, 110, 106, 98] := by
  match k, hk with
  | 0, _ | 1, _ | 2, _ | 3, _ | 4, _ | 5, _ | 6, _ | 7, _ | 8, _ | 9, _ | 10, _ | 11, _ | 12, _ | 13, _ | 14, _ | 15, _ | 16, _ | 17, _ | 18, _ | 19, _ | 20, _ | 21, _ | 22, _ => exact ⟨_, _, rfl, rfl, by decide, by decide⟩
  | n + 23, h' => exact absurd h' (by omega)

theorem cells_of_heap {w : World} {g : Nat} {cs : Array Value} {t : TypeId} {fr : Nat × Nat} (h : w.heap[g]? = some (.cells cs t fr)) (i : Nat) (v : Value) (hv : cs[i]? = some v) : w.cell? ⟨g, i, none⟩ = some v := by
  rw [cell_of_row w g i cs t fr h]; exact hv

theorem Only.drew_ {F : Nat → Prop} {w w' : World} (h : Only F w w') : Only F w w'.drew := ⟨h.os, h.tape, h.output, h.size, h.block⟩
/-- what right's loop holds: the instruction's block, the form's, what is left's -/
structure RState (w : World) (g1 g3 g5 : Nat) (i : In) (nm s : ByteArray) (d a b imm : Int) (wr : World) : Prop where
  h1 : wr.heap[g1]? = some (.cells #[.int .i64 i.op, .int .i64 i.d, .int .i64 i.a, .int .i64 i.b, .int .i64 i.imm] 44 (0, 0))
  h3 : wr.heap[g3]? = some (.cells #[.string nm, .string s] 83 (0, 0))
  h5 : wr.heap[g5]? = some (.cells #[.int .i64 0, .int .i64 d, .int .i64 a, .int .i64 b, .int .i64 imm] 44 (0, 0))
  n1 : g1 ≠ g5
  n3 : g3 ≠ g5
  hw : w.heap.size ≤ g5
  only : Only (fun _ => False) w wr
theorem only_set {w wr : World} {g : Nat} (h : Only (fun _ => False) w wr) (hg : w.heap.size ≤ g) (i : Nat) (v : Value) : Only (fun _ => False) w (wr.setCell ⟨g, i, none⟩ v) :=
  h.trans (G := fun k => k = g) (Only.setCell _ _ _ _ _ rfl) fun j hj e => by omega
theorem RState.setD {w wr : World} {g1 g3 g5 : Nat} {i : In} {nm s : ByteArray} {d a b imm : Int} (h : RState w g1 g3 g5 i nm s d a b imm wr) : RState w g1 g3 g5 i nm s 0 a b imm (wr.setCell ⟨g5, 1, none⟩ (.int .i64 0)) :=
  ⟨heap_setCell_far h.h1 _ _ _ h.n1, heap_setCell_far h.h3 _ _ _ h.n3, heap_setCell_same wr g5 1 _ _ _ h.h5, h.n1, h.n3, h.hw, only_set h.only h.hw _ _⟩
theorem RState.setA {w wr : World} {g1 g3 g5 : Nat} {i : In} {nm s : ByteArray} {d a b imm : Int} (h : RState w g1 g3 g5 i nm s d a b imm wr) : RState w g1 g3 g5 i nm s d 0 b imm (wr.setCell ⟨g5, 2, none⟩ (.int .i64 0)) :=
  ⟨heap_setCell_far h.h1 _ _ _ h.n1, heap_setCell_far h.h3 _ _ _ h.n3, heap_setCell_same wr g5 2 _ _ _ h.h5, h.n1, h.n3, h.hw, only_set h.only h.hw _ _⟩
theorem RState.setB {w wr : World} {g1 g3 g5 : Nat} {i : In} {nm s : ByteArray} {d a b imm : Int} (h : RState w g1 g3 g5 i nm s d a b imm wr) : RState w g1 g3 g5 i nm s d a 0 imm (wr.setCell ⟨g5, 3, none⟩ (.int .i64 0)) :=
  ⟨heap_setCell_far h.h1 _ _ _ h.n1, heap_setCell_far h.h3 _ _ _ h.n3, heap_setCell_same wr g5 3 _ _ _ h.h5, h.n1, h.n3, h.hw, only_set h.only h.hw _ _⟩
theorem RState.setI {w wr : World} {g1 g3 g5 : Nat} {i : In} {nm s : ByteArray} {d a b imm : Int} (h : RState w g1 g3 g5 i nm s d a b imm wr) : RState w g1 g3 g5 i nm s d a b 0 (wr.setCell ⟨g5, 4, none⟩ (.int .i64 0)) :=
  ⟨heap_setCell_far h.h1 _ _ _ h.n1, heap_setCell_far h.h3 _ _ _ h.n3, heap_setCell_same wr g5 4 _ _ _ h.h5, h.n1, h.n3, h.hw, only_set h.only h.hw _ _⟩

/-- the fold so far -/
def FoldIs (i : In) (s : ByteArray) (j : Nat) (ok : Bool) (d a b imm : Int) : Prop := (s.data.toList.take j).foldl (stepf i) i.start = ⟨ok, d, a, b, imm⟩
theorem FoldIs.step {i : In} {s : ByteArray} {j : Nat} {ok : Bool} {d a b imm : Int} (h : FoldIs i s j ok d a b imm) (hj : j < s.size) : (s.data.toList.take (j + 1)).foldl (stepf i) i.start = stepf i ⟨ok, d, a, b, imm⟩ s[j] := by
  rw [List.take_succ_eq_append_getElem (by simpa using hj), List.foldl_append, h]; rfl
theorem FoldIs.next {i : In} {s : ByteArray} {j : Nat} {ok ok' : Bool} {d a b imm d' a' b' imm' : Int} (h : FoldIs i s j ok d a b imm) (hj : j < s.size) (c : UInt8) (hc : s[j] = c) (e : stepf i ⟨ok, d, a, b, imm⟩ c = ⟨ok', d', a', b', imm'⟩) : FoldIs i s (j + 1) ok' d' a' b' imm' := by
  unfold FoldIs; rw [h.step hj, hc]; exact e

set_option maxRecDepth 100000 in
set_option maxHeartbeats 4000000 in
theorem right_in (k : Nat) (hk : k < 23) (d a b imm : Int) (w : World) (hF : Forms w) :
    Calls Tryd.prog 38 #[(In.mk k d a b imm).v] w fun e w' => e = .returned (.bool (rightP ⟨k, d, a, b, imm⟩)) ∧ Only (fun _ => False) w w' := by
  obtain ⟨nb, fb, hrow, hfb, hlen, hmem⟩ := row_of k hk
  have h0 : 0 < w.heap.size := by
    have := (hF k nb fb hrow).1
    exact World.block_lt_of_cell? w _ this
  have hF1 : Forms (w.alloc (.cells #[.int .i64 k, .int .i64 d, .int .i64 a, .int .i64 b, .int .i64 imm] 44)) := hF.below (b := w.heap.size) ((Below.refl _ _).alloc (Nat.le_refl _) _) h0
  have hof := Lib.hid (of_in k nb fb _ hk hF1 hrow)
  have HR := Lib.hid hfb
  have HM := Lib.hid hmem
  clear hF hF1 hrow hfb hmem h0
  go_enter Tryd.func38, Tryd.ntmps38
  go_wp2_with fail
  refine hof.out.mono ?_
  rintro e w1 ⟨rfl, ho⟩
  obtain ⟨nm, hnm⟩ : ∃ nm : ByteArray, nm = ⟨nb.toArray⟩ := ⟨_, rfl⟩
  obtain ⟨s, hsb⟩ : ∃ s : ByteArray, s = ⟨fb.toArray⟩ := ⟨_, rfl⟩
  rw [← hnm, ← hsb]
  have HSB := Lib.hid hsb
  have hs3 : s.size ≤ 3 := by rw [hsb]; show fb.toArray.size ≤ 3; simpa using hlen
  clear hnm hsb
  have hb1 := ho.heap (heap_alloc_new w _) (fun h => h)
  have hz1 : w.heap.size < w1.heap.size := by have := ho.size; simp at this; omega
  have c0 := cells_of_heap hb1 0 (.int .i64 (k : Int)) rfl
  have c1 := cells_of_heap hb1 1 (.int .i64 d) rfl
  have c2 := cells_of_heap hb1 2 (.int .i64 a) rfl
  have c3 := cells_of_heap hb1 3 (.int .i64 b) rfl
  have c4 := cells_of_heap hb1 4 (.int .i64 imm) rfl
  have hz2 : w.heap.size < w1.heap.size + 1 := by omega
  have HST := Lib.hid (show RState w w.heap.size w1.heap.size (w1.heap.size + 1) ⟨k, d, a, b, imm⟩ nm s d a b imm (((w1.alloc (Obj.cells #[.string nm, .string s] 83)).alloc (Obj.cells #[.int .i64 0, .int .i64 d, .int .i64 a, .int .i64 b, .int .i64 imm] 44)).drew) from
    ⟨heap_alloc (heap_alloc hb1), heap_alloc (heap_alloc_new _ _), heap_alloc2_new _ _ _, by omega, by omega, by omega, ((((Only.alloc _ _ _).tr ho).tr (Only.alloc _ _ _)).tr (Only.alloc _ _ _)).drew_⟩)
  clear ho hof hb1
  go_wp2_with fail
  go_region_held3 (fun w' => w'.cell? ⟨w.heap.size, 1, none⟩ = some (.int .i64 d) ∧ w'.cell? ⟨w.heap.size, 2, none⟩ = some (.int .i64 a) ∧ w'.cell? ⟨w.heap.size, 3, none⟩ = some (.int .i64 b) ∧ w'.cell? ⟨w.heap.size, 4, none⟩ = some (.int .i64 imm)) (simp [c1, c2, c3, c4, hz1, hz2, World.cell?_alloc_lt]) (fail)
  go_wp2_with fail
  clear c0 c1 c2 c3 c4
  go_loopw [4, 6, 30] (fun t4 _ t30 wr => ∃ (j : Nat) (ok : Bool) (sd sa sb si : Int), j ≤ s.size ∧ t30 = .int .i64 j ∧ t4 = .bool ok ∧ FoldIs ⟨k, d, a, b, imm⟩ s j ok sd sa sb si ∧ RState w w.heap.size w1.heap.size (w1.heap.size + 1) ⟨k, d, a, b, imm⟩ nm s sd sa sb si wr) (fun _ _ t30 _ => s.size - (intOf t30).toNat)
  case atStart => exact ⟨0, true, d, a, b, imm, by omega, rfl, rfl, rfl, HST.out⟩
  case round =>
    obtain ⟨j, ok, sd, sa, sb, si, hj, rfl, rfl, hf, V⟩ := hrel
    have HF := Lib.hid hf
    have HV := Lib.hid V
    clear hf HST
    have l1 := cells_of_heap V.h1 1 (.int .i64 d) rfl
    have l2 := cells_of_heap V.h1 2 (.int .i64 a) rfl
    have l3 := cells_of_heap V.h1 3 (.int .i64 b) rfl
    have l4 := cells_of_heap V.h1 4 (.int .i64 imm) rfl
    have f1 := cells_of_heap V.h3 1 (.string s) rfl
    have q0 := cells_of_heap V.h5 0 (.int .i64 0) rfl
    have q1 := cells_of_heap V.h5 1 (.int .i64 sd) rfl
    have q2 := cells_of_heap V.h5 2 (.int .i64 sa) rfl
    have q3 := cells_of_heap V.h5 3 (.int .i64 sb) rfl
    have q4 := cells_of_heap V.h5 4 (.int .i64 si) rfl
    have fr : ∀ i, wr.frozen? ⟨w1.heap.size + 1, i, none⟩ = false := fun i => frozen_of_row wr _ i _ _ V.h5
    by_cases hlt : j < s.size
    · have hi0 : (0 : Int) ≤ (j : Int) := by omega
      have hi1 : (j : Int) < s.size := by omega
      have hc : s[j] ∈ [100, 97, 115, 102, 109, 104, 110, 106, 98] := by
        have h1 := HM.out (s[j]'hlt)
        apply h1
        have : s.data.toList = fb := by rw [HSB.out]
        rw [← this]
        rw [show s[j] = s.data.toList[j]'(by simpa using hlt) from rfl]; exact List.getElem_mem _
      have hc' := hc
      clear hc V hj
      have q0' := q0
      clear q0
      cases ok
      all_goals
        simp only [List.mem_cons, List.not_mem_nil, or_false] at hc'
        rcases hc' with hc | hc | hc | hc | hc | hc | hc | hc | hc
        all_goals
          have hcv : s[j].toNat = _ := congrArg UInt8.toNat hc
          have HC := Lib.hid hc
          clear hc
          try simp at hcv
        · go_wp2_with (first | (go_at_call 49; refine (register_any _ _).mono ?_; rintro e w2 ⟨rfl, rfl⟩) | (go_at_call 50; refine (within_any _ _ _ _).mono ?_; rintro e w2 ⟨rfl, rfl⟩))
          go_roundw
          case rel =>
            refine ⟨j + 1, _, _, _, _, _, by omega, by go_num, rfl, ?_, HV.out.setD⟩
            exact HF.out.next hlt _ HC.out (by simp [stepf, withinB])
          case measure => simp [intOf]; omega
        · go_wp2_with (first | (go_at_call 49; refine (register_any _ _).mono ?_; rintro e w2 ⟨rfl, rfl⟩) | (go_at_call 50; refine (within_any _ _ _ _).mono ?_; rintro e w2 ⟨rfl, rfl⟩))
          go_roundw
          case rel =>
            refine ⟨j + 1, _, _, _, _, _, by omega, by go_num, rfl, ?_, HV.out.setA⟩
            exact HF.out.next hlt _ HC.out (by simp [stepf, withinB])
          case measure => simp [intOf]; omega
        · by_cases hb8 : b = 8
          · subst hb8
            go_wp2_with (first | (go_at_call 49; refine (register_any _ _).mono ?_; rintro e w2 ⟨rfl, rfl⟩) | (go_at_call 50; refine (within_any _ _ _ _).mono ?_; rintro e w2 ⟨rfl, rfl⟩))
            go_roundw
            case rel =>
              refine ⟨j + 1, _, _, _, _, _, by omega, by go_num, rfl, ?_, HV.out.setB.setI⟩
              exact HF.out.next hlt _ HC.out (by simp [stepf])
            case measure => simp [intOf]; omega
          · have hb8' : (b == 8) = false := by simpa using hb8
            have HB8 := Lib.hid hb8
            clear hb8
            go_wp2_with (first | (go_at_call 49; refine (register_any _ _).mono ?_; rintro e w2 ⟨rfl, rfl⟩) | (go_at_call 50; refine (within_any _ _ _ _).mono ?_; rintro e w2 ⟨rfl, rfl⟩))
            go_roundw
            case rel =>
              refine ⟨j + 1, _, _, _, _, _, by omega, by go_num, rfl, ?_, HV.out.setB⟩
              exact HF.out.next hlt _ HC.out (by simp [stepf, HB8.out])
            case measure => simp [intOf]; omega
        · go_wp2_with (first | (go_at_call 49; refine (register_any _ _).mono ?_; rintro e w2 ⟨rfl, rfl⟩) | (go_at_call 50; refine (within_any _ _ _ _).mono ?_; rintro e w2 ⟨rfl, rfl⟩))
          go_roundw
          case rel =>
            refine ⟨j + 1, _, _, _, _, _, by omega, by go_num, rfl, ?_, HV.out.setI⟩
            exact HF.out.next hlt _ HC.out (by simp [stepf, withinB])
          case measure => simp [intOf]; omega
        · go_wp2_with (first | (go_at_call 49; refine (register_any _ _).mono ?_; rintro e w2 ⟨rfl, rfl⟩) | (go_at_call 50; refine (within_any _ _ _ _).mono ?_; rintro e w2 ⟨rfl, rfl⟩))
          go_roundw
          case rel =>
            refine ⟨j + 1, _, _, _, _, _, by omega, by go_num, rfl, ?_, HV.out.setI⟩
            exact HF.out.next hlt _ HC.out (by simp [stepf, withinB])
          case measure => simp [intOf]; omega
        · go_wp2_with (first | (go_at_call 49; refine (register_any _ _).mono ?_; rintro e w2 ⟨rfl, rfl⟩) | (go_at_call 50; refine (within_any _ _ _ _).mono ?_; rintro e w2 ⟨rfl, rfl⟩))
          go_roundw
          case rel =>
            refine ⟨j + 1, _, _, _, _, _, by omega, by go_num, rfl, ?_, HV.out.setI⟩
            exact HF.out.next hlt _ HC.out (by simp [stepf, withinB])
          case measure => simp [intOf]; omega
        · go_wp2_with (first | (go_at_call 49; refine (register_any _ _).mono ?_; rintro e w2 ⟨rfl, rfl⟩) | (go_at_call 50; refine (within_any _ _ _ _).mono ?_; rintro e w2 ⟨rfl, rfl⟩))
          go_roundw
          case rel =>
            refine ⟨j + 1, _, _, _, _, _, by omega, by go_num, rfl, ?_, HV.out.setI⟩
            exact HF.out.next hlt _ HC.out (by simp [stepf, withinB])
          case measure => simp [intOf]; omega
        · go_wp2_with (first | (go_at_call 49; refine (register_any _ _).mono ?_; rintro e w2 ⟨rfl, rfl⟩) | (go_at_call 50; refine (within_any _ _ _ _).mono ?_; rintro e w2 ⟨rfl, rfl⟩))
          go_roundw
          case rel =>
            refine ⟨j + 1, _, _, _, _, _, by omega, by go_num, rfl, ?_, HV.out.setD⟩
            exact HF.out.next hlt _ HC.out (by simp [stepf, withinB])
          case measure => simp [intOf]; omega
        · go_wp2_with (first | (go_at_call 49; refine (register_any _ _).mono ?_; rintro e w2 ⟨rfl, rfl⟩) | (go_at_call 50; refine (within_any _ _ _ _).mono ?_; rintro e w2 ⟨rfl, rfl⟩))
          go_roundw
          case rel =>
            refine ⟨j + 1, _, _, _, _, _, by omega, by go_num, rfl, ?_, HV.out.setD⟩
            exact HF.out.next hlt _ HC.out (by simp [stepf, withinB])
          case measure => simp [intOf]; omega
    · obtain rfl : j = s.size := by omega
      have HG := Lib.hid (show (⟨ok, sd, sa, sb, si⟩ : St).good = rightP ⟨k, d, a, b, imm⟩ by
        unfold rightP formB
        rw [if_pos (by simp; omega)]
        have h1 : fieldsB[((k : Int)).toNat]? = some s.data.toList := by rw [HSB.out]; simpa using HR.out
        have h2 := HF.out
        unfold FoldIs at h2
        rw [List.take_of_length_le (by simp)] at h2
        simp only [h1, h2])
      have heq := fun w => eInst_eql (0, sd, sa, sb, si) (0, 0, 0, 0, 0) w
      dsimp only at heq
      have HO2 := Lib.hid V.only
      clear V hj hlt HF
      cases ok
      · go_wp2_with fail
        go_ret
        exact ⟨ret_b (by rw [← HG.out]; simp [St.good]), HO2.out⟩
      · go_wp2_with fail
        go_ret
        exact ⟨ret_b (by rw [← HG.out]; simp [St.good, Bool.and_assoc]), HO2.out⟩
end Go.Proofs.YtkocfgaajghggaaDoor
