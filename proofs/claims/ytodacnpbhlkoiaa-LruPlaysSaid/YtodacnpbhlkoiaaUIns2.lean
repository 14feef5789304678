/- slices.Insert of one pair where there is no room. -/
import Derived.Test.YtodacnpbhlkoiaaUIns
namespace Go.Proofs.Ytodacnpbhlkoiaa
open Go.RowKit
set_option linter.unusedVariables false
set_option linter.unusedSimpArgs false

def UGrowPost (n ty : Nat) (ys : List Value) (w : World) (e : Ending) (w' : World) : Prop :=
  ∃ cap, e = .returned (.slice (some ⟨w.heap.size, 0, none⟩) n cap) ∧ n ≤ cap ∧ cap ≤ maxLen ∧ (∃ cur', w'.heap[w.heap.size]? = some (.cells cur' ty (0, 0)) ∧ cap ≤ cur'.size ∧ cur'.toList.take (n) = ys) ∧ Only (fun _ => False) w w'

set_option maxHeartbeats 400000 in
set_option maxRecDepth 100000 in
theorem uins_grow (g off i vb : Nat) (cur : Array Value) (xs : List Int) (x : Int) (w : World) (hi : i < xs.length) (hn1 : xs.length ≤ 1000)
    (hh : w.heap[g]? = some (.cells cur 28 (0, 0))) (hs : off + xs.length ≤ cur.size) (ht : (cur.toList.drop off).take (xs.length) = eU64.all xs)
    (hvb : w.heap[vb]? = some (.cells #[.int .u64 x] 28 (0, 0))) :
    Calls Try.prog 36 #[.slice (some ⟨g, off, none⟩) xs.length xs.length, .int .i64 i, .slice (some ⟨vb, 0, none⟩) 1 1] w
      (UGrowPost (xs.length + 1) 28 (eU64.all (xs.take i ++ x :: xs.drop i)) w) := by
  obtain ⟨n, hn⟩ : ∃ n, n = xs.length := ⟨_, rfl⟩
  obtain ⟨P, R, hcur, hP, hR⟩ := urow_split cur off i xs (by omega) (by omega) ht
  have hAl : (eU64.all (xs.take i)).length = i := by have h : (eU64.all (xs.take i)).length = (xs.take i).length * 1 := eU64.all_len _; rw [h, List.length_take]; omega
  have hBl : (eU64.all (xs.drop i)).length = (n - i) := by have h : (eU64.all (xs.drop i)).length = (xs.drop i).length * 1 := eU64.all_len _; rw [h, List.length_drop]; omega
  have hall : eU64.all (xs.take i ++ x :: xs.drop i) = eU64.all (xs.take i) ++ (eU64.cells x ++ eU64.all (xs.drop i)) := by rw [Enc.all_append, Enc.all_cons]
  have hBone := eU64.all_one (xs.drop i)
  have hXone := eU64.one x
  have hXl : (eU64.cells x).length = 1 := rfl
  rw [hall]
  clear hall ht
  rw [← hn] at hi hn1 hR hs ⊢
  obtain ⟨A, hA⟩ : ∃ A, A = eU64.all (xs.take i) := ⟨_, rfl⟩
  obtain ⟨B, hB⟩ : ∃ B, B = eU64.all (xs.drop i) := ⟨_, rfl⟩
  rw [← hA, ← hB] at hcur ⊢
  rw [← hA] at hAl
  rw [← hB] at hBl hBone
  clear hA hB hn
  obtain ⟨i0, hi0, hz0, hz1, hz2⟩ := info_parts (show (Try.prog.info? 28).map (fun i => (i.zero, i.size, i.bytes)) = some (some (.int .u64 0), 1, 8) by kernel_rfl)
  have hold : (Builtin.firstCells i0.size i (.slice (some ⟨g, off, none⟩) i n)).run Try.prog w.drew = .ok A.toArray w.drew := by
    rw [hz1]
    have hl := run_loadCells_list (P := Try.prog) w.drew ⟨g, off, none⟩ A (fun j v hj => by
      rw [Addr.add_lit]
      have := cell_split (w := w.drew) (fr := (0, 0)) (g := g) (cur := cur) (ty := 28) hh (P := P) (A := []) (B := A) (R := B ++ R) (by simpa using hcur) off (by simp [hP]) j v hj
      exact this)
    rw [hAl] at hl
    simpa [Builtin.firstCells] using hl
  have hrun0 := Lib.run_append_grow_zeros (P := Try.prog) w 31 3 31 28 i0 _ .i64 .i64 Try.underlying31 Try.underlying3 hi0 hz0 (some ⟨g, off, none⟩) i n A hold (n + 1 - i) (by omega) (by omega) (by omega) (by omega) (by rw [hz2]; omega)
    (by rw [hz2]; exact grow_fits (by omega) (by omega))
  have hnk : i + (n + 1 - i) = n + 1 := by omega
  rw [hnk] at hrun0
  have hge := grownCap_ge w (n + 1) n 28
  have hgm := grownCap_le_maxLen w (n + 1) n 28 (by unfold maxLen; omega)
  obtain ⟨gc, hgc⟩ : ∃ gc, gc = grownCap w (n + 1) n 28 := ⟨_, rfl⟩
  rw [← hgc] at hrun0 hge hgm
  obtain ⟨C0, hC0⟩ : ∃ C0, C0 = A.toArray ++ Builtin.zeroCells (Value.int .u64 0).cells (n + 1 - i) ++ Builtin.zeroCells (Value.int .u64 0).cells (gc - (n + 1)) := ⟨_, rfl⟩
  rw [← hC0] at hrun0
  have hC0l : ∃ Z, C0.toList = A ++ Z ∧ Z.length = (gc - i) := by
    refine ⟨_, by rw [hC0, Array.toList_append, Array.toList_append, List.append_assoc], ?_⟩
    rw [List.length_append, Array.length_toList, Array.length_toList, size_zeroCells, size_zeroCells]
    show (n + 1 - i) * 1 + (gc - (n + 1)) * 1 = _
    omega
  obtain ⟨Z, hZ, hZl⟩ := hC0l
  have hC0s : C0.size = gc := by rw [← Array.length_toList, hZ, List.length_append, hAl, hZl]; omega
  have hh0 : (w.drew.alloc (.cells C0 28)).heap[w.heap.size]? = some (.cells C0 28 (0, 0)) := heap_alloc_new w.drew _
  have hvb0 : (w.drew.alloc (.cells C0 28)).heap[vb]? = some (.cells #[.int .u64 x] 28 (0, 0)) := heap_alloc (w := w.drew) hvb
  have hg0 : (w.drew.alloc (.cells C0 28)).heap[g]? = some (.cells cur 28 (0, 0)) := heap_alloc (w := w.drew) hh
  have hgl : g < w.heap.size := heap_lt hh
  have hvl : vb < w.heap.size := heap_lt hvb
  have HOA := Lib.hid (show Only (fun _ => False) w (w.drew.alloc (.cells C0 28)) from (Only.refl _ w).drew_.tr (Only.alloc _ _ _))
  obtain ⟨W1, hW1⟩ : ∃ W1, W1 = w.drew.alloc (.cells C0 28) := ⟨_, rfl⟩
  rw [← hW1] at hrun0 hh0 hvb0 hg0 HOA
  obtain ⟨w1, cur1, hr1, hh1, hc1, ho1⟩ := run_copyE (P := Try.prog) W1 31 31 28 1 w.heap.size i 1 ⟨vb, 0, none⟩ C0 28 (eU64.cells x) Try.underlying31 u64_size hh0 rfl
    (fun j v hj => by
      rw [Addr.add_lit, cell_of_row W1 vb _ _ _ _ hvb0, Nat.zero_add]
      exact (Array.getElem?_toList).symm.trans hj) (by rw [hC0s, hXl]; omega) hXone
  have hl1 : cur1.toList.length = cur1.size := by simp
  have hl0 : C0.toList.length = C0.size := by simp
  have hs1 : cur1.size = gc := by rw [← hl1, hc1, lay_len _ _ _ (by rw [hl0, hC0s, hXl]; omega), hl0, hC0s]
  obtain ⟨w2, cur2, hr2, hh2, hc2, ho2⟩ := run_copyE (P := Try.prog) w1.drew 31 31 28 1 w.heap.size (i + 1) (n - i) ⟨g, off + i, none⟩ cur1 28 B Try.underlying31 u64_size hh1 (hBl.trans (Nat.mul_one _).symm)
    (fun j v hj => by
      rw [Addr.add_lit]
      exact cell_split (w := w1.drew) (ho1.heap hg0 (fun h => by omega)) hcur (off + i) (by omega) j v hj) (by rw [hs1]; omega) hBone
  have hl2 : cur2.toList.length = cur2.size := by simp
  have hs2 : cur2.size = gc := by rw [← hl2, hc2, lay_len _ _ _ (by rw [hl1, hs1]; omega), hl1, hs1]
  have hT : cur2.toList.take ((n + 1)) = A ++ (eU64.cells x ++ B) := by
    have h := fill_cells A Z (eU64.cells x) B (by rw [hXl]; omega)
    rw [hXl, hAl, hBl, show i + 1 = (i + 1) by omega, ← hZ, ← hc1, ← hc2, show (i + 1) + (n - i) = (n + 1) by omega] at h
    exact h
  have HP := Lib.hid (show (n + 1 ≤ gc ∧ gc ≤ maxLen) ∧ (∃ cur', w2.heap[w.heap.size]? = some (.cells cur' 28 (0, 0)) ∧ gc ≤ cur'.size ∧ cur'.toList.take ((n + 1)) = A ++ (eU64.cells x ++ B)) ∧ Only (fun _ => False) w w2 from
    ⟨⟨hge, hgm⟩, ⟨cur2, hh2, by omega, hT⟩, (HOA.out.trans ho1 (fun j hj h => by omega)).trans (Only.drew_ (Only.refl _ _) |>.tr ho2) (fun j hj h => by omega)⟩)
  have HR0 := Lib.hid hrun0
  have HR1 := Lib.hid hr1
  have HR2 := Lib.hid hr2
  have hz2 : ¬ ((i : Int) = (n : Int)) := by omega
  have hz3 : ((i : Int) == (n : Int)) = false := by simp; omega
  have hw1 : IntKind.i64.wrap ((i : Int) + 1) = (i : Int) + 1 := by rw [IntKind.wrap_i64]; omega
  have hw2 : IntKind.i64.wrap ((n : Int) + 1) = (n : Int) + 1 := by rw [IntKind.wrap_i64]; omega
  have htn : ((i : Int) + 1).toNat = i + 1 := by omega
  have hcast : (n : Int) + 1 - (i : Int) = ((n + 1 - i : Nat) : Int) := by omega
  have hb1 : (0 : Int) ≤ (i : Int) + 1 := by omega
  have hin : i ≤ n := by omega
  have hb2 : ¬ gc = i + 1 := by omega
  have hb4 : ¬ n = i := by omega
  have hb6 : ¬ gc = i := by omega
  have hb5 : i ≤ n + 1 := by omega
  have hb3 : (i : Int) ≤ (n : Int) + 1 := by omega
  have hb8 : (i : Int) ≤ ((n + 1 : Nat) : Int) := by omega
  clear hr1 hh1 hc1 ho1 hl1 hs1 hr2 hh2 hc2 ho2 hl2 hs2 hT hcur hP hR hAl hBl hBone hXone hXl hrun0 hh0 hvb0 hg0 hW1 hC0 hZ hZl hC0s hgc hz0 hz1 hi0 hold hl0 hh hvb hnk hgm hs
  go_enter Try.func36, Try.ntmps36
  have HR1' := Lib.hid (HR1.out 3 (n + 1 - i) (gc - i) 1 1 (by simp only [Nat.min_def]; split <;> omega))
  have HR2' := Lib.hid (HR2.out 3 (n - i) (gc - (i + 1)) (n - i) (n - i) (by simp only [Nat.min_def]; split <;> omega))
  clear HR1 HR2
  go_wp2_with (first | (at_builtin; refine wl_appendE rfl (.tmp 34) (.tmp 39) 31 3 rfl _ _ rfl rfl HR0.out ?_) | (refine wl_copyE rfl (.tmp 43) (.tmp 44) 31 31 rfl _ _ rfl rfl HR1'.out ?_))
  go_region_law (refine step_copyE rfl (.tmp 50) (.tmp 53) 31 31 rfl _ _ (by simp [Act.eval, Act.put]) (by simp [Act.eval, Act.put]) HR2'.out ?_)
  go_wp2_with fail
  go_ret
  exact ⟨gc, rfl, HP.out.1.1, HP.out.1.2, HP.out.2.1, HP.out.2.2⟩
end Go.Proofs.Ytodacnpbhlkoiaa
