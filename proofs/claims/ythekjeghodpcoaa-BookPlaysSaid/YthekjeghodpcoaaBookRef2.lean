/- book: the document's Do, the roads that change nothing (printed by bookref.py). -/
import Derived.Test.YthekjeghodpcoaaBookRef
import Derived.Deep.RegionHeld3
namespace Go.Proofs.Ythekjeghodpcoaa
open Go.RowKit
set_option linter.unusedVariables false
set_option linter.unusedSimpArgs false

def RefPost (x : Nat) (S : Nat → Prop) (cap : Int) (w : World) (r : ResD) (L : List PairD) (e : Ending) (w' : World) : Prop :=
  e = .returned (.agg #[.int .i64 r.1, .bool r.2.1, .int .u64 r.2.2.1, .bool r.2.2.2.1, .int .u64 r.2.2.2.2.1, .int .u64 r.2.2.2.2.2]) ∧ RefS x cap L (fun k => S k ∨ w.heap.size ≤ k) w' ∧ Only S w w'
theorem ref_ro {x : Nat} {cap : Int} {L : List PairD} {S : Nat → Prop} {w w' : World} (H : RefS x cap L S w) (ho : Only (fun k => w.heap.size ≤ k) w w') : RefS x cap L (fun k => S k ∨ w.heap.size ≤ k) w' ∧ Only S w w' :=
  ⟨RefS.framed.mono S _ _ (RefS.framed.only S _ w w' H ho fun k hk _ h => by omega) (fun _ _ h => .inl h), ho.mono fun k hk h => by omega⟩

set_option maxRecDepth 100000 in
set_option maxHeartbeats 2000000 in
theorem refGet_no (x : Nat) (cap : Int) (L : List PairD) (S : Nat → Prop) (key val : Int) (w : World) (H : RefS x cap L S w) (hL : L.length ≤ 16) (hh : hasP L key = false) :
    Calls Try.prog 15 #[.pointer (some ⟨x, 0, none⟩), .int .i64 0, .int .u64 key, .int .u64 val] w (RefPost x S cap w (resF false 0) L) := by
  have H0 := Lib.hid H
  have HPL := Lib.hid (place_any x cap L S key _ (RefS.framed.alloc H (.cells #[.int .i64 0, .bool false, .int .u64 0, .bool false, .int .u64 0, .int .u64 0] 30)) hL)
  have hp : placeP L key = -1 := by unfold placeP; rw [hh]; rfl
  rw [hp] at HPL
  clear hp
  obtain ⟨v, hg, hown, hS, hvS⟩ := H
  obtain ⟨_, ao, cap2, rfl, _, _, _⟩ := id hown.rd
  have HG := Lib.hid hg
  clear hg hown hS hvS hh
  go_enter Try.func15, Try.ntmps15
  go_wp2_with fail
  refine HPL.out.mono ?_
  rintro e w1 ⟨rfl, ho⟩
  have hr8 := ho.heap (heap_alloc_new w _) (fun h => h)
  have hgx := ho.heap (heap_alloc HG.out) (fun h => h)
  have HR8 := Lib.hid hr8
  have c0 := cells_of_heap hgx 0 _ rfl
  have c1 := cells_of_heap hgx 1 _ rfl
  have HO := Lib.hid ((Only.alloc (fun _ => False) w _).tr ho)
  clear hr8 ho hgx
  go_wp2_with fail
  go_quiet (fail)
  go_wp2_with (refine wpList_store_row rfl 30 (.tmp 8) (.tmp 48) rfl w.heap.size _ rfl rfl 30 _ HR8.out (by kernel_rfl) rfl (res_one _ _ _ _ _ _) ?_)
  refine bodyPost_ret (results_cell_row rfl _ _ w.heap.size _ _ _ _ rfl (setRow_heap _ _ _ _ _ _ HR8.out) Try.underlying30 rfl (by kernel_rfl)) rfl ?_
  exact ⟨rfl, ref_ro H0.out (only_row ((HO.out.drewN _)).wide _ _ (.inr (Nat.le_refl _)))⟩

set_option maxRecDepth 100000 in
set_option maxHeartbeats 2000000 in
theorem refGet_yes (x : Nat) (cap : Int) (L : List PairD) (S : Nat → Prop) (key val : Int) (w : World) (H : RefS x cap L S w) (hL : L.length ≤ 16) (p : Nat) (hp : p < L.length) (hpl : placeP L key = p) :
    Calls Try.prog 15 #[.pointer (some ⟨x, 0, none⟩), .int .i64 0, .int .u64 key, .int .u64 val] w (RefPost x S cap w (resF true L[p].2) L) := by
  have H0 := Lib.hid H
  have HPL := Lib.hid (place_any x cap L S key _ (RefS.framed.alloc H (.cells #[.int .i64 0, .bool false, .int .u64 0, .bool false, .int .u64 0, .int .u64 0] 30)) hL)
  rw [hpl] at HPL
  clear hpl
  obtain ⟨v, hg, hown, hS, hvS⟩ := H
  have hgne := row_ne hg hown (by decide)
  obtain ⟨_, ao, cap2, rfl, _, _, hx⟩ := id hown.rd
  obtain ⟨sb, off, rfl, hc⟩ := hx (by omega)
  obtain ⟨_, k1⟩ := pair_cells hc p hp
  have HK1 := Lib.hid k1
  have hpi0 : (0 : Int) ≤ (p : Int) := by omega
  have hpi1 : (p : Int) < (L.length : Int) := by omega
  have HSB := Lib.hid (show sb < w.heap.size from (hown.lt rfl).2)
  have HG := Lib.hid hg
  clear hg hown hS hvS hx hc k1 hgne
  generalize L[p].2 = old at *
  go_enter Try.func15, Try.ntmps15
  go_wp2_with fail
  refine HPL.out.mono ?_
  rintro e w1 ⟨rfl, ho⟩
  have hr8 := ho.heap (heap_alloc_new w _) (fun h => h)
  have hgx := ho.heap (heap_alloc HG.out) (fun h => h)
  have HR8 := Lib.hid hr8
  have c0 := cells_of_heap hgx 0 _ rfl
  have c1 := cells_of_heap hgx 1 _ rfl
  have HO := Lib.hid ((Only.alloc (fun _ => False) w _).tr ho)
  have d1 : w1.cell? ⟨sb, off + p * 2 + 1, none⟩ = some (.int .u64 old) := (World.cell?_of_block (w := w) (w' := w1) (a := ⟨sb, off + p * 2 + 1, none⟩) (HO.out.block sb HSB.out (fun h => h))).trans HK1.out
  clear hr8 ho hgx
  go_wp2_with fail
  refine wp_region_noPanic ?_
  refine wp_region_held_drew (S := fun _ => True) (by kernel_rfl) ?_ (fun hHeld => ?_)
  · exact trivial
  try simp only [Act.put, List.getElem_toArray, List.getElem_cons_succ, List.getElem_cons_zero, List.setIfInBounds_toArray, List.set_cons_zero, List.set_cons_succ]
  refine wpAnyH_take (i := 0) (v := ?v0) rfl (by kernel_rfl) (by kernel_rfl) (by kernel_rfl) (fun _ _ _ h => h) (Or.inl ⟨by rfl, ?hy0⟩) (by assumption) ?rest0
  case hy0 =>
    intro w hSw
    try dsimp only at hSw
    go_simp
    all_goals with_reducible rfl
  simp only [Act.put, List.getElem_toArray, List.getElem_cons_succ, List.getElem_cons_zero, List.setIfInBounds_toArray, List.set_cons_zero, List.set_cons_succ]
  refine wpAnyH_take (i := 1) (v := ?v1) rfl (by kernel_rfl) (by kernel_rfl) (by kernel_rfl) (fun _ _ _ h => h) (Or.inl ⟨by rfl, ?hy1⟩) (by assumption) ?rest1
  case hy1 =>
    intro w hSw
    try dsimp only at hSw
    go_simp
    all_goals with_reducible rfl
  simp only [Act.put, List.getElem_toArray, List.getElem_cons_succ, List.getElem_cons_zero, List.setIfInBounds_toArray, List.set_cons_zero, List.set_cons_succ]
  refine wpAnyH_take (i := 2) (v := ?v2) rfl (by kernel_rfl) (by kernel_rfl) (by kernel_rfl) (fun _ _ _ h => h) (Or.inl ⟨by rfl, ?hy2⟩) (by assumption) ?rest2
  case hy2 =>
    intro w hSw
    try dsimp only at hSw
    go_simp
    all_goals with_reducible rfl
  simp only [Act.put, List.getElem_toArray, List.getElem_cons_succ, List.getElem_cons_zero, List.setIfInBounds_toArray, List.set_cons_zero, List.set_cons_succ]
  refine wpAnyH_take (i := 3) (v := undef) rfl (by kernel_rfl) (by kernel_rfl) (by kernel_rfl) (fun _ _ _ h => h) (Or.inr ⟨by rfl, rfl⟩) (by assumption) ?_
  simp only [Act.put, List.getElem_toArray, List.getElem_cons_succ, List.getElem_cons_zero, List.setIfInBounds_toArray, List.set_cons_zero, List.set_cons_succ]
  refine wpAnyH_take (i := 4) (v := undef) rfl (by kernel_rfl) (by kernel_rfl) (by kernel_rfl) (fun _ _ _ h => h) (Or.inr ⟨by rfl, rfl⟩) (by assumption) ?_
  simp only [Act.put, List.getElem_toArray, List.getElem_cons_succ, List.getElem_cons_zero, List.setIfInBounds_toArray, List.set_cons_zero, List.set_cons_succ]
  refine wpAnyH_take (i := 5) (v := undef) rfl (by kernel_rfl) (by kernel_rfl) (by kernel_rfl) (fun _ _ _ h => h) (Or.inr ⟨by rfl, rfl⟩) (by assumption) ?_
  simp only [Act.put, List.getElem_toArray, List.getElem_cons_succ, List.getElem_cons_zero, List.setIfInBounds_toArray, List.set_cons_zero, List.set_cons_succ]
  refine wpAnyH_take (i := 6) (v := undef) rfl (by kernel_rfl) (by kernel_rfl) (by kernel_rfl) (fun _ _ _ h => h) (Or.inr ⟨by rfl, rfl⟩) (by assumption) ?_
  simp only [Act.put, List.getElem_toArray, List.getElem_cons_succ, List.getElem_cons_zero, List.setIfInBounds_toArray, List.set_cons_zero, List.set_cons_succ]
  refine wpAnyH_take (i := 7) (v := undef) rfl (by kernel_rfl) (by kernel_rfl) (by kernel_rfl) (fun _ _ _ h => h) (Or.inr ⟨by rfl, rfl⟩) (by assumption) ?_
  simp only [Act.put, List.getElem_toArray, List.getElem_cons_succ, List.getElem_cons_zero, List.setIfInBounds_toArray, List.set_cons_zero, List.set_cons_succ]
  refine wpAnyH_take (i := 8) (v := undef) rfl (by kernel_rfl) (by kernel_rfl) (by kernel_rfl) (fun _ _ _ h => h) (Or.inr ⟨by rfl, rfl⟩) (by assumption) ?_
  simp only [Act.put, List.getElem_toArray, List.getElem_cons_succ, List.getElem_cons_zero, List.setIfInBounds_toArray, List.set_cons_zero, List.set_cons_succ]
  refine wpAnyH_take (i := 9) (v := undef) rfl (by kernel_rfl) (by kernel_rfl) (by kernel_rfl) (fun _ _ _ h => h) (Or.inr ⟨by rfl, rfl⟩) (by assumption) ?_
  simp only [Act.put, List.getElem_toArray, List.getElem_cons_succ, List.getElem_cons_zero, List.setIfInBounds_toArray, List.set_cons_zero, List.set_cons_succ]
  refine wpAnyH_take (i := 10) (v := undef) rfl (by kernel_rfl) (by kernel_rfl) (by kernel_rfl) (fun _ _ _ h => h) (Or.inr ⟨by rfl, rfl⟩) (by assumption) ?_
  simp only [Act.put, List.getElem_toArray, List.getElem_cons_succ, List.getElem_cons_zero, List.setIfInBounds_toArray, List.set_cons_zero, List.set_cons_succ]
  refine wpAnyH_take (i := 11) (v := undef) rfl (by kernel_rfl) (by kernel_rfl) (by kernel_rfl) (fun _ _ _ h => h) (Or.inr ⟨by rfl, rfl⟩) (by assumption) ?_
  simp only [Act.put, List.getElem_toArray, List.getElem_cons_succ, List.getElem_cons_zero, List.setIfInBounds_toArray, List.set_cons_zero, List.set_cons_succ]
  refine wpAnyH_take (i := 12) (v := undef) rfl (by kernel_rfl) (by kernel_rfl) (by kernel_rfl) (fun _ _ _ h => h) (Or.inr ⟨by rfl, rfl⟩) (by assumption) ?_
  simp only [Act.put, List.getElem_toArray, List.getElem_cons_succ, List.getElem_cons_zero, List.setIfInBounds_toArray, List.set_cons_zero, List.set_cons_succ]
  refine wpAnyH_take (i := 13) (v := ?v13) rfl (by kernel_rfl) (by kernel_rfl) (by kernel_rfl) (fun _ _ _ h => h) (Or.inl ⟨by rfl, ?hy13⟩) (by assumption) ?rest13
  case hy13 =>
    intro w hSw
    try dsimp only at hSw
    go_simp
    all_goals with_reducible rfl
  simp only [Act.put, List.getElem_toArray, List.getElem_cons_succ, List.getElem_cons_zero, List.setIfInBounds_toArray, List.set_cons_zero, List.set_cons_succ]
  refine wpAnyH_take (i := 14) (v := ?v14) rfl (by kernel_rfl) (by kernel_rfl) (by kernel_rfl) (fun _ _ _ h => h) (Or.inl ⟨by rfl, ?hy14⟩) (by assumption) ?rest14
  case hy14 =>
    intro w hSw
    try dsimp only at hSw
    go_simp
    all_goals with_reducible rfl
  simp only [Act.put, List.getElem_toArray, List.getElem_cons_succ, List.getElem_cons_zero, List.setIfInBounds_toArray, List.set_cons_zero, List.set_cons_succ]
  refine wpAnyH_done (by kernel_rfl) ?_ _
  refine NoPanic.normal ?_
  go_wp2_with (refine wpList_store_row rfl 30 (.tmp 8) (.tmp 48) rfl w.heap.size _ rfl rfl 30 _ HR8.out (by kernel_rfl) rfl (res_one _ _ _ _ _ _) ?_)
  refine bodyPost_ret (results_cell_row rfl _ _ w.heap.size _ _ _ _ rfl (setRow_heap _ _ _ _ _ _ HR8.out) Try.underlying30 rfl (by kernel_rfl)) rfl ?_
  exact ⟨rfl, ref_ro H0.out (only_row ((HO.out.drew_)).wide _ _ (.inr (Nat.le_refl _)))⟩

set_option maxRecDepth 100000 in
set_option maxHeartbeats 2000000 in
theorem refHas_no (x : Nat) (cap : Int) (L : List PairD) (S : Nat → Prop) (key val : Int) (w : World) (H : RefS x cap L S w) (hL : L.length ≤ 16) (hh : hasP L key = false) :
    Calls Try.prog 15 #[.pointer (some ⟨x, 0, none⟩), .int .i64 1, .int .u64 key, .int .u64 val] w (RefPost x S cap w (resF false 0) L) := by
  have H0 := Lib.hid H
  have HPL := Lib.hid (place_any x cap L S key _ (RefS.framed.alloc H (.cells #[.int .i64 0, .bool false, .int .u64 0, .bool false, .int .u64 0, .int .u64 0] 30)) hL)
  have hp : placeP L key = -1 := by unfold placeP; rw [hh]; rfl
  rw [hp] at HPL
  clear hp
  obtain ⟨v, hg, hown, hS, hvS⟩ := H
  obtain ⟨_, ao, cap2, rfl, _, _, _⟩ := id hown.rd
  have HG := Lib.hid hg
  clear hg hown hS hvS hh
  go_enter Try.func15, Try.ntmps15
  go_wp2_with fail
  refine HPL.out.mono ?_
  rintro e w1 ⟨rfl, ho⟩
  have hr8 := ho.heap (heap_alloc_new w _) (fun h => h)
  have hgx := ho.heap (heap_alloc HG.out) (fun h => h)
  have HR8 := Lib.hid hr8
  have c0 := cells_of_heap hgx 0 _ rfl
  have c1 := cells_of_heap hgx 1 _ rfl
  have HO := Lib.hid ((Only.alloc (fun _ => False) w _).tr ho)
  clear hr8 ho hgx
  go_wp2_with fail
  go_quiet (fail)
  go_wp2_with (refine wpList_store_row rfl 30 (.tmp 8) (.tmp 53) rfl w.heap.size _ rfl rfl 30 _ HR8.out (by kernel_rfl) rfl (res_one _ _ _ _ _ _) ?_)
  refine bodyPost_ret (results_cell_row rfl _ _ w.heap.size _ _ _ _ rfl (setRow_heap _ _ _ _ _ _ HR8.out) Try.underlying30 rfl (by kernel_rfl)) rfl ?_
  exact ⟨rfl, ref_ro H0.out (only_row ((HO.out.drewN _)).wide _ _ (.inr (Nat.le_refl _)))⟩

set_option maxRecDepth 100000 in
set_option maxHeartbeats 2000000 in
theorem refHas_yes (x : Nat) (cap : Int) (L : List PairD) (S : Nat → Prop) (key val : Int) (w : World) (H : RefS x cap L S w) (hL : L.length ≤ 16) (p : Nat) (hp : p < L.length) (hpl : placeP L key = p) :
    Calls Try.prog 15 #[.pointer (some ⟨x, 0, none⟩), .int .i64 1, .int .u64 key, .int .u64 val] w (RefPost x S cap w (resF true 0) L) := by
  have H0 := Lib.hid H
  have HPL := Lib.hid (place_any x cap L S key _ (RefS.framed.alloc H (.cells #[.int .i64 0, .bool false, .int .u64 0, .bool false, .int .u64 0, .int .u64 0] 30)) hL)
  rw [hpl] at HPL
  clear hpl
  obtain ⟨v, hg, hown, hS, hvS⟩ := H
  have hgne := row_ne hg hown (by decide)
  obtain ⟨_, ao, cap2, rfl, _, _, hx⟩ := id hown.rd
  obtain ⟨sb, off, rfl, hc⟩ := hx (by omega)
  obtain ⟨_, k1⟩ := pair_cells hc p hp
  have HK1 := Lib.hid k1
  have hpi0 : (0 : Int) ≤ (p : Int) := by omega
  have hpi1 : (p : Int) < (L.length : Int) := by omega
  have HSB := Lib.hid (show sb < w.heap.size from (hown.lt rfl).2)
  have HG := Lib.hid hg
  clear hg hown hS hvS hx hc k1 hgne
  generalize L[p].2 = old at *
  go_enter Try.func15, Try.ntmps15
  go_wp2_with fail
  refine HPL.out.mono ?_
  rintro e w1 ⟨rfl, ho⟩
  have hr8 := ho.heap (heap_alloc_new w _) (fun h => h)
  have hgx := ho.heap (heap_alloc HG.out) (fun h => h)
  have HR8 := Lib.hid hr8
  have c0 := cells_of_heap hgx 0 _ rfl
  have c1 := cells_of_heap hgx 1 _ rfl
  have HO := Lib.hid ((Only.alloc (fun _ => False) w _).tr ho)
  have d1 : w1.cell? ⟨sb, off + p * 2 + 1, none⟩ = some (.int .u64 old) := (World.cell?_of_block (w := w) (w' := w1) (a := ⟨sb, off + p * 2 + 1, none⟩) (HO.out.block sb HSB.out (fun h => h))).trans HK1.out
  clear hr8 ho hgx
  go_wp2_with fail
  refine wp_region_noPanic ?_
  refine wp_region_held_drew (S := fun _ => True) (by kernel_rfl) ?_ (fun hHeld => ?_)
  · exact trivial
  try simp only [Act.put, List.getElem_toArray, List.getElem_cons_succ, List.getElem_cons_zero, List.setIfInBounds_toArray, List.set_cons_zero, List.set_cons_succ]
  refine wpAnyH_take (i := 0) (v := ?v0) rfl (by kernel_rfl) (by kernel_rfl) (by kernel_rfl) (fun _ _ _ h => h) (Or.inl ⟨by rfl, ?hy0⟩) (by assumption) ?rest0
  case hy0 =>
    intro w hSw
    try dsimp only at hSw
    go_simp
    all_goals with_reducible rfl
  simp only [Act.put, List.getElem_toArray, List.getElem_cons_succ, List.getElem_cons_zero, List.setIfInBounds_toArray, List.set_cons_zero, List.set_cons_succ]
  refine wpAnyH_take (i := 1) (v := ?v1) rfl (by kernel_rfl) (by kernel_rfl) (by kernel_rfl) (fun _ _ _ h => h) (Or.inl ⟨by rfl, ?hy1⟩) (by assumption) ?rest1
  case hy1 =>
    intro w hSw
    try dsimp only at hSw
    go_simp
    all_goals with_reducible rfl
  simp only [Act.put, List.getElem_toArray, List.getElem_cons_succ, List.getElem_cons_zero, List.setIfInBounds_toArray, List.set_cons_zero, List.set_cons_succ]
  refine wpAnyH_take (i := 2) (v := ?v2) rfl (by kernel_rfl) (by kernel_rfl) (by kernel_rfl) (fun _ _ _ h => h) (Or.inl ⟨by rfl, ?hy2⟩) (by assumption) ?rest2
  case hy2 =>
    intro w hSw
    try dsimp only at hSw
    go_simp
    all_goals with_reducible rfl
  simp only [Act.put, List.getElem_toArray, List.getElem_cons_succ, List.getElem_cons_zero, List.setIfInBounds_toArray, List.set_cons_zero, List.set_cons_succ]
  refine wpAnyH_take (i := 3) (v := undef) rfl (by kernel_rfl) (by kernel_rfl) (by kernel_rfl) (fun _ _ _ h => h) (Or.inr ⟨by rfl, rfl⟩) (by assumption) ?_
  simp only [Act.put, List.getElem_toArray, List.getElem_cons_succ, List.getElem_cons_zero, List.setIfInBounds_toArray, List.set_cons_zero, List.set_cons_succ]
  refine wpAnyH_take (i := 4) (v := undef) rfl (by kernel_rfl) (by kernel_rfl) (by kernel_rfl) (fun _ _ _ h => h) (Or.inr ⟨by rfl, rfl⟩) (by assumption) ?_
  simp only [Act.put, List.getElem_toArray, List.getElem_cons_succ, List.getElem_cons_zero, List.setIfInBounds_toArray, List.set_cons_zero, List.set_cons_succ]
  refine wpAnyH_take (i := 5) (v := undef) rfl (by kernel_rfl) (by kernel_rfl) (by kernel_rfl) (fun _ _ _ h => h) (Or.inr ⟨by rfl, rfl⟩) (by assumption) ?_
  simp only [Act.put, List.getElem_toArray, List.getElem_cons_succ, List.getElem_cons_zero, List.setIfInBounds_toArray, List.set_cons_zero, List.set_cons_succ]
  refine wpAnyH_take (i := 6) (v := undef) rfl (by kernel_rfl) (by kernel_rfl) (by kernel_rfl) (fun _ _ _ h => h) (Or.inr ⟨by rfl, rfl⟩) (by assumption) ?_
  simp only [Act.put, List.getElem_toArray, List.getElem_cons_succ, List.getElem_cons_zero, List.setIfInBounds_toArray, List.set_cons_zero, List.set_cons_succ]
  refine wpAnyH_take (i := 7) (v := undef) rfl (by kernel_rfl) (by kernel_rfl) (by kernel_rfl) (fun _ _ _ h => h) (Or.inr ⟨by rfl, rfl⟩) (by assumption) ?_
  simp only [Act.put, List.getElem_toArray, List.getElem_cons_succ, List.getElem_cons_zero, List.setIfInBounds_toArray, List.set_cons_zero, List.set_cons_succ]
  refine wpAnyH_take (i := 8) (v := undef) rfl (by kernel_rfl) (by kernel_rfl) (by kernel_rfl) (fun _ _ _ h => h) (Or.inr ⟨by rfl, rfl⟩) (by assumption) ?_
  simp only [Act.put, List.getElem_toArray, List.getElem_cons_succ, List.getElem_cons_zero, List.setIfInBounds_toArray, List.set_cons_zero, List.set_cons_succ]
  refine wpAnyH_take (i := 9) (v := undef) rfl (by kernel_rfl) (by kernel_rfl) (by kernel_rfl) (fun _ _ _ h => h) (Or.inr ⟨by rfl, rfl⟩) (by assumption) ?_
  simp only [Act.put, List.getElem_toArray, List.getElem_cons_succ, List.getElem_cons_zero, List.setIfInBounds_toArray, List.set_cons_zero, List.set_cons_succ]
  refine wpAnyH_take (i := 10) (v := undef) rfl (by kernel_rfl) (by kernel_rfl) (by kernel_rfl) (fun _ _ _ h => h) (Or.inr ⟨by rfl, rfl⟩) (by assumption) ?_
  simp only [Act.put, List.getElem_toArray, List.getElem_cons_succ, List.getElem_cons_zero, List.setIfInBounds_toArray, List.set_cons_zero, List.set_cons_succ]
  refine wpAnyH_take (i := 11) (v := undef) rfl (by kernel_rfl) (by kernel_rfl) (by kernel_rfl) (fun _ _ _ h => h) (Or.inr ⟨by rfl, rfl⟩) (by assumption) ?_
  simp only [Act.put, List.getElem_toArray, List.getElem_cons_succ, List.getElem_cons_zero, List.setIfInBounds_toArray, List.set_cons_zero, List.set_cons_succ]
  refine wpAnyH_take (i := 12) (v := undef) rfl (by kernel_rfl) (by kernel_rfl) (by kernel_rfl) (fun _ _ _ h => h) (Or.inr ⟨by rfl, rfl⟩) (by assumption) ?_
  simp only [Act.put, List.getElem_toArray, List.getElem_cons_succ, List.getElem_cons_zero, List.setIfInBounds_toArray, List.set_cons_zero, List.set_cons_succ]
  refine wpAnyH_take (i := 13) (v := ?v13) rfl (by kernel_rfl) (by kernel_rfl) (by kernel_rfl) (fun _ _ _ h => h) (Or.inl ⟨by rfl, ?hy13⟩) (by assumption) ?rest13
  case hy13 =>
    intro w hSw
    try dsimp only at hSw
    go_simp
    all_goals with_reducible rfl
  simp only [Act.put, List.getElem_toArray, List.getElem_cons_succ, List.getElem_cons_zero, List.setIfInBounds_toArray, List.set_cons_zero, List.set_cons_succ]
  refine wpAnyH_take (i := 14) (v := ?v14) rfl (by kernel_rfl) (by kernel_rfl) (by kernel_rfl) (fun _ _ _ h => h) (Or.inl ⟨by rfl, ?hy14⟩) (by assumption) ?rest14
  case hy14 =>
    intro w hSw
    try dsimp only at hSw
    go_simp
    all_goals with_reducible rfl
  simp only [Act.put, List.getElem_toArray, List.getElem_cons_succ, List.getElem_cons_zero, List.setIfInBounds_toArray, List.set_cons_zero, List.set_cons_succ]
  refine wpAnyH_done (by kernel_rfl) ?_ _
  refine NoPanic.normal ?_
  go_wp2_with (refine wpList_store_row rfl 30 (.tmp 8) (.tmp 53) rfl w.heap.size _ rfl rfl 30 _ HR8.out (by kernel_rfl) rfl (res_one _ _ _ _ _ _) ?_)
  refine bodyPost_ret (results_cell_row rfl _ _ w.heap.size _ _ _ _ rfl (setRow_heap _ _ _ _ _ _ HR8.out) Try.underlying30 rfl (by kernel_rfl)) rfl ?_
  exact ⟨rfl, ref_ro H0.out (only_row ((HO.out.drew_)).wide _ _ (.inr (Nat.le_refl _)))⟩

set_option maxRecDepth 100000 in
set_option maxHeartbeats 2000000 in
theorem refBad_no (x : Nat) (cap : Int) (L : List PairD) (S : Nat → Prop) (op : Int) (key val : Int) (w : World) (H : RefS x cap L S w) (hL : L.length ≤ 16) (hh : hasP L key = false) (hop0 : ¬ op = 0) (hop1 : ¬ op = 1) (hop2 : ¬ op = 2) (hop3 : ¬ op = 3) (hop4 : ¬ op = 4) :
    Calls Try.prog 15 #[.pointer (some ⟨x, 0, none⟩), .int .i64 op, .int .u64 key, .int .u64 val] w (RefPost x S cap w (resE 2) L) := by
  have H0 := Lib.hid H
  have HPL := Lib.hid (place_any x cap L S key _ (RefS.framed.alloc H (.cells #[.int .i64 0, .bool false, .int .u64 0, .bool false, .int .u64 0, .int .u64 0] 30)) hL)
  have hp : placeP L key = -1 := by unfold placeP; rw [hh]; rfl
  rw [hp] at HPL
  clear hp
  obtain ⟨v, hg, hown, hS, hvS⟩ := H
  obtain ⟨_, ao, cap2, rfl, _, _, _⟩ := id hown.rd
  have HG := Lib.hid hg
  clear hg hown hS hvS hh
  go_enter Try.func15, Try.ntmps15
  go_wp2_with fail
  refine HPL.out.mono ?_
  rintro e w1 ⟨rfl, ho⟩
  have hr8 := ho.heap (heap_alloc_new w _) (fun h => h)
  have hgx := ho.heap (heap_alloc HG.out) (fun h => h)
  have HR8 := Lib.hid hr8
  have c0 := cells_of_heap hgx 0 _ rfl
  have c1 := cells_of_heap hgx 1 _ rfl
  have HO := Lib.hid ((Only.alloc (fun _ => False) w _).tr ho)
  clear hr8 ho hgx
  go_wp2_with fail
  go_quiet (fail)
  go_wp2_with (refine wpList_store_row rfl 30 (.tmp 8) (.tmp 125) rfl w.heap.size _ rfl rfl 30 _ HR8.out (by kernel_rfl) rfl (res_one _ _ _ _ _ _) ?_)
  refine bodyPost_ret (results_cell_row rfl _ _ w.heap.size _ _ _ _ rfl (setRow_heap _ _ _ _ _ _ HR8.out) Try.underlying30 rfl (by kernel_rfl)) rfl ?_
  exact ⟨rfl, ref_ro H0.out (only_row ((HO.out.drewN _)).wide _ _ (.inr (Nat.le_refl _)))⟩

set_option maxRecDepth 100000 in
set_option maxHeartbeats 2000000 in
theorem refBad_yes (x : Nat) (cap : Int) (L : List PairD) (S : Nat → Prop) (op : Int) (key val : Int) (w : World) (H : RefS x cap L S w) (hL : L.length ≤ 16) (p : Nat) (hp : p < L.length) (hpl : placeP L key = p) (hop0 : ¬ op = 0) (hop1 : ¬ op = 1) (hop2 : ¬ op = 2) (hop3 : ¬ op = 3) (hop4 : ¬ op = 4) :
    Calls Try.prog 15 #[.pointer (some ⟨x, 0, none⟩), .int .i64 op, .int .u64 key, .int .u64 val] w (RefPost x S cap w (resE 2) L) := by
  have H0 := Lib.hid H
  have HPL := Lib.hid (place_any x cap L S key _ (RefS.framed.alloc H (.cells #[.int .i64 0, .bool false, .int .u64 0, .bool false, .int .u64 0, .int .u64 0] 30)) hL)
  rw [hpl] at HPL
  clear hpl
  obtain ⟨v, hg, hown, hS, hvS⟩ := H
  have hgne := row_ne hg hown (by decide)
  obtain ⟨_, ao, cap2, rfl, _, _, hx⟩ := id hown.rd
  obtain ⟨sb, off, rfl, hc⟩ := hx (by omega)
  obtain ⟨_, k1⟩ := pair_cells hc p hp
  have HK1 := Lib.hid k1
  have hpi0 : (0 : Int) ≤ (p : Int) := by omega
  have hpi1 : (p : Int) < (L.length : Int) := by omega
  have HSB := Lib.hid (show sb < w.heap.size from (hown.lt rfl).2)
  have HG := Lib.hid hg
  clear hg hown hS hvS hx hc k1 hgne
  generalize L[p].2 = old at *
  go_enter Try.func15, Try.ntmps15
  go_wp2_with fail
  refine HPL.out.mono ?_
  rintro e w1 ⟨rfl, ho⟩
  have hr8 := ho.heap (heap_alloc_new w _) (fun h => h)
  have hgx := ho.heap (heap_alloc HG.out) (fun h => h)
  have HR8 := Lib.hid hr8
  have c0 := cells_of_heap hgx 0 _ rfl
  have c1 := cells_of_heap hgx 1 _ rfl
  have HO := Lib.hid ((Only.alloc (fun _ => False) w _).tr ho)
  have d1 : w1.cell? ⟨sb, off + p * 2 + 1, none⟩ = some (.int .u64 old) := (World.cell?_of_block (w := w) (w' := w1) (a := ⟨sb, off + p * 2 + 1, none⟩) (HO.out.block sb HSB.out (fun h => h))).trans HK1.out
  clear hr8 ho hgx
  go_wp2_with fail
  refine wp_region_noPanic ?_
  refine wp_region_held_drew (S := fun _ => True) (by kernel_rfl) ?_ (fun hHeld => ?_)
  · exact trivial
  try simp only [Act.put, List.getElem_toArray, List.getElem_cons_succ, List.getElem_cons_zero, List.setIfInBounds_toArray, List.set_cons_zero, List.set_cons_succ]
  refine wpAnyH_take (i := 0) (v := ?v0) rfl (by kernel_rfl) (by kernel_rfl) (by kernel_rfl) (fun _ _ _ h => h) (Or.inl ⟨by rfl, ?hy0⟩) (by assumption) ?rest0
  case hy0 =>
    intro w hSw
    try dsimp only at hSw
    go_simp
    all_goals with_reducible rfl
  simp only [Act.put, List.getElem_toArray, List.getElem_cons_succ, List.getElem_cons_zero, List.setIfInBounds_toArray, List.set_cons_zero, List.set_cons_succ]
  refine wpAnyH_take (i := 1) (v := ?v1) rfl (by kernel_rfl) (by kernel_rfl) (by kernel_rfl) (fun _ _ _ h => h) (Or.inl ⟨by rfl, ?hy1⟩) (by assumption) ?rest1
  case hy1 =>
    intro w hSw
    try dsimp only at hSw
    go_simp
    all_goals with_reducible rfl
  simp only [Act.put, List.getElem_toArray, List.getElem_cons_succ, List.getElem_cons_zero, List.setIfInBounds_toArray, List.set_cons_zero, List.set_cons_succ]
  refine wpAnyH_take (i := 2) (v := ?v2) rfl (by kernel_rfl) (by kernel_rfl) (by kernel_rfl) (fun _ _ _ h => h) (Or.inl ⟨by rfl, ?hy2⟩) (by assumption) ?rest2
  case hy2 =>
    intro w hSw
    try dsimp only at hSw
    go_simp
    all_goals with_reducible rfl
  simp only [Act.put, List.getElem_toArray, List.getElem_cons_succ, List.getElem_cons_zero, List.setIfInBounds_toArray, List.set_cons_zero, List.set_cons_succ]
  refine wpAnyH_take (i := 3) (v := undef) rfl (by kernel_rfl) (by kernel_rfl) (by kernel_rfl) (fun _ _ _ h => h) (Or.inr ⟨by rfl, rfl⟩) (by assumption) ?_
  simp only [Act.put, List.getElem_toArray, List.getElem_cons_succ, List.getElem_cons_zero, List.setIfInBounds_toArray, List.set_cons_zero, List.set_cons_succ]
  refine wpAnyH_take (i := 4) (v := undef) rfl (by kernel_rfl) (by kernel_rfl) (by kernel_rfl) (fun _ _ _ h => h) (Or.inr ⟨by rfl, rfl⟩) (by assumption) ?_
  simp only [Act.put, List.getElem_toArray, List.getElem_cons_succ, List.getElem_cons_zero, List.setIfInBounds_toArray, List.set_cons_zero, List.set_cons_succ]
  refine wpAnyH_take (i := 5) (v := undef) rfl (by kernel_rfl) (by kernel_rfl) (by kernel_rfl) (fun _ _ _ h => h) (Or.inr ⟨by rfl, rfl⟩) (by assumption) ?_
  simp only [Act.put, List.getElem_toArray, List.getElem_cons_succ, List.getElem_cons_zero, List.setIfInBounds_toArray, List.set_cons_zero, List.set_cons_succ]
  refine wpAnyH_take (i := 6) (v := undef) rfl (by kernel_rfl) (by kernel_rfl) (by kernel_rfl) (fun _ _ _ h => h) (Or.inr ⟨by rfl, rfl⟩) (by assumption) ?_
  simp only [Act.put, List.getElem_toArray, List.getElem_cons_succ, List.getElem_cons_zero, List.setIfInBounds_toArray, List.set_cons_zero, List.set_cons_succ]
  refine wpAnyH_take (i := 7) (v := undef) rfl (by kernel_rfl) (by kernel_rfl) (by kernel_rfl) (fun _ _ _ h => h) (Or.inr ⟨by rfl, rfl⟩) (by assumption) ?_
  simp only [Act.put, List.getElem_toArray, List.getElem_cons_succ, List.getElem_cons_zero, List.setIfInBounds_toArray, List.set_cons_zero, List.set_cons_succ]
  refine wpAnyH_take (i := 8) (v := undef) rfl (by kernel_rfl) (by kernel_rfl) (by kernel_rfl) (fun _ _ _ h => h) (Or.inr ⟨by rfl, rfl⟩) (by assumption) ?_
  simp only [Act.put, List.getElem_toArray, List.getElem_cons_succ, List.getElem_cons_zero, List.setIfInBounds_toArray, List.set_cons_zero, List.set_cons_succ]
  refine wpAnyH_take (i := 9) (v := undef) rfl (by kernel_rfl) (by kernel_rfl) (by kernel_rfl) (fun _ _ _ h => h) (Or.inr ⟨by rfl, rfl⟩) (by assumption) ?_
  simp only [Act.put, List.getElem_toArray, List.getElem_cons_succ, List.getElem_cons_zero, List.setIfInBounds_toArray, List.set_cons_zero, List.set_cons_succ]
  refine wpAnyH_take (i := 10) (v := undef) rfl (by kernel_rfl) (by kernel_rfl) (by kernel_rfl) (fun _ _ _ h => h) (Or.inr ⟨by rfl, rfl⟩) (by assumption) ?_
  simp only [Act.put, List.getElem_toArray, List.getElem_cons_succ, List.getElem_cons_zero, List.setIfInBounds_toArray, List.set_cons_zero, List.set_cons_succ]
  refine wpAnyH_take (i := 11) (v := undef) rfl (by kernel_rfl) (by kernel_rfl) (by kernel_rfl) (fun _ _ _ h => h) (Or.inr ⟨by rfl, rfl⟩) (by assumption) ?_
  simp only [Act.put, List.getElem_toArray, List.getElem_cons_succ, List.getElem_cons_zero, List.setIfInBounds_toArray, List.set_cons_zero, List.set_cons_succ]
  refine wpAnyH_take (i := 12) (v := undef) rfl (by kernel_rfl) (by kernel_rfl) (by kernel_rfl) (fun _ _ _ h => h) (Or.inr ⟨by rfl, rfl⟩) (by assumption) ?_
  simp only [Act.put, List.getElem_toArray, List.getElem_cons_succ, List.getElem_cons_zero, List.setIfInBounds_toArray, List.set_cons_zero, List.set_cons_succ]
  refine wpAnyH_take (i := 13) (v := ?v13) rfl (by kernel_rfl) (by kernel_rfl) (by kernel_rfl) (fun _ _ _ h => h) (Or.inl ⟨by rfl, ?hy13⟩) (by assumption) ?rest13
  case hy13 =>
    intro w hSw
    try dsimp only at hSw
    go_simp
    all_goals with_reducible rfl
  simp only [Act.put, List.getElem_toArray, List.getElem_cons_succ, List.getElem_cons_zero, List.setIfInBounds_toArray, List.set_cons_zero, List.set_cons_succ]
  refine wpAnyH_take (i := 14) (v := ?v14) rfl (by kernel_rfl) (by kernel_rfl) (by kernel_rfl) (fun _ _ _ h => h) (Or.inl ⟨by rfl, ?hy14⟩) (by assumption) ?rest14
  case hy14 =>
    intro w hSw
    try dsimp only at hSw
    go_simp
    all_goals with_reducible rfl
  simp only [Act.put, List.getElem_toArray, List.getElem_cons_succ, List.getElem_cons_zero, List.setIfInBounds_toArray, List.set_cons_zero, List.set_cons_succ]
  refine wpAnyH_done (by kernel_rfl) ?_ _
  refine NoPanic.normal ?_
  go_wp2_with (refine wpList_store_row rfl 30 (.tmp 8) (.tmp 125) rfl w.heap.size _ rfl rfl 30 _ HR8.out (by kernel_rfl) rfl (res_one _ _ _ _ _ _) ?_)
  refine bodyPost_ret (results_cell_row rfl _ _ w.heap.size _ _ _ _ rfl (setRow_heap _ _ _ _ _ _ HR8.out) Try.underlying30 rfl (by kernel_rfl)) rfl ?_
  exact ⟨rfl, ref_ro H0.out (only_row ((HO.out.drew_)).wide _ _ (.inr (Nat.le_refl _)))⟩

set_option maxRecDepth 100000 in
set_option maxHeartbeats 2000000 in
theorem refFullPut (x : Nat) (cap : Int) (L : List PairD) (S : Nat → Prop) (key val : Int) (w : World) (H : RefS x cap L S w) (hL : L.length ≤ 16) (hh : hasP L key = false) (hfull : cap ≤ (L.length : Int)) :
    Calls Try.prog 15 #[.pointer (some ⟨x, 0, none⟩), .int .i64 2, .int .u64 key, .int .u64 val] w (RefPost x S cap w (resE 40) L) := by
  have H0 := Lib.hid H
  have HPL := Lib.hid (place_any x cap L S key _ (RefS.framed.alloc H (.cells #[.int .i64 0, .bool false, .int .u64 0, .bool false, .int .u64 0, .int .u64 0] 30)) hL)
  have hp : placeP L key = -1 := by unfold placeP; rw [hh]; rfl
  rw [hp] at HPL
  clear hp
  obtain ⟨v, hg, hown, hS, hvS⟩ := H
  obtain ⟨_, ao, cap2, rfl, _, _, _⟩ := id hown.rd
  have HG := Lib.hid hg
  clear hg hown hS hvS hh
  go_enter Try.func15, Try.ntmps15
  go_wp2_with fail
  refine HPL.out.mono ?_
  rintro e w1 ⟨rfl, ho⟩
  have hr8 := ho.heap (heap_alloc_new w _) (fun h => h)
  have hgx := ho.heap (heap_alloc HG.out) (fun h => h)
  have HR8 := Lib.hid hr8
  have c0 := cells_of_heap hgx 0 _ rfl
  have c1 := cells_of_heap hgx 1 _ rfl
  have HO := Lib.hid ((Only.alloc (fun _ => False) w _).tr ho)
  clear hr8 ho hgx
  go_wp2_with fail
  go_quiet (fail)
  go_wp2_with (refine wpList_store_row rfl 30 (.tmp 8) (.tmp 58) rfl w.heap.size _ rfl rfl 30 _ HR8.out (by kernel_rfl) rfl (res_one _ _ _ _ _ _) ?_)
  refine bodyPost_ret (results_cell_row rfl _ _ w.heap.size _ _ _ _ rfl (setRow_heap _ _ _ _ _ _ HR8.out) Try.underlying30 rfl (by kernel_rfl)) rfl ?_
  exact ⟨rfl, ref_ro H0.out (only_row ((HO.out.drewN _)).wide _ _ (.inr (Nat.le_refl _)))⟩

set_option maxRecDepth 100000 in
set_option maxHeartbeats 2000000 in
theorem refFullAdd (x : Nat) (cap : Int) (L : List PairD) (S : Nat → Prop) (key val : Int) (w : World) (H : RefS x cap L S w) (hL : L.length ≤ 16) (hh : hasP L key = false) (hfull : cap ≤ (L.length : Int)) :
    Calls Try.prog 15 #[.pointer (some ⟨x, 0, none⟩), .int .i64 4, .int .u64 key, .int .u64 val] w (RefPost x S cap w (resE 40) L) := by
  have H0 := Lib.hid H
  have HPL := Lib.hid (place_any x cap L S key _ (RefS.framed.alloc H (.cells #[.int .i64 0, .bool false, .int .u64 0, .bool false, .int .u64 0, .int .u64 0] 30)) hL)
  have hp : placeP L key = -1 := by unfold placeP; rw [hh]; rfl
  rw [hp] at HPL
  clear hp
  obtain ⟨v, hg, hown, hS, hvS⟩ := H
  obtain ⟨_, ao, cap2, rfl, _, _, _⟩ := id hown.rd
  have HG := Lib.hid hg
  clear hg hown hS hvS hh
  go_enter Try.func15, Try.ntmps15
  go_wp2_with fail
  refine HPL.out.mono ?_
  rintro e w1 ⟨rfl, ho⟩
  have hr8 := ho.heap (heap_alloc_new w _) (fun h => h)
  have hgx := ho.heap (heap_alloc HG.out) (fun h => h)
  have HR8 := Lib.hid hr8
  have c0 := cells_of_heap hgx 0 _ rfl
  have c1 := cells_of_heap hgx 1 _ rfl
  have HO := Lib.hid ((Only.alloc (fun _ => False) w _).tr ho)
  clear hr8 ho hgx
  go_wp2_with fail
  go_quiet (fail)
  go_wp2_with (refine wpList_store_row rfl 30 (.tmp 8) (.tmp 58) rfl w.heap.size _ rfl rfl 30 _ HR8.out (by kernel_rfl) rfl (res_one _ _ _ _ _ _) ?_)
  refine bodyPost_ret (results_cell_row rfl _ _ w.heap.size _ _ _ _ rfl (setRow_heap _ _ _ _ _ _ HR8.out) Try.underlying30 rfl (by kernel_rfl)) rfl ?_
  exact ⟨rfl, ref_ro H0.out (only_row ((HO.out.drewN _)).wide _ _ (.inr (Nat.le_refl _)))⟩
end Go.Proofs.Ythekjeghodpcoaa
