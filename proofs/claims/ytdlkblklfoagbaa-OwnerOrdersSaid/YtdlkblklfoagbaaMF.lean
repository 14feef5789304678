/- the chapters below, merged: MF -/
import Derived.Test.YtdlkblklfoagbaaMD
import Derived.Deep.RegionHeld3
import Derived.Test.YtdlkblklfoagbaaMC
namespace Go.Proofs.Ytdlkblklfoagbaa
open Go.RowKit
set_option linter.unusedVariables false
set_option linter.unusedSimpArgs false

/-- the document's book: its room, its pairs as they came -/
def RefS (x : Nat) (cap : Int) (L : List PairD) (S : Nat → Prop) (w : World) : Prop := Obj1 ePair 108 50 (fun v => #[.int .i64 cap, v]) x L S w
theorem RefS.framed {x : Nat} {cap : Int} {L : List PairD} : Framed (RefS x cap L) := Obj1.framed
def placeP (L : List PairD) (k : Int) : Int := if hasP L k then ((L.findIdx fun p => p.1 == k : Nat) : Int) else -1
theorem place_at {L : List PairD} {k : Int} {i : Nat} (hi : i < L.length) (h1 : ∀ a (h : a < L.length), a < i → L[a].1 ≠ k) (h2 : L[i].1 = k) : placeP L k = i ∧ hasP L k = true := by
  have hh : hasP L k = true := mem_has.2 ⟨L[i].2, by rw [← h2]; exact List.getElem_mem _⟩
  refine ⟨?_, hh⟩
  unfold placeP
  rw [hh, if_pos rfl]
  have : L.findIdx (fun p => p.1 == k) = i := (List.findIdx_eq hi).2 ⟨by simpa using h2, fun j hj => by have := h1 j (by omega) hj; simpa using this⟩
  rw [this]
theorem place_none {L : List PairD} {k : Int} (h1 : ∀ a (h : a < L.length), L[a].1 ≠ k) : placeP L k = -1 ∧ hasP L k = false := by
  have hh : hasP L k = false := by
    unfold hasP
    rw [List.any_eq_false]
    intro p hp
    obtain ⟨a, ha, rfl⟩ := List.getElem_of_mem hp
    have := h1 a ha
    simpa using this
  refine ⟨?_, hh⟩
  unfold placeP
  rw [hh]; rfl
def NoneTo (L : List PairD) (k : Int) (i : Nat) : Prop := ∀ a (h : a < L.length), a < i → L[a].1 ≠ k

theorem refNew_bad (cap : Int) (w : World) (h : cap < 1 ∨ 16 < cap) :
    Calls Try.prog 33 #[.int .i64 cap] w fun e w' => e = .returned (.tuple #[.pointer none, .int .i64 2]) ∧ Only (fun _ => False) w w' := by
  by_cases h1 : cap < 1
  · clear h
    go_enter Try.func33, Try.ntmps33
    go_wp2_with fail
    go_ret2
    exact ⟨rfl, Only.refl _ _⟩
  · have h2 : 16 < cap := by omega
    clear h
    go_enter Try.func33, Try.ntmps33
    go_wp2_with fail
    go_ret2
    exact ⟨rfl, Only.refl _ _⟩
theorem refNew_ok (cap : Int) (w : World) (h1 : 1 ≤ cap) (h2 : cap ≤ 16) :
    Calls Try.prog 33 #[.int .i64 cap] w fun e w' => ∃ b, e = .returned (.tuple #[.pointer (some ⟨b, 0, none⟩), .int .i64 0]) ∧ RefS b cap [] (fun k => w.heap.size ≤ k) w' ∧ Only (fun _ => False) w w' := by
  go_enter Try.func33, Try.ntmps33
  go_wp2_with fail
  go_ret2
  exact ⟨w.heap.size, rfl, ⟨_, heap_alloc_new w _, Ow.nil _ _ _, Nat.le_refl _, fun k hk => by simp [Value.ownBlock] at hk⟩, Only.alloc _ _ _⟩

set_option maxHeartbeats 1000000 in
theorem place_any (x : Nat) (cap : Int) (L : List PairD) (S : Nat → Prop) (key : Int) (w : World) (H : RefS x cap L S w) (hL : L.length ≤ 16) :
    Calls Try.prog 38 #[.pointer (some ⟨x, 0, none⟩), .int .u64 key] w fun e w' => e = .returned (.int .i64 (placeP L key)) ∧ Only (fun _ => False) w w' := by
  obtain ⟨v, hg, hown, hS, hvS⟩ := H
  have hrd := hown.rd
  have HRD := Lib.hid hrd
  obtain ⟨_, ao, cap2, rfl, _, _, _⟩ := id hrd
  have c1 := cells_of_heap hg 1 _ rfl
  clear hg hown hrd hS hvS
  go_enter Try.func38, Try.ntmps38
  go_wp2_with fail
  go_loopw [5] (fun t5 wr => ∃ i q : Nat, i ≤ L.length ∧ t5 = .int .i64 i ∧ wr = w.drewN q ∧ Hid (NoneTo L key i)) (fun t5 _ => L.length - (intOf t5).toNat)
  case atStart => exact ⟨0, 0, Nat.zero_le _, rfl, rfl, fun a _ h => by omega⟩
  case round =>
    obtain ⟨i, q, hi, rfl, rfl, HN⟩ := hrel
    by_cases hlt : i < L.length
    · obtain ⟨_, ao', cap', hao, _, _, hx⟩ := HRD.out
      obtain ⟨rfl, _, rfl⟩ : ao = ao' ∧ L.length = L.length ∧ cap2 = cap' := by simpa using hao
      obtain ⟨sb, off, rfl, hc⟩ := hx (by omega)
      obtain ⟨d0, _⟩ := pair_cells hc i hlt
      have hi0 : (0 : Int) ≤ (i : Int) := by omega
      have hi1 : (i : Int) < (L.length : Int) := by omega
      clear hc hx hao
      by_cases hk : L[i].1 = key
      · have HP := Lib.hid (place_at hlt HN.out hk).1
        rw [hk] at d0
        clear hk
        go_wp2_with fail
        go_ret
        rw [HP.out]
        exact ⟨rfl, (Only.refl _ _).drewN _⟩
      · have HN2 := Lib.hid (show NoneTo L key (i + 1) from fun a ha hlt' => by
          by_cases e : a = i
          · subst e; exact hk
          · exact HN.out a ha (by omega))
        generalize L[i].1 = p0 at *
        go_wp2_with fail
        go_roundw
        case rel => exact ⟨i + 1, q, by omega, by go_num, rfl, HN2⟩
        case measure => simp [intOf]; omega
    · have HP := Lib.hid (place_none (L := L) (k := key) fun a ha => HN.out a ha (by omega)).1
      go_wp2_with fail
      go_ret
      rw [HP.out]
      exact ⟨rfl, (Only.refl _ _).drewN _⟩

def RefPost (x : Nat) (S : Nat → Prop) (cap : Int) (w : World) (r : ResD) (L : List PairD) (e : Ending) (w' : World) : Prop :=
  e = .returned (.agg #[.int .i64 r.1, .bool r.2.1, .int .u64 r.2.2.1, .bool r.2.2.2.1, .int .u64 r.2.2.2.2.1, .int .u64 r.2.2.2.2.2]) ∧ RefS x cap L (fun k => S k ∨ w.heap.size ≤ k) w' ∧ Only S w w'
theorem ref_ro {x : Nat} {cap : Int} {L : List PairD} {S : Nat → Prop} {w w' : World} (H : RefS x cap L S w) (ho : Only (fun k => w.heap.size ≤ k) w w') : RefS x cap L (fun k => S k ∨ w.heap.size ≤ k) w' ∧ Only S w w' :=
  ⟨RefS.framed.mono S _ _ (RefS.framed.only S _ w w' H ho fun k hk _ h => by omega) (fun _ _ h => .inl h), ho.mono fun k hk h => by omega⟩

set_option maxRecDepth 100000 in
set_option maxHeartbeats 2000000 in
theorem refGet_no (x : Nat) (cap : Int) (L : List PairD) (S : Nat → Prop) (key val : Int) (w : World) (H : RefS x cap L S w) (hL : L.length ≤ 16) (hh : hasP L key = false) :
    Calls Try.prog 36 #[.pointer (some ⟨x, 0, none⟩), .int .i64 0, .int .u64 key, .int .u64 val] w (RefPost x S cap w (resF false 0) L) := by
  have H0 := Lib.hid H
  have HPL := Lib.hid (place_any x cap L S key _ (RefS.framed.alloc H (.cells #[.int .i64 0, .bool false, .int .u64 0, .bool false, .int .u64 0, .int .u64 0] 41)) hL)
  have hp : placeP L key = -1 := by unfold placeP; rw [hh]; rfl
  rw [hp] at HPL
  clear hp
  obtain ⟨v, hg, hown, hS, hvS⟩ := H
  obtain ⟨_, ao, cap2, rfl, _, _, _⟩ := id hown.rd
  have HG := Lib.hid hg
  clear hg hown hS hvS hh
  go_enter Try.func36, Try.ntmps36
  go_wp2_with fail
  refine HPL.out.mono ?_
  rintro e w1 ⟨rfl, ho⟩
  have hr8 := ho.heap (heap_alloc_new w _) (fun h => h)
  have hgx := ho.heap (heap_alloc HG.out) (fun h => h)
  have HR8 := Lib.hid hr8
  have c0 := cells_of_heap hgx 0 _ rfl
  have c1 := cells_of_heap hgx 1 _ rfl
  have HO := Lib.hid ((Only.alloc (fun _ => False) w _).tr ho)
  clear hr8 ho hgx
  go_wp2_with fail
  go_quiet (fail)
  go_wp2_with (refine wpList_store_row rfl 41 (.tmp 8) (.tmp 48) rfl w.heap.size _ rfl rfl 41 _ HR8.out (by kernel_rfl) rfl (res_one _ _ _ _ _ _) ?_)
  refine bodyPost_ret (results_cell_row rfl _ _ w.heap.size _ _ _ _ rfl (setRow_heap _ _ _ _ _ _ HR8.out) Try.underlying41 rfl (by kernel_rfl)) rfl ?_
  exact ⟨rfl, ref_ro H0.out (only_row ((HO.out.drewN _)).wide _ _ (.inr (Nat.le_refl _)))⟩

set_option maxRecDepth 100000 in
set_option maxHeartbeats 2000000 in
theorem refGet_yes (x : Nat) (cap : Int) (L : List PairD) (S : Nat → Prop) (key val : Int) (w : World) (H : RefS x cap L S w) (hL : L.length ≤ 16) (p : Nat) (hp : p < L.length) (hpl : placeP L key = p) :
    Calls Try.prog 36 #[.pointer (some ⟨x, 0, none⟩), .int .i64 0, .int .u64 key, .int .u64 val] w (RefPost x S cap w (resF true L[p].2) L) := by
  have H0 := Lib.hid H
  have HPL := Lib.hid (place_any x cap L S key _ (RefS.framed.alloc H (.cells #[.int .i64 0, .bool false, .int .u64 0, .bool false, .int .u64 0, .int .u64 0] 41)) hL)
  rw [hpl] at HPL
  clear hpl
  obtain ⟨v, hg, hown, hS, hvS⟩ := H
  have hgne := row_ne hg hown (by decide)
  obtain ⟨_, ao, cap2, rfl, _, _, hx⟩ := id hown.rd
  obtain ⟨sb, off, rfl, hc⟩ := hx (by omega)
  obtain ⟨_, k1⟩ := pair_cells hc p hp
  have HK1 := Lib.hid k1
  have hpi0 : (0 : Int) ≤ (p : Int) := by omega
  have hpi1 : (p : Int) < (L.length : Int) := by omega
  have HSB := Lib.hid (show sb < w.heap.size from (hown.lt rfl).2)
  have HG := Lib.hid hg
  clear hg hown hS hvS hx hc k1 hgne
  generalize L[p].2 = old at *
  go_enter Try.func36, Try.ntmps36
  go_wp2_with fail
  refine HPL.out.mono ?_
  rintro e w1 ⟨rfl, ho⟩
  have hr8 := ho.heap (heap_alloc_new w _) (fun h => h)
  have hgx := ho.heap (heap_alloc HG.out) (fun h => h)
  have HR8 := Lib.hid hr8
  have c0 := cells_of_heap hgx 0 _ rfl
  have c1 := cells_of_heap hgx 1 _ rfl
  have HO := Lib.hid ((Only.alloc (fun _ => False) w _).tr ho)
  have d1 : w1.cell? ⟨sb, off + p * 2 + 1, none⟩ = some (.int .u64 old) := (World.cell?_of_block (w := w) (w' := w1) (a := ⟨sb, off + p * 2 + 1, none⟩) (HO.out.block sb HSB.out (fun h => h))).trans HK1.out
  clear hr8 ho hgx
  go_wp2_with fail
  refine wp_region_noPanic ?_
  refine wp_region_held_drew (S := fun _ => True) (by kernel_rfl) ?_ (fun hHeld => ?_)
  · exact trivial
  try simp only [Act.put, List.getElem_toArray, List.getElem_cons_succ, List.getElem_cons_zero, List.setIfInBounds_toArray, List.set_cons_zero, List.set_cons_succ]
  refine wpAnyH_take (i := 0) (v := ?v0) rfl (by kernel_rfl) (by kernel_rfl) (by kernel_rfl) (fun _ _ _ h => h) (Or.inl ⟨by rfl, ?hy0⟩) (by assumption) ?rest0
  case hy0 =>
    intro w hSw
    try dsimp only at hSw
    go_simp
    all_goals with_reducible rfl
  simp only [Act.put, List.getElem_toArray, List.getElem_cons_succ, List.getElem_cons_zero, List.setIfInBounds_toArray, List.set_cons_zero, List.set_cons_succ]
  refine wpAnyH_take (i := 1) (v := ?v1) rfl (by kernel_rfl) (by kernel_rfl) (by kernel_rfl) (fun _ _ _ h => h) (Or.inl ⟨by rfl, ?hy1⟩) (by assumption) ?rest1
  case hy1 =>
    intro w hSw
    try dsimp only at hSw
    go_simp
    all_goals with_reducible rfl
  simp only [Act.put, List.getElem_toArray, List.getElem_cons_succ, List.getElem_cons_zero, List.setIfInBounds_toArray, List.set_cons_zero, List.set_cons_succ]
  refine wpAnyH_take (i := 2) (v := ?v2) rfl (by kernel_rfl) (by kernel_rfl) (by kernel_rfl) (fun _ _ _ h => h) (Or.inl ⟨by rfl, ?hy2⟩) (by assumption) ?rest2
  case hy2 =>
    intro w hSw
    try dsimp only at hSw
    go_simp
    all_goals with_reducible rfl
  simp only [Act.put, List.getElem_toArray, List.getElem_cons_succ, List.getElem_cons_zero, List.setIfInBounds_toArray, List.set_cons_zero, List.set_cons_succ]
  refine wpAnyH_take (i := 3) (v := undef) rfl (by kernel_rfl) (by kernel_rfl) (by kernel_rfl) (fun _ _ _ h => h) (Or.inr ⟨by rfl, rfl⟩) (by assumption) ?_
  simp only [Act.put, List.getElem_toArray, List.getElem_cons_succ, List.getElem_cons_zero, List.setIfInBounds_toArray, List.set_cons_zero, List.set_cons_succ]
  refine wpAnyH_take (i := 4) (v := undef) rfl (by kernel_rfl) (by kernel_rfl) (by kernel_rfl) (fun _ _ _ h => h) (Or.inr ⟨by rfl, rfl⟩) (by assumption) ?_
  simp only [Act.put, List.getElem_toArray, List.getElem_cons_succ, List.getElem_cons_zero, List.setIfInBounds_toArray, List.set_cons_zero, List.set_cons_succ]
  refine wpAnyH_take (i := 5) (v := undef) rfl (by kernel_rfl) (by kernel_rfl) (by kernel_rfl) (fun _ _ _ h => h) (Or.inr ⟨by rfl, rfl⟩) (by assumption) ?_
  simp only [Act.put, List.getElem_toArray, List.getElem_cons_succ, List.getElem_cons_zero, List.setIfInBounds_toArray, List.set_cons_zero, List.set_cons_succ]
  refine wpAnyH_take (i := 6) (v := undef) rfl (by kernel_rfl) (by kernel_rfl) (by kernel_rfl) (fun _ _ _ h => h) (Or.inr ⟨by rfl, rfl⟩) (by assumption) ?_
  simp only [Act.put, List.getElem_toArray, List.getElem_cons_succ, List.getElem_cons_zero, List.setIfInBounds_toArray, List.set_cons_zero, List.set_cons_succ]
  refine wpAnyH_take (i := 7) (v := undef) rfl (by kernel_rfl) (by kernel_rfl) (by kernel_rfl) (fun _ _ _ h => h) (Or.inr ⟨by rfl, rfl⟩) (by assumption) ?_
  simp only [Act.put, List.getElem_toArray, List.getElem_cons_succ, List.getElem_cons_zero, List.setIfInBounds_toArray, List.set_cons_zero, List.set_cons_succ]
  refine wpAnyH_take (i := 8) (v := undef) rfl (by kernel_rfl) (by kernel_rfl) (by kernel_rfl) (fun _ _ _ h => h) (Or.inr ⟨by rfl, rfl⟩) (by assumption) ?_
  simp only [Act.put, List.getElem_toArray, List.getElem_cons_succ, List.getElem_cons_zero, List.setIfInBounds_toArray, List.set_cons_zero, List.set_cons_succ]
  refine wpAnyH_take (i := 9) (v := undef) rfl (by kernel_rfl) (by kernel_rfl) (by kernel_rfl) (fun _ _ _ h => h) (Or.inr ⟨by rfl, rfl⟩) (by assumption) ?_
  simp only [Act.put, List.getElem_toArray, List.getElem_cons_succ, List.getElem_cons_zero, List.setIfInBounds_toArray, List.set_cons_zero, List.set_cons_succ]
  refine wpAnyH_take (i := 10) (v := undef) rfl (by kernel_rfl) (by kernel_rfl) (by kernel_rfl) (fun _ _ _ h => h) (Or.inr ⟨by rfl, rfl⟩) (by assumption) ?_
  simp only [Act.put, List.getElem_toArray, List.getElem_cons_succ, List.getElem_cons_zero, List.setIfInBounds_toArray, List.set_cons_zero, List.set_cons_succ]
  refine wpAnyH_take (i := 11) (v := undef) rfl (by kernel_rfl) (by kernel_rfl) (by kernel_rfl) (fun _ _ _ h => h) (Or.inr ⟨by rfl, rfl⟩) (by assumption) ?_
  simp only [Act.put, List.getElem_toArray, List.getElem_cons_succ, List.getElem_cons_zero, List.setIfInBounds_toArray, List.set_cons_zero, List.set_cons_succ]
  refine wpAnyH_take (i := 12) (v := undef) rfl (by kernel_rfl) (by kernel_rfl) (by kernel_rfl) (fun _ _ _ h => h) (Or.inr ⟨by rfl, rfl⟩) (by assumption) ?_
  simp only [Act.put, List.getElem_toArray, List.getElem_cons_succ, List.getElem_cons_zero, List.setIfInBounds_toArray, List.set_cons_zero, List.set_cons_succ]
  refine wpAnyH_take (i := 13) (v := ?v13) rfl (by kernel_rfl) (by kernel_rfl) (by kernel_rfl) (fun _ _ _ h => h) (Or.inl ⟨by rfl, ?hy13⟩) (by assumption) ?rest13
  case hy13 =>
    intro w hSw
    try dsimp only at hSw
    go_simp
    all_goals with_reducible rfl
  simp only [Act.put, List.getElem_toArray, List.getElem_cons_succ, List.getElem_cons_zero, List.setIfInBounds_toArray, List.set_cons_zero, List.set_cons_succ]
  refine wpAnyH_take (i := 14) (v := ?v14) rfl (by kernel_rfl) (by kernel_rfl) (by kernel_rfl) (fun _ _ _ h => h) (Or.inl ⟨by rfl, ?hy14⟩) (by assumption) ?rest14
  case hy14 =>
    intro w hSw
    try dsimp only at hSw
    go_simp
    all_goals with_reducible rfl
  simp only [Act.put, List.getElem_toArray, List.getElem_cons_succ, List.getElem_cons_zero, List.setIfInBounds_toArray, List.set_cons_zero, List.set_cons_succ]
  refine wpAnyH_done (by kernel_rfl) ?_ _
  refine NoPanic.normal ?_
  go_wp2_with (refine wpList_store_row rfl 41 (.tmp 8) (.tmp 48) rfl w.heap.size _ rfl rfl 41 _ HR8.out (by kernel_rfl) rfl (res_one _ _ _ _ _ _) ?_)
  refine bodyPost_ret (results_cell_row rfl _ _ w.heap.size _ _ _ _ rfl (setRow_heap _ _ _ _ _ _ HR8.out) Try.underlying41 rfl (by kernel_rfl)) rfl ?_
  exact ⟨rfl, ref_ro H0.out (only_row ((HO.out.drew_)).wide _ _ (.inr (Nat.le_refl _)))⟩

set_option maxRecDepth 100000 in
set_option maxHeartbeats 2000000 in
theorem refHas_no (x : Nat) (cap : Int) (L : List PairD) (S : Nat → Prop) (key val : Int) (w : World) (H : RefS x cap L S w) (hL : L.length ≤ 16) (hh : hasP L key = false) :
    Calls Try.prog 36 #[.pointer (some ⟨x, 0, none⟩), .int .i64 1, .int .u64 key, .int .u64 val] w (RefPost x S cap w (resF false 0) L) := by
  have H0 := Lib.hid H
  have HPL := Lib.hid (place_any x cap L S key _ (RefS.framed.alloc H (.cells #[.int .i64 0, .bool false, .int .u64 0, .bool false, .int .u64 0, .int .u64 0] 41)) hL)
  have hp : placeP L key = -1 := by unfold placeP; rw [hh]; rfl
  rw [hp] at HPL
  clear hp
  obtain ⟨v, hg, hown, hS, hvS⟩ := H
  obtain ⟨_, ao, cap2, rfl, _, _, _⟩ := id hown.rd
  have HG := Lib.hid hg
  clear hg hown hS hvS hh
  go_enter Try.func36, Try.ntmps36
  go_wp2_with fail
  refine HPL.out.mono ?_
  rintro e w1 ⟨rfl, ho⟩
  have hr8 := ho.heap (heap_alloc_new w _) (fun h => h)
  have hgx := ho.heap (heap_alloc HG.out) (fun h => h)
  have HR8 := Lib.hid hr8
  have c0 := cells_of_heap hgx 0 _ rfl
  have c1 := cells_of_heap hgx 1 _ rfl
  have HO := Lib.hid ((Only.alloc (fun _ => False) w _).tr ho)
  clear hr8 ho hgx
  go_wp2_with fail
  go_quiet (fail)
  go_wp2_with (refine wpList_store_row rfl 41 (.tmp 8) (.tmp 53) rfl w.heap.size _ rfl rfl 41 _ HR8.out (by kernel_rfl) rfl (res_one _ _ _ _ _ _) ?_)
  refine bodyPost_ret (results_cell_row rfl _ _ w.heap.size _ _ _ _ rfl (setRow_heap _ _ _ _ _ _ HR8.out) Try.underlying41 rfl (by kernel_rfl)) rfl ?_
  exact ⟨rfl, ref_ro H0.out (only_row ((HO.out.drewN _)).wide _ _ (.inr (Nat.le_refl _)))⟩

set_option maxRecDepth 100000 in
set_option maxHeartbeats 2000000 in
theorem refHas_yes (x : Nat) (cap : Int) (L : List PairD) (S : Nat → Prop) (key val : Int) (w : World) (H : RefS x cap L S w) (hL : L.length ≤ 16) (p : Nat) (hp : p < L.length) (hpl : placeP L key = p) :
    Calls Try.prog 36 #[.pointer (some ⟨x, 0, none⟩), .int .i64 1, .int .u64 key, .int .u64 val] w (RefPost x S cap w (resF true 0) L) := by
  have H0 := Lib.hid H
  have HPL := Lib.hid (place_any x cap L S key _ (RefS.framed.alloc H (.cells #[.int .i64 0, .bool false, .int .u64 0, .bool false, .int .u64 0, .int .u64 0] 41)) hL)
  rw [hpl] at HPL
  clear hpl
  obtain ⟨v, hg, hown, hS, hvS⟩ := H
  have hgne := row_ne hg hown (by decide)
  obtain ⟨_, ao, cap2, rfl, _, _, hx⟩ := id hown.rd
  obtain ⟨sb, off, rfl, hc⟩ := hx (by omega)
  obtain ⟨_, k1⟩ := pair_cells hc p hp
  have HK1 := Lib.hid k1
  have hpi0 : (0 : Int) ≤ (p : Int) := by omega
  have hpi1 : (p : Int) < (L.length : Int) := by omega
  have HSB := Lib.hid (show sb < w.heap.size from (hown.lt rfl).2)
  have HG := Lib.hid hg
  clear hg hown hS hvS hx hc k1 hgne
  generalize L[p].2 = old at *
  go_enter Try.func36, Try.ntmps36
  go_wp2_with fail
  refine HPL.out.mono ?_
  rintro e w1 ⟨rfl, ho⟩
  have hr8 := ho.heap (heap_alloc_new w _) (fun h => h)
  have hgx := ho.heap (heap_alloc HG.out) (fun h => h)
  have HR8 := Lib.hid hr8
  have c0 := cells_of_heap hgx 0 _ rfl
  have c1 := cells_of_heap hgx 1 _ rfl
  have HO := Lib.hid ((Only.alloc (fun _ => False) w _).tr ho)
  have d1 : w1.cell? ⟨sb, off + p * 2 + 1, none⟩ = some (.int .u64 old) := (World.cell?_of_block (w := w) (w' := w1) (a := ⟨sb, off + p * 2 + 1, none⟩) (HO.out.block sb HSB.out (fun h => h))).trans HK1.out
  clear hr8 ho hgx
  go_wp2_with fail
  refine wp_region_noPanic ?_
  refine wp_region_held_drew (S := fun _ => True) (by kernel_rfl) ?_ (fun hHeld => ?_)
  · exact trivial
  try simp only [Act.put, List.getElem_toArray, List.getElem_cons_succ, List.getElem_cons_zero, List.setIfInBounds_toArray, List.set_cons_zero, List.set_cons_succ]
  refine wpAnyH_take (i := 0) (v := ?v0) rfl (by kernel_rfl) (by kernel_rfl) (by kernel_rfl) (fun _ _ _ h => h) (Or.inl ⟨by rfl, ?hy0⟩) (by assumption) ?rest0
  case hy0 =>
    intro w hSw
    try dsimp only at hSw
    go_simp
    all_goals with_reducible rfl
  simp only [Act.put, List.getElem_toArray, List.getElem_cons_succ, List.getElem_cons_zero, List.setIfInBounds_toArray, List.set_cons_zero, List.set_cons_succ]
  refine wpAnyH_take (i := 1) (v := ?v1) rfl (by kernel_rfl) (by kernel_rfl) (by kernel_rfl) (fun _ _ _ h => h) (Or.inl ⟨by rfl, ?hy1⟩) (by assumption) ?rest1
  case hy1 =>
    intro w hSw
    try dsimp only at hSw
    go_simp
    all_goals with_reducible rfl
  simp only [Act.put, List.getElem_toArray, List.getElem_cons_succ, List.getElem_cons_zero, List.setIfInBounds_toArray, List.set_cons_zero, List.set_cons_succ]
  refine wpAnyH_take (i := 2) (v := ?v2) rfl (by kernel_rfl) (by kernel_rfl) (by kernel_rfl) (fun _ _ _ h => h) (Or.inl ⟨by rfl, ?hy2⟩) (by assumption) ?rest2
  case hy2 =>
    intro w hSw
    try dsimp only at hSw
    go_simp
    all_goals with_reducible rfl
  simp only [Act.put, List.getElem_toArray, List.getElem_cons_succ, List.getElem_cons_zero, List.setIfInBounds_toArray, List.set_cons_zero, List.set_cons_succ]
  refine wpAnyH_take (i := 3) (v := undef) rfl (by kernel_rfl) (by kernel_rfl) (by kernel_rfl) (fun _ _ _ h => h) (Or.inr ⟨by rfl, rfl⟩) (by assumption) ?_
  simp only [Act.put, List.getElem_toArray, List.getElem_cons_succ, List.getElem_cons_zero, List.setIfInBounds_toArray, List.set_cons_zero, List.set_cons_succ]
  refine wpAnyH_take (i := 4) (v := undef) rfl (by kernel_rfl) (by kernel_rfl) (by kernel_rfl) (fun _ _ _ h => h) (Or.inr ⟨by rfl, rfl⟩) (by assumption) ?_
  simp only [Act.put, List.getElem_toArray, List.getElem_cons_succ, List.getElem_cons_zero, List.setIfInBounds_toArray, List.set_cons_zero, List.set_cons_succ]
  refine wpAnyH_take (i := 5) (v := undef) rfl (by kernel_rfl) (by kernel_rfl) (by kernel_rfl) (fun _ _ _ h => h) (Or.inr ⟨by rfl, rfl⟩) (by assumption) ?_
  simp only [Act.put, List.getElem_toArray, List.getElem_cons_succ, List.getElem_cons_zero, List.setIfInBounds_toArray, List.set_cons_zero, List.set_cons_succ]
  refine wpAnyH_take (i := 6) (v := undef) rfl (by kernel_rfl) (by kernel_rfl) (by kernel_rfl) (fun _ _ _ h => h) (Or.inr ⟨by rfl, rfl⟩) (by assumption) ?_
  simp only [Act.put, List.getElem_toArray, List.getElem_cons_succ, List.getElem_cons_zero, List.setIfInBounds_toArray, List.set_cons_zero, List.set_cons_succ]
  refine wpAnyH_take (i := 7) (v := undef) rfl (by kernel_rfl) (by kernel_rfl) (by kernel_rfl) (fun _ _ _ h => h) (Or.inr ⟨by rfl, rfl⟩) (by assumption) ?_
  simp only [Act.put, List.getElem_toArray, List.getElem_cons_succ, List.getElem_cons_zero, List.setIfInBounds_toArray, List.set_cons_zero, List.set_cons_succ]
  refine wpAnyH_take (i := 8) (v := undef) rfl (by kernel_rfl) (by kernel_rfl) (by kernel_rfl) (fun _ _ _ h => h) (Or.inr ⟨by rfl, rfl⟩) (by assumption) ?_
  simp only [Act.put, List.getElem_toArray, List.getElem_cons_succ, List.getElem_cons_zero, List.setIfInBounds_toArray, List.set_cons_zero, List.set_cons_succ]
  refine wpAnyH_take (i := 9) (v := undef) rfl (by kernel_rfl) (by kernel_rfl) (by kernel_rfl) (fun _ _ _ h => h) (Or.inr ⟨by rfl, rfl⟩) (by assumption) ?_
  simp only [Act.put, List.getElem_toArray, List.getElem_cons_succ, List.getElem_cons_zero, List.setIfInBounds_toArray, List.set_cons_zero, List.set_cons_succ]
  refine wpAnyH_take (i := 10) (v := undef) rfl (by kernel_rfl) (by kernel_rfl) (by kernel_rfl) (fun _ _ _ h => h) (Or.inr ⟨by rfl, rfl⟩) (by assumption) ?_
  simp only [Act.put, List.getElem_toArray, List.getElem_cons_succ, List.getElem_cons_zero, List.setIfInBounds_toArray, List.set_cons_zero, List.set_cons_succ]
  refine wpAnyH_take (i := 11) (v := undef) rfl (by kernel_rfl) (by kernel_rfl) (by kernel_rfl) (fun _ _ _ h => h) (Or.inr ⟨by rfl, rfl⟩) (by assumption) ?_
  simp only [Act.put, List.getElem_toArray, List.getElem_cons_succ, List.getElem_cons_zero, List.setIfInBounds_toArray, List.set_cons_zero, List.set_cons_succ]
  refine wpAnyH_take (i := 12) (v := undef) rfl (by kernel_rfl) (by kernel_rfl) (by kernel_rfl) (fun _ _ _ h => h) (Or.inr ⟨by rfl, rfl⟩) (by assumption) ?_
  simp only [Act.put, List.getElem_toArray, List.getElem_cons_succ, List.getElem_cons_zero, List.setIfInBounds_toArray, List.set_cons_zero, List.set_cons_succ]
  refine wpAnyH_take (i := 13) (v := ?v13) rfl (by kernel_rfl) (by kernel_rfl) (by kernel_rfl) (fun _ _ _ h => h) (Or.inl ⟨by rfl, ?hy13⟩) (by assumption) ?rest13
  case hy13 =>
    intro w hSw
    try dsimp only at hSw
    go_simp
    all_goals with_reducible rfl
  simp only [Act.put, List.getElem_toArray, List.getElem_cons_succ, List.getElem_cons_zero, List.setIfInBounds_toArray, List.set_cons_zero, List.set_cons_succ]
  refine wpAnyH_take (i := 14) (v := ?v14) rfl (by kernel_rfl) (by kernel_rfl) (by kernel_rfl) (fun _ _ _ h => h) (Or.inl ⟨by rfl, ?hy14⟩) (by assumption) ?rest14
  case hy14 =>
    intro w hSw
    try dsimp only at hSw
    go_simp
    all_goals with_reducible rfl
  simp only [Act.put, List.getElem_toArray, List.getElem_cons_succ, List.getElem_cons_zero, List.setIfInBounds_toArray, List.set_cons_zero, List.set_cons_succ]
  refine wpAnyH_done (by kernel_rfl) ?_ _
  refine NoPanic.normal ?_
  go_wp2_with (refine wpList_store_row rfl 41 (.tmp 8) (.tmp 53) rfl w.heap.size _ rfl rfl 41 _ HR8.out (by kernel_rfl) rfl (res_one _ _ _ _ _ _) ?_)
  refine bodyPost_ret (results_cell_row rfl _ _ w.heap.size _ _ _ _ rfl (setRow_heap _ _ _ _ _ _ HR8.out) Try.underlying41 rfl (by kernel_rfl)) rfl ?_
  exact ⟨rfl, ref_ro H0.out (only_row ((HO.out.drew_)).wide _ _ (.inr (Nat.le_refl _)))⟩

set_option maxRecDepth 100000 in
set_option maxHeartbeats 2000000 in
theorem refBad_no (x : Nat) (cap : Int) (L : List PairD) (S : Nat → Prop) (op : Int) (key val : Int) (w : World) (H : RefS x cap L S w) (hL : L.length ≤ 16) (hh : hasP L key = false) (hop0 : ¬ op = 0) (hop1 : ¬ op = 1) (hop2 : ¬ op = 2) (hop3 : ¬ op = 3) (hop4 : ¬ op = 4) :
    Calls Try.prog 36 #[.pointer (some ⟨x, 0, none⟩), .int .i64 op, .int .u64 key, .int .u64 val] w (RefPost x S cap w (resE 2) L) := by
  have H0 := Lib.hid H
  have HPL := Lib.hid (place_any x cap L S key _ (RefS.framed.alloc H (.cells #[.int .i64 0, .bool false, .int .u64 0, .bool false, .int .u64 0, .int .u64 0] 41)) hL)
  have hp : placeP L key = -1 := by unfold placeP; rw [hh]; rfl
  rw [hp] at HPL
  clear hp
  obtain ⟨v, hg, hown, hS, hvS⟩ := H
  obtain ⟨_, ao, cap2, rfl, _, _, _⟩ := id hown.rd
  have HG := Lib.hid hg
  clear hg hown hS hvS hh
  go_enter Try.func36, Try.ntmps36
  go_wp2_with fail
  refine HPL.out.mono ?_
  rintro e w1 ⟨rfl, ho⟩
  have hr8 := ho.heap (heap_alloc_new w _) (fun h => h)
  have hgx := ho.heap (heap_alloc HG.out) (fun h => h)
  have HR8 := Lib.hid hr8
  have c0 := cells_of_heap hgx 0 _ rfl
  have c1 := cells_of_heap hgx 1 _ rfl
  have HO := Lib.hid ((Only.alloc (fun _ => False) w _).tr ho)
  clear hr8 ho hgx
  go_wp2_with fail
  go_quiet (fail)
  go_wp2_with (refine wpList_store_row rfl 41 (.tmp 8) (.tmp 125) rfl w.heap.size _ rfl rfl 41 _ HR8.out (by kernel_rfl) rfl (res_one _ _ _ _ _ _) ?_)
  refine bodyPost_ret (results_cell_row rfl _ _ w.heap.size _ _ _ _ rfl (setRow_heap _ _ _ _ _ _ HR8.out) Try.underlying41 rfl (by kernel_rfl)) rfl ?_
  exact ⟨rfl, ref_ro H0.out (only_row ((HO.out.drewN _)).wide _ _ (.inr (Nat.le_refl _)))⟩

set_option maxRecDepth 100000 in
set_option maxHeartbeats 2000000 in
theorem refBad_yes (x : Nat) (cap : Int) (L : List PairD) (S : Nat → Prop) (op : Int) (key val : Int) (w : World) (H : RefS x cap L S w) (hL : L.length ≤ 16) (p : Nat) (hp : p < L.length) (hpl : placeP L key = p) (hop0 : ¬ op = 0) (hop1 : ¬ op = 1) (hop2 : ¬ op = 2) (hop3 : ¬ op = 3) (hop4 : ¬ op = 4) :
    Calls Try.prog 36 #[.pointer (some ⟨x, 0, none⟩), .int .i64 op, .int .u64 key, .int .u64 val] w (RefPost x S cap w (resE 2) L) := by
  have H0 := Lib.hid H
  have HPL := Lib.hid (place_any x cap L S key _ (RefS.framed.alloc H (.cells #[.int .i64 0, .bool false, .int .u64 0, .bool false, .int .u64 0, .int .u64 0] 41)) hL)
  rw [hpl] at HPL
  clear hpl
  obtain ⟨v, hg, hown, hS, hvS⟩ := H
  have hgne := row_ne hg hown (by decide)
  obtain ⟨_, ao, cap2, rfl, _, _, hx⟩ := id hown.rd
  obtain ⟨sb, off, rfl, hc⟩ := hx (by omega)
  obtain ⟨_, k1⟩ := pair_cells hc p hp
  have HK1 := Lib.hid k1
  have hpi0 : (0 : Int) ≤ (p : Int) := by omega
  have hpi1 : (p : Int) < (L.length : Int) := by omega
  have HSB := Lib.hid (show sb < w.heap.size from (hown.lt rfl).2)
  have HG := Lib.hid hg
  clear hg hown hS hvS hx hc k1 hgne
  generalize L[p].2 = old at *
  go_enter Try.func36, Try.ntmps36
  go_wp2_with fail
  refine HPL.out.mono ?_
  rintro e w1 ⟨rfl, ho⟩
  have hr8 := ho.heap (heap_alloc_new w _) (fun h => h)
  have hgx := ho.heap (heap_alloc HG.out) (fun h => h)
  have HR8 := Lib.hid hr8
  have c0 := cells_of_heap hgx 0 _ rfl
  have c1 := cells_of_heap hgx 1 _ rfl
  have HO := Lib.hid ((Only.alloc (fun _ => False) w _).tr ho)
  have d1 : w1.cell? ⟨sb, off + p * 2 + 1, none⟩ = some (.int .u64 old) := (World.cell?_of_block (w := w) (w' := w1) (a := ⟨sb, off + p * 2 + 1, none⟩) (HO.out.block sb HSB.out (fun h => h))).trans HK1.out
  clear hr8 ho hgx
  go_wp2_with fail
  refine wp_region_noPanic ?_
  refine wp_region_held_drew (S := fun _ => True) (by kernel_rfl) ?_ (fun hHeld => ?_)
  · exact trivial
  try simp only [Act.put, List.getElem_toArray, List.getElem_cons_succ, List.getElem_cons_zero, List.setIfInBounds_toArray, List.set_cons_zero, List.set_cons_succ]
  refine wpAnyH_take (i := 0) (v := ?v0) rfl (by kernel_rfl) (by kernel_rfl) (by kernel_rfl) (fun _ _ _ h => h) (Or.inl ⟨by rfl, ?hy0⟩) (by assumption) ?rest0
  case hy0 =>
    intro w hSw
    try dsimp only at hSw
    go_simp
    all_goals with_reducible rfl
  simp only [Act.put, List.getElem_toArray, List.getElem_cons_succ, List.getElem_cons_zero, List.setIfInBounds_toArray, List.set_cons_zero, List.set_cons_succ]
  refine wpAnyH_take (i := 1) (v := ?v1) rfl (by kernel_rfl) (by kernel_rfl) (by kernel_rfl) (fun _ _ _ h => h) (Or.inl ⟨by rfl, ?hy1⟩) (by assumption) ?rest1
  case hy1 =>
    intro w hSw
    try dsimp only at hSw
    go_simp
    all_goals with_reducible rfl
  simp only [Act.put, List.getElem_toArray, List.getElem_cons_succ, List.getElem_cons_zero, List.setIfInBounds_toArray, List.set_cons_zero, List.set_cons_succ]
  refine wpAnyH_take (i := 2) (v := ?v2) rfl (by kernel_rfl) (by kernel_rfl) (by kernel_rfl) (fun _ _ _ h => h) (Or.inl ⟨by rfl, ?hy2⟩) (by assumption) ?rest2
  case hy2 =>
    intro w hSw
    try dsimp only at hSw
    go_simp
    all_goals with_reducible rfl
  simp only [Act.put, List.getElem_toArray, List.getElem_cons_succ, List.getElem_cons_zero, List.setIfInBounds_toArray, List.set_cons_zero, List.set_cons_succ]
  refine wpAnyH_take (i := 3) (v := undef) rfl (by kernel_rfl) (by kernel_rfl) (by kernel_rfl) (fun _ _ _ h => h) (Or.inr ⟨by rfl, rfl⟩) (by assumption) ?_
  simp only [Act.put, List.getElem_toArray, List.getElem_cons_succ, List.getElem_cons_zero, List.setIfInBounds_toArray, List.set_cons_zero, List.set_cons_succ]
  refine wpAnyH_take (i := 4) (v := undef) rfl (by kernel_rfl) (by kernel_rfl) (by kernel_rfl) (fun _ _ _ h => h) (Or.inr ⟨by rfl, rfl⟩) (by assumption) ?_
  simp only [Act.put, List.getElem_toArray, List.getElem_cons_succ, List.getElem_cons_zero, List.setIfInBounds_toArray, List.set_cons_zero, List.set_cons_succ]
  refine wpAnyH_take (i := 5) (v := undef) rfl (by kernel_rfl) (by kernel_rfl) (by kernel_rfl) (fun _ _ _ h => h) (Or.inr ⟨by rfl, rfl⟩) (by assumption) ?_
  simp only [Act.put, List.getElem_toArray, List.getElem_cons_succ, List.getElem_cons_zero, List.setIfInBounds_toArray, List.set_cons_zero, List.set_cons_succ]
  refine wpAnyH_take (i := 6) (v := undef) rfl (by kernel_rfl) (by kernel_rfl) (by kernel_rfl) (fun _ _ _ h => h) (Or.inr ⟨by rfl, rfl⟩) (by assumption) ?_
  simp only [Act.put, List.getElem_toArray, List.getElem_cons_succ, List.getElem_cons_zero, List.setIfInBounds_toArray, List.set_cons_zero, List.set_cons_succ]
  refine wpAnyH_take (i := 7) (v := undef) rfl (by kernel_rfl) (by kernel_rfl) (by kernel_rfl) (fun _ _ _ h => h) (Or.inr ⟨by rfl, rfl⟩) (by assumption) ?_
  simp only [Act.put, List.getElem_toArray, List.getElem_cons_succ, List.getElem_cons_zero, List.setIfInBounds_toArray, List.set_cons_zero, List.set_cons_succ]
  refine wpAnyH_take (i := 8) (v := undef) rfl (by kernel_rfl) (by kernel_rfl) (by kernel_rfl) (fun _ _ _ h => h) (Or.inr ⟨by rfl, rfl⟩) (by assumption) ?_
  simp only [Act.put, List.getElem_toArray, List.getElem_cons_succ, List.getElem_cons_zero, List.setIfInBounds_toArray, List.set_cons_zero, List.set_cons_succ]
  refine wpAnyH_take (i := 9) (v := undef) rfl (by kernel_rfl) (by kernel_rfl) (by kernel_rfl) (fun _ _ _ h => h) (Or.inr ⟨by rfl, rfl⟩) (by assumption) ?_
  simp only [Act.put, List.getElem_toArray, List.getElem_cons_succ, List.getElem_cons_zero, List.setIfInBounds_toArray, List.set_cons_zero, List.set_cons_succ]
  refine wpAnyH_take (i := 10) (v := undef) rfl (by kernel_rfl) (by kernel_rfl) (by kernel_rfl) (fun _ _ _ h => h) (Or.inr ⟨by rfl, rfl⟩) (by assumption) ?_
  simp only [Act.put, List.getElem_toArray, List.getElem_cons_succ, List.getElem_cons_zero, List.setIfInBounds_toArray, List.set_cons_zero, List.set_cons_succ]
  refine wpAnyH_take (i := 11) (v := undef) rfl (by kernel_rfl) (by kernel_rfl) (by kernel_rfl) (fun _ _ _ h => h) (Or.inr ⟨by rfl, rfl⟩) (by assumption) ?_
  simp only [Act.put, List.getElem_toArray, List.getElem_cons_succ, List.getElem_cons_zero, List.setIfInBounds_toArray, List.set_cons_zero, List.set_cons_succ]
  refine wpAnyH_take (i := 12) (v := undef) rfl (by kernel_rfl) (by kernel_rfl) (by kernel_rfl) (fun _ _ _ h => h) (Or.inr ⟨by rfl, rfl⟩) (by assumption) ?_
  simp only [Act.put, List.getElem_toArray, List.getElem_cons_succ, List.getElem_cons_zero, List.setIfInBounds_toArray, List.set_cons_zero, List.set_cons_succ]
  refine wpAnyH_take (i := 13) (v := ?v13) rfl (by kernel_rfl) (by kernel_rfl) (by kernel_rfl) (fun _ _ _ h => h) (Or.inl ⟨by rfl, ?hy13⟩) (by assumption) ?rest13
  case hy13 =>
    intro w hSw
    try dsimp only at hSw
    go_simp
    all_goals with_reducible rfl
  simp only [Act.put, List.getElem_toArray, List.getElem_cons_succ, List.getElem_cons_zero, List.setIfInBounds_toArray, List.set_cons_zero, List.set_cons_succ]
  refine wpAnyH_take (i := 14) (v := ?v14) rfl (by kernel_rfl) (by kernel_rfl) (by kernel_rfl) (fun _ _ _ h => h) (Or.inl ⟨by rfl, ?hy14⟩) (by assumption) ?rest14
  case hy14 =>
    intro w hSw
    try dsimp only at hSw
    go_simp
    all_goals with_reducible rfl
  simp only [Act.put, List.getElem_toArray, List.getElem_cons_succ, List.getElem_cons_zero, List.setIfInBounds_toArray, List.set_cons_zero, List.set_cons_succ]
  refine wpAnyH_done (by kernel_rfl) ?_ _
  refine NoPanic.normal ?_
  go_wp2_with (refine wpList_store_row rfl 41 (.tmp 8) (.tmp 125) rfl w.heap.size _ rfl rfl 41 _ HR8.out (by kernel_rfl) rfl (res_one _ _ _ _ _ _) ?_)
  refine bodyPost_ret (results_cell_row rfl _ _ w.heap.size _ _ _ _ rfl (setRow_heap _ _ _ _ _ _ HR8.out) Try.underlying41 rfl (by kernel_rfl)) rfl ?_
  exact ⟨rfl, ref_ro H0.out (only_row ((HO.out.drew_)).wide _ _ (.inr (Nat.le_refl _)))⟩

set_option maxRecDepth 100000 in
set_option maxHeartbeats 2000000 in
theorem refFullPut (x : Nat) (cap : Int) (L : List PairD) (S : Nat → Prop) (key val : Int) (w : World) (H : RefS x cap L S w) (hL : L.length ≤ 16) (hh : hasP L key = false) (hfull : cap ≤ (L.length : Int)) :
    Calls Try.prog 36 #[.pointer (some ⟨x, 0, none⟩), .int .i64 2, .int .u64 key, .int .u64 val] w (RefPost x S cap w (resE 40) L) := by
  have H0 := Lib.hid H
  have HPL := Lib.hid (place_any x cap L S key _ (RefS.framed.alloc H (.cells #[.int .i64 0, .bool false, .int .u64 0, .bool false, .int .u64 0, .int .u64 0] 41)) hL)
  have hp : placeP L key = -1 := by unfold placeP; rw [hh]; rfl
  rw [hp] at HPL
  clear hp
  obtain ⟨v, hg, hown, hS, hvS⟩ := H
  obtain ⟨_, ao, cap2, rfl, _, _, _⟩ := id hown.rd
  have HG := Lib.hid hg
  clear hg hown hS hvS hh
  go_enter Try.func36, Try.ntmps36
  go_wp2_with fail
  refine HPL.out.mono ?_
  rintro e w1 ⟨rfl, ho⟩
  have hr8 := ho.heap (heap_alloc_new w _) (fun h => h)
  have hgx := ho.heap (heap_alloc HG.out) (fun h => h)
  have HR8 := Lib.hid hr8
  have c0 := cells_of_heap hgx 0 _ rfl
  have c1 := cells_of_heap hgx 1 _ rfl
  have HO := Lib.hid ((Only.alloc (fun _ => False) w _).tr ho)
  clear hr8 ho hgx
  go_wp2_with fail
  go_quiet (fail)
  go_wp2_with (refine wpList_store_row rfl 41 (.tmp 8) (.tmp 58) rfl w.heap.size _ rfl rfl 41 _ HR8.out (by kernel_rfl) rfl (res_one _ _ _ _ _ _) ?_)
  refine bodyPost_ret (results_cell_row rfl _ _ w.heap.size _ _ _ _ rfl (setRow_heap _ _ _ _ _ _ HR8.out) Try.underlying41 rfl (by kernel_rfl)) rfl ?_
  exact ⟨rfl, ref_ro H0.out (only_row ((HO.out.drewN _)).wide _ _ (.inr (Nat.le_refl _)))⟩

set_option maxRecDepth 100000 in
set_option maxHeartbeats 2000000 in
theorem refFullAdd (x : Nat) (cap : Int) (L : List PairD) (S : Nat → Prop) (key val : Int) (w : World) (H : RefS x cap L S w) (hL : L.length ≤ 16) (hh : hasP L key = false) (hfull : cap ≤ (L.length : Int)) :
    Calls Try.prog 36 #[.pointer (some ⟨x, 0, none⟩), .int .i64 4, .int .u64 key, .int .u64 val] w (RefPost x S cap w (resE 40) L) := by
  have H0 := Lib.hid H
  have HPL := Lib.hid (place_any x cap L S key _ (RefS.framed.alloc H (.cells #[.int .i64 0, .bool false, .int .u64 0, .bool false, .int .u64 0, .int .u64 0] 41)) hL)
  have hp : placeP L key = -1 := by unfold placeP; rw [hh]; rfl
  rw [hp] at HPL
  clear hp
  obtain ⟨v, hg, hown, hS, hvS⟩ := H
  obtain ⟨_, ao, cap2, rfl, _, _, _⟩ := id hown.rd
  have HG := Lib.hid hg
  clear hg hown hS hvS hh
  go_enter Try.func36, Try.ntmps36
  go_wp2_with fail
  refine HPL.out.mono ?_
  rintro e w1 ⟨rfl, ho⟩
  have hr8 := ho.heap (heap_alloc_new w _) (fun h => h)
  have hgx := ho.heap (heap_alloc HG.out) (fun h => h)
  have HR8 := Lib.hid hr8
  have c0 := cells_of_heap hgx 0 _ rfl
  have c1 := cells_of_heap hgx 1 _ rfl
  have HO := Lib.hid ((Only.alloc (fun _ => False) w _).tr ho)
  clear hr8 ho hgx
  go_wp2_with fail
  go_quiet (fail)
  go_wp2_with (refine wpList_store_row rfl 41 (.tmp 8) (.tmp 58) rfl w.heap.size _ rfl rfl 41 _ HR8.out (by kernel_rfl) rfl (res_one _ _ _ _ _ _) ?_)
  refine bodyPost_ret (results_cell_row rfl _ _ w.heap.size _ _ _ _ rfl (setRow_heap _ _ _ _ _ _ HR8.out) Try.underlying41 rfl (by kernel_rfl)) rfl ?_
  exact ⟨rfl, ref_ro H0.out (only_row ((HO.out.drewN _)).wide _ _ (.inr (Nat.le_refl _)))⟩

theorem ref_setfin {x sb off c p : Nat} {cap key nv : Int} {L : List PairD} {S : Nat → Prop} {w w1 W2 : World} (H : RefS x cap L S w) (hg : w.heap[x]? = some (.cells #[.int .i64 cap, .slice (some ⟨sb, off, none⟩) L.length c] 108 (0, 0)))
    (HO : Only (fun _ => False) w w1) (hp : p < L.length) (hk : L[p].1 = key) (o2 : Only (fun k => w1.heap.size ≤ k) (w1.setCell ⟨sb, off + p * 2 + 1, none⟩ (.int .u64 nv)) W2) (hl8 : w.heap.size < w1.heap.size) (cs : Array Value) :
    RefS x cap (L.set p (key, nv)) (fun k => S k ∨ w.heap.size ≤ k) (W2.setRow w.heap.size cs) ∧ Only S w (W2.setRow w.heap.size cs) := by
  obtain ⟨v, hgv, hown, hS, hvS⟩ := H
  have hv : v = .slice (some ⟨sb, off, none⟩) L.length c := by
    rw [hgv] at hg; simpa using hg
  subst hv
  have hxl := heap_lt hgv
  have hne := row_ne hgv hown (by decide)
  have hsb : x ≠ sb := fun e => hne (by simp [Value.ownBlock, e])
  have hsl : sb < w.heap.size := (hown.lt rfl).2
  have hss : S sb := hvS sb rfl
  have hsz : (w1.setCell ⟨sb, off + p * 2 + 1, none⟩ (.int .u64 nv)).heap.size = w1.heap.size := by simp
  have h1 := heap_setCell_far (HO.heap hgv (fun h => h)) sb (off + p * 2 + 1) (.int .u64 nv) hsb
  have h2 := o2.heap h1 (fun h => by omega)
  have o3 := only_setRow W2 w.heap.size cs
  have h3 := o3.heap h2 (fun h => by omega)
  have k1 := (hown.only HO (fun _ _ h => h)).setVal p hp key nv hk
  have k2 := k1.only o2 (fun k hk h => by
    obtain rfl : sb = k := by simpa [Value.ownBlock] using hk
    omega)
  have k3 := k2.only o3 (fun k hk h => by
    obtain rfl : sb = k := by simpa [Value.ownBlock] using hk
    omega)
  refine ⟨⟨_, h3, k3, .inl hS, fun k hk => .inl (hvS k hk)⟩, ?_⟩
  refine ((HO.wide.trans (Only.setCell (fun k => k = sb) w1 sb _ _ rfl) (fun k hk e => by rw [e]; exact hss)).trans o2 (fun k hk h => by omega)).trans o3 (fun k hk e => by omega)

set_option maxRecDepth 100000 in
set_option maxHeartbeats 2000000 in
theorem refPut_yes (x : Nat) (cap : Int) (L : List PairD) (S : Nat → Prop) (key val : Int) (w : World) (H : RefS x cap L S w) (hL : L.length ≤ 16) (p : Nat) (hp : p < L.length) (hpl : placeP L key = p) (hk : L[p].1 = key) :
    Calls Try.prog 36 #[.pointer (some ⟨x, 0, none⟩), .int .i64 2, .int .u64 key, .int .u64 val] w (RefPost x S cap w (resF true L[p].2) (L.set p (key, val))) := by
  have H0 := Lib.hid H
  have HPL := Lib.hid (place_any x cap L S key _ (RefS.framed.alloc H (.cells #[.int .i64 0, .bool false, .int .u64 0, .bool false, .int .u64 0, .int .u64 0] 41)) hL)
  rw [hpl] at HPL
  clear hpl
  obtain ⟨v, hg, hown, hS, hvS⟩ := H
  have hgne := row_ne hg hown (by decide)
  obtain ⟨_, ao, cap2, rfl, _, _, hx⟩ := id hown.rd
  obtain ⟨sb, off, rfl, hc⟩ := hx (by omega)
  obtain ⟨g', off', hgo, _, hcell⟩ := hown.at_ p hp
  obtain ⟨rfl, rfl⟩ : sb = g' ∧ off = off' := by simpa using hgo
  have hfz := (hcell 1 (by decide)).2
  rw [← Nat.add_assoc] at hfz
  have HFZ := Lib.hid (show w.frozen? ⟨sb, off + p * 2 + 1, none⟩ = false from hfz)
  obtain ⟨_, k1⟩ := pair_cells hc p hp
  have HK1 := Lib.hid k1
  have hpi0 : (0 : Int) ≤ (p : Int) := by omega
  have hpi1 : (p : Int) < (L.length : Int) := by omega
  have HSB := Lib.hid (show sb < w.heap.size from (hown.lt rfl).2)
  have HSX := Lib.hid (show x ≠ sb from fun e => hgne (by simp [Value.ownBlock, e]))
  have HG := Lib.hid hg
  have HFIN := Lib.hid (fun w1 W2 HO o2 hl8 cs => ref_setfin (w1 := w1) (W2 := W2) (nv := val) H0.out hg HO hp hk o2 hl8 cs)
  clear hg hown hS hvS hx hc k1 hgne hfz hcell hgo hk
  generalize L[p].2 = old at *
  go_enter Try.func36, Try.ntmps36
  go_wp2_with fail
  refine HPL.out.mono ?_
  rintro e w1 ⟨rfl, ho⟩
  have hr8 := ho.heap (heap_alloc_new w _) (fun h => h)
  have hgx := ho.heap (heap_alloc HG.out) (fun h => h)
  have HR8 := Lib.hid hr8
  have HGX := Lib.hid hgx
  have c0 := cells_of_heap hgx 0 _ rfl
  have c1 := cells_of_heap hgx 1 _ rfl
  have HO := Lib.hid ((Only.alloc (fun _ => False) w _).tr ho)
  have hsw := HO.out.size
  have d1 : w1.cell? ⟨sb, off + p * 2 + 1, none⟩ = some (.int .u64 old) := (World.cell?_of_block (w := w) (w' := w1) (a := ⟨sb, off + p * 2 + 1, none⟩) (HO.out.block sb HSB.out (fun h => h))).trans HK1.out
  have f1 : w1.frozen? ⟨sb, off + p * 2 + 1, none⟩ = false := (World.frozen?_of_block (w := w) (w' := w1) (a := ⟨sb, off + p * 2 + 1, none⟩) (HO.out.block sb HSB.out (fun h => h))).trans HFZ.out
  have hxl : x < w1.heap.size := heap_lt hgx
  have hsl : sb < w1.heap.size := by have := HSB.out; omega
  clear hr8 ho hgx
  go_wp2_with fail
  refine wp_region_noPanic ?_
  refine wp_region_held_drew (S := fun _ => True) (by kernel_rfl) ?_ (fun hHeld => ?_)
  · exact trivial
  try simp only [Act.put, List.getElem_toArray, List.getElem_cons_succ, List.getElem_cons_zero, List.setIfInBounds_toArray, List.set_cons_zero, List.set_cons_succ]
  refine wpAnyH_take (i := 0) (v := ?v0) rfl (by kernel_rfl) (by kernel_rfl) (by kernel_rfl) (fun _ _ _ h => h) (Or.inl ⟨by rfl, ?hy0⟩) (by assumption) ?rest0
  case hy0 =>
    intro w hSw
    try dsimp only at hSw
    go_simp
    all_goals with_reducible rfl
  simp only [Act.put, List.getElem_toArray, List.getElem_cons_succ, List.getElem_cons_zero, List.setIfInBounds_toArray, List.set_cons_zero, List.set_cons_succ]
  refine wpAnyH_take (i := 1) (v := ?v1) rfl (by kernel_rfl) (by kernel_rfl) (by kernel_rfl) (fun _ _ _ h => h) (Or.inl ⟨by rfl, ?hy1⟩) (by assumption) ?rest1
  case hy1 =>
    intro w hSw
    try dsimp only at hSw
    go_simp
    all_goals with_reducible rfl
  simp only [Act.put, List.getElem_toArray, List.getElem_cons_succ, List.getElem_cons_zero, List.setIfInBounds_toArray, List.set_cons_zero, List.set_cons_succ]
  refine wpAnyH_take (i := 2) (v := ?v2) rfl (by kernel_rfl) (by kernel_rfl) (by kernel_rfl) (fun _ _ _ h => h) (Or.inl ⟨by rfl, ?hy2⟩) (by assumption) ?rest2
  case hy2 =>
    intro w hSw
    try dsimp only at hSw
    go_simp
    all_goals with_reducible rfl
  simp only [Act.put, List.getElem_toArray, List.getElem_cons_succ, List.getElem_cons_zero, List.setIfInBounds_toArray, List.set_cons_zero, List.set_cons_succ]
  refine wpAnyH_take (i := 3) (v := undef) rfl (by kernel_rfl) (by kernel_rfl) (by kernel_rfl) (fun _ _ _ h => h) (Or.inr ⟨by rfl, rfl⟩) (by assumption) ?_
  simp only [Act.put, List.getElem_toArray, List.getElem_cons_succ, List.getElem_cons_zero, List.setIfInBounds_toArray, List.set_cons_zero, List.set_cons_succ]
  refine wpAnyH_take (i := 4) (v := undef) rfl (by kernel_rfl) (by kernel_rfl) (by kernel_rfl) (fun _ _ _ h => h) (Or.inr ⟨by rfl, rfl⟩) (by assumption) ?_
  simp only [Act.put, List.getElem_toArray, List.getElem_cons_succ, List.getElem_cons_zero, List.setIfInBounds_toArray, List.set_cons_zero, List.set_cons_succ]
  refine wpAnyH_take (i := 5) (v := undef) rfl (by kernel_rfl) (by kernel_rfl) (by kernel_rfl) (fun _ _ _ h => h) (Or.inr ⟨by rfl, rfl⟩) (by assumption) ?_
  simp only [Act.put, List.getElem_toArray, List.getElem_cons_succ, List.getElem_cons_zero, List.setIfInBounds_toArray, List.set_cons_zero, List.set_cons_succ]
  refine wpAnyH_take (i := 6) (v := undef) rfl (by kernel_rfl) (by kernel_rfl) (by kernel_rfl) (fun _ _ _ h => h) (Or.inr ⟨by rfl, rfl⟩) (by assumption) ?_
  simp only [Act.put, List.getElem_toArray, List.getElem_cons_succ, List.getElem_cons_zero, List.setIfInBounds_toArray, List.set_cons_zero, List.set_cons_succ]
  refine wpAnyH_take (i := 7) (v := undef) rfl (by kernel_rfl) (by kernel_rfl) (by kernel_rfl) (fun _ _ _ h => h) (Or.inr ⟨by rfl, rfl⟩) (by assumption) ?_
  simp only [Act.put, List.getElem_toArray, List.getElem_cons_succ, List.getElem_cons_zero, List.setIfInBounds_toArray, List.set_cons_zero, List.set_cons_succ]
  refine wpAnyH_take (i := 8) (v := undef) rfl (by kernel_rfl) (by kernel_rfl) (by kernel_rfl) (fun _ _ _ h => h) (Or.inr ⟨by rfl, rfl⟩) (by assumption) ?_
  simp only [Act.put, List.getElem_toArray, List.getElem_cons_succ, List.getElem_cons_zero, List.setIfInBounds_toArray, List.set_cons_zero, List.set_cons_succ]
  refine wpAnyH_take (i := 9) (v := undef) rfl (by kernel_rfl) (by kernel_rfl) (by kernel_rfl) (fun _ _ _ h => h) (Or.inr ⟨by rfl, rfl⟩) (by assumption) ?_
  simp only [Act.put, List.getElem_toArray, List.getElem_cons_succ, List.getElem_cons_zero, List.setIfInBounds_toArray, List.set_cons_zero, List.set_cons_succ]
  refine wpAnyH_take (i := 10) (v := undef) rfl (by kernel_rfl) (by kernel_rfl) (by kernel_rfl) (fun _ _ _ h => h) (Or.inr ⟨by rfl, rfl⟩) (by assumption) ?_
  simp only [Act.put, List.getElem_toArray, List.getElem_cons_succ, List.getElem_cons_zero, List.setIfInBounds_toArray, List.set_cons_zero, List.set_cons_succ]
  refine wpAnyH_take (i := 11) (v := undef) rfl (by kernel_rfl) (by kernel_rfl) (by kernel_rfl) (fun _ _ _ h => h) (Or.inr ⟨by rfl, rfl⟩) (by assumption) ?_
  simp only [Act.put, List.getElem_toArray, List.getElem_cons_succ, List.getElem_cons_zero, List.setIfInBounds_toArray, List.set_cons_zero, List.set_cons_succ]
  refine wpAnyH_take (i := 12) (v := undef) rfl (by kernel_rfl) (by kernel_rfl) (by kernel_rfl) (fun _ _ _ h => h) (Or.inr ⟨by rfl, rfl⟩) (by assumption) ?_
  simp only [Act.put, List.getElem_toArray, List.getElem_cons_succ, List.getElem_cons_zero, List.setIfInBounds_toArray, List.set_cons_zero, List.set_cons_succ]
  refine wpAnyH_take (i := 13) (v := ?v13) rfl (by kernel_rfl) (by kernel_rfl) (by kernel_rfl) (fun _ _ _ h => h) (Or.inl ⟨by rfl, ?hy13⟩) (by assumption) ?rest13
  case hy13 =>
    intro w hSw
    try dsimp only at hSw
    go_simp
    all_goals with_reducible rfl
  simp only [Act.put, List.getElem_toArray, List.getElem_cons_succ, List.getElem_cons_zero, List.setIfInBounds_toArray, List.set_cons_zero, List.set_cons_succ]
  refine wpAnyH_take (i := 14) (v := ?v14) rfl (by kernel_rfl) (by kernel_rfl) (by kernel_rfl) (fun _ _ _ h => h) (Or.inl ⟨by rfl, ?hy14⟩) (by assumption) ?rest14
  case hy14 =>
    intro w hSw
    try dsimp only at hSw
    go_simp
    all_goals with_reducible rfl
  simp only [Act.put, List.getElem_toArray, List.getElem_cons_succ, List.getElem_cons_zero, List.setIfInBounds_toArray, List.set_cons_zero, List.set_cons_succ]
  refine wpAnyH_done (by kernel_rfl) ?_ _
  refine NoPanic.normal ?_
  have HH := Lib.hid (show (((w1.setCell ⟨sb, off + p * 2 + 1, none⟩ (.int .u64 val)).alloc (.cells #[.int .i64 0, .bool true, .int .u64 old, .bool false, .int .u64 0, .int .u64 0] 41)).drew).heap[w.heap.size]? = some (.cells #[.int .i64 0, .bool false, .int .u64 0, .bool false, .int .u64 0, .int .u64 0] 41 (0, 0)) from
    heap_alloc (w := w1.setCell ⟨sb, off + p * 2 + 1, none⟩ (.int .u64 val)) (heap_setCell_far HR8.out _ _ _ (by have := HSB.out; omega)))
  have HLT := Lib.hid (heap_lt HR8.out)
  go_wp2_with (refine wpList_store_row rfl 41 (.tmp 8) (.tmp 92) rfl w.heap.size _ rfl rfl 41 _ HH.out (by kernel_rfl) rfl (res_one _ _ _ _ _ _) ?_)
  refine bodyPost_ret (results_cell_row rfl _ _ w.heap.size _ _ _ _ rfl (setRow_heap _ _ _ _ _ _ HH.out) Try.underlying41 rfl (by kernel_rfl)) rfl ?_
  exact ⟨rfl, HFIN.out w1 _ HO.out ((Only.alloc _ _ _).drew_.mono fun k _ h => h) HLT.out _⟩

set_option maxRecDepth 100000 in
set_option maxHeartbeats 2000000 in
theorem refAdd_yes (x : Nat) (cap : Int) (L : List PairD) (S : Nat → Prop) (key val : Int) (w : World) (H : RefS x cap L S w) (hL : L.length ≤ 16) (p : Nat) (hp : p < L.length) (hpl : placeP L key = p) (hk : L[p].1 = key) :
    Calls Try.prog 36 #[.pointer (some ⟨x, 0, none⟩), .int .i64 4, .int .u64 key, .int .u64 val] w (RefPost x S cap w (resF true (add64 L[p].2 val)) (L.set p (key, add64 L[p].2 val))) := by
  have H0 := Lib.hid H
  have HPL := Lib.hid (place_any x cap L S key _ (RefS.framed.alloc H (.cells #[.int .i64 0, .bool false, .int .u64 0, .bool false, .int .u64 0, .int .u64 0] 41)) hL)
  rw [hpl] at HPL
  clear hpl
  obtain ⟨v, hg, hown, hS, hvS⟩ := H
  have hgne := row_ne hg hown (by decide)
  obtain ⟨_, ao, cap2, rfl, _, _, hx⟩ := id hown.rd
  obtain ⟨sb, off, rfl, hc⟩ := hx (by omega)
  obtain ⟨g', off', hgo, _, hcell⟩ := hown.at_ p hp
  obtain ⟨rfl, rfl⟩ : sb = g' ∧ off = off' := by simpa using hgo
  have hfz := (hcell 1 (by decide)).2
  rw [← Nat.add_assoc] at hfz
  have HFZ := Lib.hid (show w.frozen? ⟨sb, off + p * 2 + 1, none⟩ = false from hfz)
  obtain ⟨_, k1⟩ := pair_cells hc p hp
  have HK1 := Lib.hid k1
  have hpi0 : (0 : Int) ≤ (p : Int) := by omega
  have hpi1 : (p : Int) < (L.length : Int) := by omega
  have HSB := Lib.hid (show sb < w.heap.size from (hown.lt rfl).2)
  have HSX := Lib.hid (show x ≠ sb from fun e => hgne (by simp [Value.ownBlock, e]))
  have HG := Lib.hid hg
  have HFIN := Lib.hid (fun w1 W2 HO o2 hl8 cs => ref_setfin (w1 := w1) (W2 := W2) (nv := add64 (L[p]'hp).2 val) H0.out hg HO hp hk o2 hl8 cs)
  clear hg hown hS hvS hx hc k1 hgne hfz hcell hgo hk
  generalize L[p].2 = old at *
  unfold add64 at *
  go_enter Try.func36, Try.ntmps36
  go_wp2_with fail
  refine HPL.out.mono ?_
  rintro e w1 ⟨rfl, ho⟩
  have hr8 := ho.heap (heap_alloc_new w _) (fun h => h)
  have hgx := ho.heap (heap_alloc HG.out) (fun h => h)
  have HR8 := Lib.hid hr8
  have HGX := Lib.hid hgx
  have c0 := cells_of_heap hgx 0 _ rfl
  have c1 := cells_of_heap hgx 1 _ rfl
  have HO := Lib.hid ((Only.alloc (fun _ => False) w _).tr ho)
  have hsw := HO.out.size
  have d1 : w1.cell? ⟨sb, off + p * 2 + 1, none⟩ = some (.int .u64 old) := (World.cell?_of_block (w := w) (w' := w1) (a := ⟨sb, off + p * 2 + 1, none⟩) (HO.out.block sb HSB.out (fun h => h))).trans HK1.out
  have f1 : w1.frozen? ⟨sb, off + p * 2 + 1, none⟩ = false := (World.frozen?_of_block (w := w) (w' := w1) (a := ⟨sb, off + p * 2 + 1, none⟩) (HO.out.block sb HSB.out (fun h => h))).trans HFZ.out
  have hxl : x < w1.heap.size := heap_lt hgx
  have hsl : sb < w1.heap.size := by have := HSB.out; omega
  clear hr8 ho hgx
  go_wp2_with fail
  refine wp_region_noPanic ?_
  refine wp_region_held_drew (S := fun _ => True) (by kernel_rfl) ?_ (fun hHeld => ?_)
  · exact trivial
  try simp only [Act.put, List.getElem_toArray, List.getElem_cons_succ, List.getElem_cons_zero, List.setIfInBounds_toArray, List.set_cons_zero, List.set_cons_succ]
  refine wpAnyH_take (i := 0) (v := ?v0) rfl (by kernel_rfl) (by kernel_rfl) (by kernel_rfl) (fun _ _ _ h => h) (Or.inl ⟨by rfl, ?hy0⟩) (by assumption) ?rest0
  case hy0 =>
    intro w hSw
    try dsimp only at hSw
    go_simp
    all_goals with_reducible rfl
  simp only [Act.put, List.getElem_toArray, List.getElem_cons_succ, List.getElem_cons_zero, List.setIfInBounds_toArray, List.set_cons_zero, List.set_cons_succ]
  refine wpAnyH_take (i := 1) (v := ?v1) rfl (by kernel_rfl) (by kernel_rfl) (by kernel_rfl) (fun _ _ _ h => h) (Or.inl ⟨by rfl, ?hy1⟩) (by assumption) ?rest1
  case hy1 =>
    intro w hSw
    try dsimp only at hSw
    go_simp
    all_goals with_reducible rfl
  simp only [Act.put, List.getElem_toArray, List.getElem_cons_succ, List.getElem_cons_zero, List.setIfInBounds_toArray, List.set_cons_zero, List.set_cons_succ]
  refine wpAnyH_take (i := 2) (v := ?v2) rfl (by kernel_rfl) (by kernel_rfl) (by kernel_rfl) (fun _ _ _ h => h) (Or.inl ⟨by rfl, ?hy2⟩) (by assumption) ?rest2
  case hy2 =>
    intro w hSw
    try dsimp only at hSw
    go_simp
    all_goals with_reducible rfl
  simp only [Act.put, List.getElem_toArray, List.getElem_cons_succ, List.getElem_cons_zero, List.setIfInBounds_toArray, List.set_cons_zero, List.set_cons_succ]
  refine wpAnyH_take (i := 3) (v := undef) rfl (by kernel_rfl) (by kernel_rfl) (by kernel_rfl) (fun _ _ _ h => h) (Or.inr ⟨by rfl, rfl⟩) (by assumption) ?_
  simp only [Act.put, List.getElem_toArray, List.getElem_cons_succ, List.getElem_cons_zero, List.setIfInBounds_toArray, List.set_cons_zero, List.set_cons_succ]
  refine wpAnyH_take (i := 4) (v := undef) rfl (by kernel_rfl) (by kernel_rfl) (by kernel_rfl) (fun _ _ _ h => h) (Or.inr ⟨by rfl, rfl⟩) (by assumption) ?_
  simp only [Act.put, List.getElem_toArray, List.getElem_cons_succ, List.getElem_cons_zero, List.setIfInBounds_toArray, List.set_cons_zero, List.set_cons_succ]
  refine wpAnyH_take (i := 5) (v := undef) rfl (by kernel_rfl) (by kernel_rfl) (by kernel_rfl) (fun _ _ _ h => h) (Or.inr ⟨by rfl, rfl⟩) (by assumption) ?_
  simp only [Act.put, List.getElem_toArray, List.getElem_cons_succ, List.getElem_cons_zero, List.setIfInBounds_toArray, List.set_cons_zero, List.set_cons_succ]
  refine wpAnyH_take (i := 6) (v := undef) rfl (by kernel_rfl) (by kernel_rfl) (by kernel_rfl) (fun _ _ _ h => h) (Or.inr ⟨by rfl, rfl⟩) (by assumption) ?_
  simp only [Act.put, List.getElem_toArray, List.getElem_cons_succ, List.getElem_cons_zero, List.setIfInBounds_toArray, List.set_cons_zero, List.set_cons_succ]
  refine wpAnyH_take (i := 7) (v := undef) rfl (by kernel_rfl) (by kernel_rfl) (by kernel_rfl) (fun _ _ _ h => h) (Or.inr ⟨by rfl, rfl⟩) (by assumption) ?_
  simp only [Act.put, List.getElem_toArray, List.getElem_cons_succ, List.getElem_cons_zero, List.setIfInBounds_toArray, List.set_cons_zero, List.set_cons_succ]
  refine wpAnyH_take (i := 8) (v := undef) rfl (by kernel_rfl) (by kernel_rfl) (by kernel_rfl) (fun _ _ _ h => h) (Or.inr ⟨by rfl, rfl⟩) (by assumption) ?_
  simp only [Act.put, List.getElem_toArray, List.getElem_cons_succ, List.getElem_cons_zero, List.setIfInBounds_toArray, List.set_cons_zero, List.set_cons_succ]
  refine wpAnyH_take (i := 9) (v := undef) rfl (by kernel_rfl) (by kernel_rfl) (by kernel_rfl) (fun _ _ _ h => h) (Or.inr ⟨by rfl, rfl⟩) (by assumption) ?_
  simp only [Act.put, List.getElem_toArray, List.getElem_cons_succ, List.getElem_cons_zero, List.setIfInBounds_toArray, List.set_cons_zero, List.set_cons_succ]
  refine wpAnyH_take (i := 10) (v := undef) rfl (by kernel_rfl) (by kernel_rfl) (by kernel_rfl) (fun _ _ _ h => h) (Or.inr ⟨by rfl, rfl⟩) (by assumption) ?_
  simp only [Act.put, List.getElem_toArray, List.getElem_cons_succ, List.getElem_cons_zero, List.setIfInBounds_toArray, List.set_cons_zero, List.set_cons_succ]
  refine wpAnyH_take (i := 11) (v := undef) rfl (by kernel_rfl) (by kernel_rfl) (by kernel_rfl) (fun _ _ _ h => h) (Or.inr ⟨by rfl, rfl⟩) (by assumption) ?_
  simp only [Act.put, List.getElem_toArray, List.getElem_cons_succ, List.getElem_cons_zero, List.setIfInBounds_toArray, List.set_cons_zero, List.set_cons_succ]
  refine wpAnyH_take (i := 12) (v := undef) rfl (by kernel_rfl) (by kernel_rfl) (by kernel_rfl) (fun _ _ _ h => h) (Or.inr ⟨by rfl, rfl⟩) (by assumption) ?_
  simp only [Act.put, List.getElem_toArray, List.getElem_cons_succ, List.getElem_cons_zero, List.setIfInBounds_toArray, List.set_cons_zero, List.set_cons_succ]
  refine wpAnyH_take (i := 13) (v := ?v13) rfl (by kernel_rfl) (by kernel_rfl) (by kernel_rfl) (fun _ _ _ h => h) (Or.inl ⟨by rfl, ?hy13⟩) (by assumption) ?rest13
  case hy13 =>
    intro w hSw
    try dsimp only at hSw
    go_simp
    all_goals with_reducible rfl
  simp only [Act.put, List.getElem_toArray, List.getElem_cons_succ, List.getElem_cons_zero, List.setIfInBounds_toArray, List.set_cons_zero, List.set_cons_succ]
  refine wpAnyH_take (i := 14) (v := ?v14) rfl (by kernel_rfl) (by kernel_rfl) (by kernel_rfl) (fun _ _ _ h => h) (Or.inl ⟨by rfl, ?hy14⟩) (by assumption) ?rest14
  case hy14 =>
    intro w hSw
    try dsimp only at hSw
    go_simp
    all_goals with_reducible rfl
  simp only [Act.put, List.getElem_toArray, List.getElem_cons_succ, List.getElem_cons_zero, List.setIfInBounds_toArray, List.set_cons_zero, List.set_cons_succ]
  refine wpAnyH_done (by kernel_rfl) ?_ _
  refine NoPanic.normal ?_
  have HH := Lib.hid (show (((w1.setCell ⟨sb, off + p * 2 + 1, none⟩ (.int .u64 (IntKind.u64.wrap (old + val)))).alloc (.cells #[.int .i64 0, .bool true, .int .u64 (IntKind.u64.wrap (old + val)), .bool false, .int .u64 0, .int .u64 0] 41)).drew).heap[w.heap.size]? = some (.cells #[.int .i64 0, .bool false, .int .u64 0, .bool false, .int .u64 0, .int .u64 0] 41 (0, 0)) from
    heap_alloc (w := w1.setCell ⟨sb, off + p * 2 + 1, none⟩ (.int .u64 (IntKind.u64.wrap (old + val)))) (heap_setCell_far HR8.out _ _ _ (by have := HSB.out; omega)))
  have HLT := Lib.hid (heap_lt HR8.out)
  go_wp2_with (refine wpList_store_row rfl 41 (.tmp 8) (.tmp 92) rfl w.heap.size _ rfl rfl 41 _ HH.out (by kernel_rfl) rfl (res_one _ _ _ _ _ _) ?_)
  refine bodyPost_ret (results_cell_row rfl _ _ w.heap.size _ _ _ _ rfl (setRow_heap _ _ _ _ _ _ HH.out) Try.underlying41 rfl (by kernel_rfl)) rfl ?_
  exact ⟨rfl, HFIN.out w1 _ HO.out ((Only.alloc _ _ _).drew_.mono fun k _ h => h) HLT.out _⟩

theorem ref_fin2 {b : Nat} {cap : Int} {S : Nat → Prop} {w w2 : World} {v' : Value} {ys : List PairD} {m : Nat} (hb2 : w2.heap[b]? = some (.cells #[.int .i64 cap, v'] 108 (0, 0))) (hSb : S b) (hbl : b < w.heap.size)
    (how : OwS ePair 50 (fun k => (S k ∧ k < w.heap.size) ∨ m ≤ k) w2 v' ys) (hm : w.heap.size < m) (ho : Only (fun k => (S k ∧ k < w.heap.size) ∨ w.heap.size ≤ k) w w2) (cs : Array Value) :
    RefS b cap ys (fun k => S k ∨ w.heap.size ≤ k) (w2.setRow w.heap.size cs) ∧ Only S w (w2.setRow w.heap.size cs) := by
  have B2 : RefS b cap ys (fun k => (S k ∧ k < w.heap.size) ∨ m ≤ k) w2 := ⟨v', hb2, how.1, .inl ⟨hSb, hbl⟩, how.2⟩
  have o3 := only_setRow w2 w.heap.size cs
  refine ⟨RefS.framed.mono _ _ _ (RefS.framed.only _ _ _ _ B2 o3 fun k _ h e => by omega) fun k _ h => ?_, ?_⟩
  · rcases h with h | h
    · exact .inl h.1
    · exact .inr (by omega)
  · refine (ho.trans o3 (fun j hj e => .inr (by omega))).mono fun k hk h => ?_
    rcases h with h | h
    · exact h.1
    · omega

set_option maxRecDepth 100000 in
set_option maxHeartbeats 2000000 in
theorem refPut_no (x : Nat) (cap : Int) (L : List PairD) (S : Nat → Prop) (key val : Int) (w : World) (H : RefS x cap L S w) (hL : L.length ≤ 16) (hh : hasP L key = false) (hfull : ¬ cap ≤ (L.length : Int)) :
    Calls Try.prog 36 #[.pointer (some ⟨x, 0, none⟩), .int .i64 2, .int .u64 key, .int .u64 val] w (RefPost x S cap w (resF false 0) (L ++ [(key, val)])) := by
  have HPL := Lib.hid (place_any x cap L S key _ (RefS.framed.alloc H (.cells #[.int .i64 0, .bool false, .int .u64 0, .bool false, .int .u64 0, .int .u64 0] 41)) hL)
  have hp : placeP L key = -1 := by unfold placeP; rw [hh]; rfl
  rw [hp] at HPL
  clear hp
  obtain ⟨v, hg, hown, hS, hvS⟩ := H
  obtain ⟨_, ao, cap2, rfl, _, _, _⟩ := id hown.rd
  have HNE := Lib.hid (row_ne hg hown (by decide))
  have HVS := Lib.hid hvS
  have HSX := Lib.hid hS
  have HW := Lib.hid (show OwS ePair 50 (fun k => (Value.slice ao L.length cap2).ownBlock = some k) w (.slice ao L.length cap2) L from ⟨hown, fun _ h => h⟩)
  have HG := Lib.hid hg
  clear hg hown hS hvS hh
  go_enter Try.func36, Try.ntmps36
  go_wp2_with fail
  refine HPL.out.mono ?_
  rintro e w1 ⟨rfl, ho⟩
  have hr8 := ho.heap (heap_alloc_new w _) (fun h => h)
  have hgx := ho.heap (heap_alloc HG.out) (fun h => h)
  have HR8 := Lib.hid hr8
  have HGX := Lib.hid hgx
  have c0 := cells_of_heap hgx 0 _ rfl
  have c1 := cells_of_heap hgx 1 _ rfl
  have HO := Lib.hid ((Only.alloc (fun _ => False) w _).tr ho)
  have HW1 := Lib.hid (OwS.framed.only _ _ _ _ HW.out HO.out (fun _ _ _ h => h))
  have hxl : x < w1.heap.size := heap_lt hgx
  clear hr8 ho hgx
  go_wp2_with fail
  go_quiet (fail)
  obtain ⟨wd, hwd⟩ : ∃ wd, wd = w1.drewN nq := ⟨_, rfl⟩
  rw [← hwd]
  have hgd : wd.heap[x]? = some (.cells #[.int .i64 cap, .slice ao L.length cap2] 108 (0, 0)) := by rw [hwd]; exact HGX.out
  have HGD := Lib.hid hgd
  have HRD8 := Lib.hid (show wd.heap[w.heap.size]? = some (.cells #[.int .i64 0, .bool false, .int .u64 0, .bool false, .int .u64 0, .int .u64 0] 41 (0, 0)) by rw [hwd]; exact HR8.out)
  have HOD := Lib.hid (show Only (fun _ => False) w wd by rw [hwd]; exact HO.out.drewN nq)
  have HWD := Lib.hid (OwS.framed.only _ _ _ _ HW.out HOD.out (fun _ _ _ h => h))
  clear hwd c0 c1 hxl HO HW1 HR8 HGX
  have c0 := cells_of_heap hgd 0 _ rfl
  have c1 := cells_of_heap hgd 1 _ rfl
  have hxl : x < wd.heap.size := heap_lt hgd
  clear hgd
  have HWA := Lib.hid (OwS.framed.alloc (OwS.framed.alloc HWD.out (.cells #[.int .i64 0, .bool false, .int .u64 0, .bool false, .int .u64 0, .int .u64 0] 41)) (.cells #[.int .u64 key, .int .u64 val] 50))
  have HRD := Lib.hid (Rd.lit2 (E := ePair) wd (.cells #[.int .i64 0, .bool false, .int .u64 0, .bool false, .int .u64 0, .int .u64 0] 41) #[.int .u64 key, .int .u64 val] 50 (0, 0) 1 1 [(key, val)] rfl rfl (by simp) (by simp [maxLen]))
  go_wp2_with (at_builtin; refine wl_appendS (E := ePair) rfl _ (.tmp 80) _ rfl 50 16 ePair_slice (fun k => (Value.slice ao L.length cap2).ownBlock = some k) _ L rfl HWA.out _ [(key, val)] rfl HRD.out (by simp only [List.length_cons, List.length_nil]; omega) (by unfold maxLen; simp only [List.length_cons, List.length_nil]; omega) ?_)
  intro v5 w5 h5 hO5
  obtain ⟨_, ao5, c5, rfl, _⟩ := id h5.1
  have hln : (L ++ [((key, val) : PairD)]).length = L.length + 1 := by simp
  rw [hln] at h5 ⊢
  clear hln
  have hx5 := hO5.heap (heap_alloc (p := .cells #[.int .u64 key, .int .u64 val] 50) (heap_alloc (p := .cells #[.int .i64 0, .bool false, .int .u64 0, .bool false, .int .u64 0, .int .u64 0] 41) HGD.out)) HNE.out
  have hwl : w.heap.size < wd.heap.size := heap_lt HRD8.out
  have hown : ∀ k, (Value.slice ao L.length cap2).ownBlock = some k → k < w.heap.size := fun k hk => (HW.out.1.lt hk).2
  have h85 := hO5.heap (heap_alloc (p := .cells #[.int .u64 key, .int .u64 val] 50) (heap_alloc (p := .cells #[.int .i64 0, .bool false, .int .u64 0, .bool false, .int .u64 0, .int .u64 0] 41) HRD8.out)) (fun h => by have := hown _ h; omega)
  have h125 := hO5.heap (heap_alloc (p := .cells #[.int .u64 key, .int .u64 val] 50) (heap_alloc_new wd (.cells #[.int .i64 0, .bool false, .int .u64 0, .bool false, .int .u64 0, .int .u64 0] 41))) (fun h => by have := hown _ h; omega)
  have hx0 := heap_lt HG.out
  have e1 := cells_of_heap hx5 1 _ rfl
  have fx : ∀ i, w5.frozen? ⟨x, i, none⟩ = false := fun i => by simp [World.frozen?, hx5]
  have r8 := heap_setCell_far h85 x 1 (.slice ao5 (L.length + 1) c5) (by omega)
  have r12 := heap_setCell_far h125 x 1 (.slice ao5 (L.length + 1) c5) (by omega)
  have rx := blk_set hx5 1 (.slice ao5 (L.length + 1) c5)
  obtain ⟨b0, b1, b2, b3, b4, b5⟩ := res_cells r12
  have hO5' : Only (fun k => (S k ∧ k < w.heap.size) ∨ w.heap.size ≤ k) w w5 := ((HOD.out.wide.tr (Only.alloc _ _ _)).tr (Only.alloc _ _ _)).trans hO5 fun k hk h => .inl ⟨HVS.out k h, hown k h⟩
  have HFIN := Lib.hid (fun cs => ref_fin2 (S := S) (m := w.heap.size + 1) (w := w) rx HSX.out hx0 ⟨h5.1.only (Only.setCell (fun k => k = x) w5 x 1 _ rfl) (fun k hk e => row_ne hx5 h5.1 (by decide) (by rw [hk, e])), fun k hk => by
      rcases h5.2 k hk with h | h
      · exact .inl ⟨HVS.out k h, hown k h⟩
      · refine .inr ?_
        omega⟩ (by omega) (hO5'.trans (Only.setCell (fun k => k = x) w5 x 1 _ rfl) fun k hk e => .inl ⟨by rw [e]; exact HSX.out, by omega⟩) cs)
  have R8 := Lib.hid r8
  have hl5 : x < w5.heap.size := heap_lt hx5
  clear h5 hO5 hx5 h85 h125 r8 r12 rx hO5' hown HWA HRD HWD HOD c0 c1
  go_wp2_with (refine wpList_store_row rfl 41 (.tmp 8) (.tmp 92) rfl w.heap.size _ rfl rfl 41 _ R8.out (by kernel_rfl) rfl (res_one _ _ _ _ _ _) ?_)
  refine bodyPost_ret (results_cell_row rfl _ _ w.heap.size _ _ _ _ rfl (setRow_heap _ _ _ _ _ _ R8.out) Try.underlying41 rfl (by kernel_rfl)) rfl ?_
  exact ⟨rfl, HFIN.out _⟩

set_option maxRecDepth 100000 in
set_option maxHeartbeats 2000000 in
theorem refAdd_no (x : Nat) (cap : Int) (L : List PairD) (S : Nat → Prop) (key val : Int) (w : World) (H : RefS x cap L S w) (hL : L.length ≤ 16) (hh : hasP L key = false) (hfull : ¬ cap ≤ (L.length : Int)) :
    Calls Try.prog 36 #[.pointer (some ⟨x, 0, none⟩), .int .i64 4, .int .u64 key, .int .u64 val] w (RefPost x S cap w (resF false (IntKind.u64.wrap val)) (L ++ [(key, IntKind.u64.wrap val)])) := by
  have HPL := Lib.hid (place_any x cap L S key _ (RefS.framed.alloc H (.cells #[.int .i64 0, .bool false, .int .u64 0, .bool false, .int .u64 0, .int .u64 0] 41)) hL)
  have hp : placeP L key = -1 := by unfold placeP; rw [hh]; rfl
  rw [hp] at HPL
  clear hp
  obtain ⟨v, hg, hown, hS, hvS⟩ := H
  obtain ⟨_, ao, cap2, rfl, _, _, _⟩ := id hown.rd
  have HNE := Lib.hid (row_ne hg hown (by decide))
  have HVS := Lib.hid hvS
  have HSX := Lib.hid hS
  have HW := Lib.hid (show OwS ePair 50 (fun k => (Value.slice ao L.length cap2).ownBlock = some k) w (.slice ao L.length cap2) L from ⟨hown, fun _ h => h⟩)
  have HG := Lib.hid hg
  clear hg hown hS hvS hh
  go_enter Try.func36, Try.ntmps36
  go_wp2_with fail
  refine HPL.out.mono ?_
  rintro e w1 ⟨rfl, ho⟩
  have hr8 := ho.heap (heap_alloc_new w _) (fun h => h)
  have hgx := ho.heap (heap_alloc HG.out) (fun h => h)
  have HR8 := Lib.hid hr8
  have HGX := Lib.hid hgx
  have c0 := cells_of_heap hgx 0 _ rfl
  have c1 := cells_of_heap hgx 1 _ rfl
  have HO := Lib.hid ((Only.alloc (fun _ => False) w _).tr ho)
  have HW1 := Lib.hid (OwS.framed.only _ _ _ _ HW.out HO.out (fun _ _ _ h => h))
  have hxl : x < w1.heap.size := heap_lt hgx
  clear hr8 ho hgx
  go_wp2_with fail
  go_quiet (fail)
  obtain ⟨wd, hwd⟩ : ∃ wd, wd = w1.drewN nq := ⟨_, rfl⟩
  rw [← hwd]
  have hgd : wd.heap[x]? = some (.cells #[.int .i64 cap, .slice ao L.length cap2] 108 (0, 0)) := by rw [hwd]; exact HGX.out
  have HGD := Lib.hid hgd
  have HRD8 := Lib.hid (show wd.heap[w.heap.size]? = some (.cells #[.int .i64 0, .bool false, .int .u64 0, .bool false, .int .u64 0, .int .u64 0] 41 (0, 0)) by rw [hwd]; exact HR8.out)
  have HOD := Lib.hid (show Only (fun _ => False) w wd by rw [hwd]; exact HO.out.drewN nq)
  have HWD := Lib.hid (OwS.framed.only _ _ _ _ HW.out HOD.out (fun _ _ _ h => h))
  clear hwd c0 c1 hxl HO HW1 HR8 HGX
  have c0 := cells_of_heap hgd 0 _ rfl
  have c1 := cells_of_heap hgd 1 _ rfl
  have hxl : x < wd.heap.size := heap_lt hgd
  clear hgd
  have HWA := Lib.hid (OwS.framed.alloc (OwS.framed.alloc HWD.out (.cells #[.int .i64 0, .bool false, .int .u64 (IntKind.u64.wrap val), .bool false, .int .u64 0, .int .u64 0] 41)) (.cells #[.int .u64 key, .int .u64 (IntKind.u64.wrap val)] 50))
  have HRD := Lib.hid (Rd.lit2 (E := ePair) wd (.cells #[.int .i64 0, .bool false, .int .u64 (IntKind.u64.wrap val), .bool false, .int .u64 0, .int .u64 0] 41) #[.int .u64 key, .int .u64 (IntKind.u64.wrap val)] 50 (0, 0) 1 1 [(key, IntKind.u64.wrap val)] rfl rfl (by simp) (by simp [maxLen]))
  go_wp2_with (at_builtin; refine wl_appendS (E := ePair) rfl _ (.tmp 80) _ rfl 50 16 ePair_slice (fun k => (Value.slice ao L.length cap2).ownBlock = some k) _ L rfl HWA.out _ [(key, IntKind.u64.wrap val)] rfl HRD.out (by simp only [List.length_cons, List.length_nil]; omega) (by unfold maxLen; simp only [List.length_cons, List.length_nil]; omega) ?_)
  intro v5 w5 h5 hO5
  obtain ⟨_, ao5, c5, rfl, _⟩ := id h5.1
  have hln : (L ++ [((key, IntKind.u64.wrap val) : PairD)]).length = L.length + 1 := by simp
  rw [hln] at h5 ⊢
  clear hln
  have hx5 := hO5.heap (heap_alloc (p := .cells #[.int .u64 key, .int .u64 (IntKind.u64.wrap val)] 50) (heap_alloc (p := .cells #[.int .i64 0, .bool false, .int .u64 (IntKind.u64.wrap val), .bool false, .int .u64 0, .int .u64 0] 41) HGD.out)) HNE.out
  have hwl : w.heap.size < wd.heap.size := heap_lt HRD8.out
  have hown : ∀ k, (Value.slice ao L.length cap2).ownBlock = some k → k < w.heap.size := fun k hk => (HW.out.1.lt hk).2
  have h85 := hO5.heap (heap_alloc (p := .cells #[.int .u64 key, .int .u64 (IntKind.u64.wrap val)] 50) (heap_alloc (p := .cells #[.int .i64 0, .bool false, .int .u64 (IntKind.u64.wrap val), .bool false, .int .u64 0, .int .u64 0] 41) HRD8.out)) (fun h => by have := hown _ h; omega)
  have h125 := hO5.heap (heap_alloc (p := .cells #[.int .u64 key, .int .u64 (IntKind.u64.wrap val)] 50) (heap_alloc_new wd (.cells #[.int .i64 0, .bool false, .int .u64 (IntKind.u64.wrap val), .bool false, .int .u64 0, .int .u64 0] 41))) (fun h => by have := hown _ h; omega)
  have hx0 := heap_lt HG.out
  have e1 := cells_of_heap hx5 1 _ rfl
  have fx : ∀ i, w5.frozen? ⟨x, i, none⟩ = false := fun i => by simp [World.frozen?, hx5]
  have r8 := heap_setCell_far h85 x 1 (.slice ao5 (L.length + 1) c5) (by omega)
  have r12 := heap_setCell_far h125 x 1 (.slice ao5 (L.length + 1) c5) (by omega)
  have rx := blk_set hx5 1 (.slice ao5 (L.length + 1) c5)
  obtain ⟨b0, b1, b2, b3, b4, b5⟩ := res_cells r12
  have hO5' : Only (fun k => (S k ∧ k < w.heap.size) ∨ w.heap.size ≤ k) w w5 := ((HOD.out.wide.tr (Only.alloc _ _ _)).tr (Only.alloc _ _ _)).trans hO5 fun k hk h => .inl ⟨HVS.out k h, hown k h⟩
  have HFIN := Lib.hid (fun cs => ref_fin2 (S := S) (m := w.heap.size + 1) (w := w) rx HSX.out hx0 ⟨h5.1.only (Only.setCell (fun k => k = x) w5 x 1 _ rfl) (fun k hk e => row_ne hx5 h5.1 (by decide) (by rw [hk, e])), fun k hk => by
      rcases h5.2 k hk with h | h
      · exact .inl ⟨HVS.out k h, hown k h⟩
      · refine .inr ?_
        omega⟩ (by omega) (hO5'.trans (Only.setCell (fun k => k = x) w5 x 1 _ rfl) fun k hk e => .inl ⟨by rw [e]; exact HSX.out, by omega⟩) cs)
  have R8 := Lib.hid r8
  have hl5 : x < w5.heap.size := heap_lt hx5
  clear h5 hO5 hx5 h85 h125 r8 r12 rx hO5' hown HWA HRD HWD HOD c0 c1
  go_wp2_with (refine wpList_store_row rfl 41 (.tmp 8) (.tmp 92) rfl w.heap.size _ rfl rfl 41 _ R8.out (by kernel_rfl) rfl (res_one _ _ _ _ _ _) ?_)
  refine bodyPost_ret (results_cell_row rfl _ _ w.heap.size _ _ _ _ rfl (setRow_heap _ _ _ _ _ _ R8.out) Try.underlying41 rfl (by kernel_rfl)) rfl ?_
  exact ⟨rfl, HFIN.out _⟩

theorem erase_step {L : List PairD} {k : Nat} (p : Nat) (h : k < L.length) : (L.take (k + 1)).eraseIdx p = (L.take k).eraseIdx p ++ (if k = p then [] else [L[k]]) := by
  have hl : (L.take k).length = k := by simp; omega
  rw [List.take_succ_eq_append_getElem h]
  by_cases e : k = p
  · subst e
    rw [if_pos rfl, List.eraseIdx_append_of_length_le (by omega), List.eraseIdx_of_length_le (l := L.take k) (by omega), hl]
    simp
  · rw [if_neg e]
    by_cases hlt : p < k
    · rw [List.eraseIdx_append_of_lt_length (by omega)]
    · rw [List.eraseIdx_of_length_le (l := L.take k) (by omega), List.eraseIdx_of_length_le (by simp; omega)]
theorem erase_len {L : List PairD} (k p : Nat) : ((L.take k).eraseIdx p).length ≤ L.length := by
  have := List.length_eraseIdx_le (L.take k) p
  simp at this; omega

set_option maxRecDepth 100000 in
set_option maxHeartbeats 2000000 in
theorem refDel_yes (x : Nat) (cap : Int) (L : List PairD) (S : Nat → Prop) (key val : Int) (w : World) (H : RefS x cap L S w) (hL : L.length ≤ 16) (p : Nat) (hp : p < L.length) (hpl : placeP L key = p) :
    Calls Try.prog 36 #[.pointer (some ⟨x, 0, none⟩), .int .i64 3, .int .u64 key, .int .u64 val] w (RefPost x S cap w (resF true L[p].2) (L.eraseIdx p)) := by
  have H0 := Lib.hid H
  have HPL := Lib.hid (place_any x cap L S key _ (RefS.framed.alloc H (.cells #[.int .i64 0, .bool false, .int .u64 0, .bool false, .int .u64 0, .int .u64 0] 41)) hL)
  rw [hpl] at HPL
  clear hpl
  obtain ⟨v, hg, hown, hS, hvS⟩ := H
  have hgne := row_ne hg hown (by decide)
  obtain ⟨_, ao, cap2, rfl, _, _, hx⟩ := id hown.rd
  obtain ⟨sb, off, rfl, hc⟩ := hx (by omega)
  obtain ⟨g', off', hgo, _, hcell⟩ := hown.at_ p hp
  obtain ⟨rfl, rfl⟩ : sb = g' ∧ off = off' := by simpa using hgo
  have hfz := (hcell 1 (by decide)).2
  rw [← Nat.add_assoc] at hfz
  have HFZ := Lib.hid (show w.frozen? ⟨sb, off + p * 2 + 1, none⟩ = false from hfz)
  obtain ⟨_, k1⟩ := pair_cells hc p hp
  have HK1 := Lib.hid k1
  have hpi0 : (0 : Int) ≤ (p : Int) := by omega
  have hpi1 : (p : Int) < (L.length : Int) := by omega
  have HSB := Lib.hid (show sb < w.heap.size from (hown.lt rfl).2)
  have HRDL := Lib.hid hown.rd
  have HSX := Lib.hid (show x ≠ sb from fun e => hgne (by simp [Value.ownBlock, e]))
  have HG := Lib.hid hg
  clear hg hown hS hvS hx hc k1 hgne hfz hcell hgo
  obtain ⟨old, hold⟩ : ∃ old, old = L[p].2 := ⟨_, rfl⟩
  rw [← hold] at HK1 ⊢
  clear hold
  go_enter Try.func36, Try.ntmps36
  go_wp2_with fail
  refine HPL.out.mono ?_
  rintro e w1 ⟨rfl, ho⟩
  have hr8 := ho.heap (heap_alloc_new w _) (fun h => h)
  have hgx := ho.heap (heap_alloc HG.out) (fun h => h)
  have HR8 := Lib.hid hr8
  have HGX := Lib.hid hgx
  have c0 := cells_of_heap hgx 0 _ rfl
  have c1 := cells_of_heap hgx 1 _ rfl
  have HO := Lib.hid ((Only.alloc (fun _ => False) w _).tr ho)
  have hsw := HO.out.size
  have d1 : w1.cell? ⟨sb, off + p * 2 + 1, none⟩ = some (.int .u64 old) := (World.cell?_of_block (w := w) (w' := w1) (a := ⟨sb, off + p * 2 + 1, none⟩) (HO.out.block sb HSB.out (fun h => h))).trans HK1.out
  have f1 : w1.frozen? ⟨sb, off + p * 2 + 1, none⟩ = false := (World.frozen?_of_block (w := w) (w' := w1) (a := ⟨sb, off + p * 2 + 1, none⟩) (HO.out.block sb HSB.out (fun h => h))).trans HFZ.out
  have hxl : x < w1.heap.size := heap_lt hgx
  have hsl : sb < w1.heap.size := by have := HSB.out; omega
  clear hr8 ho hgx
  go_wp2_with fail
  refine wp_region_noPanic ?_
  refine wp_region_held_drew (S := fun _ => True) (by kernel_rfl) ?_ (fun hHeld => ?_)
  · exact trivial
  try simp only [Act.put, List.getElem_toArray, List.getElem_cons_succ, List.getElem_cons_zero, List.setIfInBounds_toArray, List.set_cons_zero, List.set_cons_succ]
  refine wpAnyH_take (i := 0) (v := ?v0) rfl (by kernel_rfl) (by kernel_rfl) (by kernel_rfl) (fun _ _ _ h => h) (Or.inl ⟨by rfl, ?hy0⟩) (by assumption) ?rest0
  case hy0 =>
    intro w hSw
    try dsimp only at hSw
    go_simp
    all_goals with_reducible rfl
  simp only [Act.put, List.getElem_toArray, List.getElem_cons_succ, List.getElem_cons_zero, List.setIfInBounds_toArray, List.set_cons_zero, List.set_cons_succ]
  refine wpAnyH_take (i := 1) (v := ?v1) rfl (by kernel_rfl) (by kernel_rfl) (by kernel_rfl) (fun _ _ _ h => h) (Or.inl ⟨by rfl, ?hy1⟩) (by assumption) ?rest1
  case hy1 =>
    intro w hSw
    try dsimp only at hSw
    go_simp
    all_goals with_reducible rfl
  simp only [Act.put, List.getElem_toArray, List.getElem_cons_succ, List.getElem_cons_zero, List.setIfInBounds_toArray, List.set_cons_zero, List.set_cons_succ]
  refine wpAnyH_take (i := 2) (v := ?v2) rfl (by kernel_rfl) (by kernel_rfl) (by kernel_rfl) (fun _ _ _ h => h) (Or.inl ⟨by rfl, ?hy2⟩) (by assumption) ?rest2
  case hy2 =>
    intro w hSw
    try dsimp only at hSw
    go_simp
    all_goals with_reducible rfl
  simp only [Act.put, List.getElem_toArray, List.getElem_cons_succ, List.getElem_cons_zero, List.setIfInBounds_toArray, List.set_cons_zero, List.set_cons_succ]
  refine wpAnyH_take (i := 3) (v := undef) rfl (by kernel_rfl) (by kernel_rfl) (by kernel_rfl) (fun _ _ _ h => h) (Or.inr ⟨by rfl, rfl⟩) (by assumption) ?_
  simp only [Act.put, List.getElem_toArray, List.getElem_cons_succ, List.getElem_cons_zero, List.setIfInBounds_toArray, List.set_cons_zero, List.set_cons_succ]
  refine wpAnyH_take (i := 4) (v := undef) rfl (by kernel_rfl) (by kernel_rfl) (by kernel_rfl) (fun _ _ _ h => h) (Or.inr ⟨by rfl, rfl⟩) (by assumption) ?_
  simp only [Act.put, List.getElem_toArray, List.getElem_cons_succ, List.getElem_cons_zero, List.setIfInBounds_toArray, List.set_cons_zero, List.set_cons_succ]
  refine wpAnyH_take (i := 5) (v := undef) rfl (by kernel_rfl) (by kernel_rfl) (by kernel_rfl) (fun _ _ _ h => h) (Or.inr ⟨by rfl, rfl⟩) (by assumption) ?_
  simp only [Act.put, List.getElem_toArray, List.getElem_cons_succ, List.getElem_cons_zero, List.setIfInBounds_toArray, List.set_cons_zero, List.set_cons_succ]
  refine wpAnyH_take (i := 6) (v := undef) rfl (by kernel_rfl) (by kernel_rfl) (by kernel_rfl) (fun _ _ _ h => h) (Or.inr ⟨by rfl, rfl⟩) (by assumption) ?_
  simp only [Act.put, List.getElem_toArray, List.getElem_cons_succ, List.getElem_cons_zero, List.setIfInBounds_toArray, List.set_cons_zero, List.set_cons_succ]
  refine wpAnyH_take (i := 7) (v := undef) rfl (by kernel_rfl) (by kernel_rfl) (by kernel_rfl) (fun _ _ _ h => h) (Or.inr ⟨by rfl, rfl⟩) (by assumption) ?_
  simp only [Act.put, List.getElem_toArray, List.getElem_cons_succ, List.getElem_cons_zero, List.setIfInBounds_toArray, List.set_cons_zero, List.set_cons_succ]
  refine wpAnyH_take (i := 8) (v := undef) rfl (by kernel_rfl) (by kernel_rfl) (by kernel_rfl) (fun _ _ _ h => h) (Or.inr ⟨by rfl, rfl⟩) (by assumption) ?_
  simp only [Act.put, List.getElem_toArray, List.getElem_cons_succ, List.getElem_cons_zero, List.setIfInBounds_toArray, List.set_cons_zero, List.set_cons_succ]
  refine wpAnyH_take (i := 9) (v := undef) rfl (by kernel_rfl) (by kernel_rfl) (by kernel_rfl) (fun _ _ _ h => h) (Or.inr ⟨by rfl, rfl⟩) (by assumption) ?_
  simp only [Act.put, List.getElem_toArray, List.getElem_cons_succ, List.getElem_cons_zero, List.setIfInBounds_toArray, List.set_cons_zero, List.set_cons_succ]
  refine wpAnyH_take (i := 10) (v := undef) rfl (by kernel_rfl) (by kernel_rfl) (by kernel_rfl) (fun _ _ _ h => h) (Or.inr ⟨by rfl, rfl⟩) (by assumption) ?_
  simp only [Act.put, List.getElem_toArray, List.getElem_cons_succ, List.getElem_cons_zero, List.setIfInBounds_toArray, List.set_cons_zero, List.set_cons_succ]
  refine wpAnyH_take (i := 11) (v := undef) rfl (by kernel_rfl) (by kernel_rfl) (by kernel_rfl) (fun _ _ _ h => h) (Or.inr ⟨by rfl, rfl⟩) (by assumption) ?_
  simp only [Act.put, List.getElem_toArray, List.getElem_cons_succ, List.getElem_cons_zero, List.setIfInBounds_toArray, List.set_cons_zero, List.set_cons_succ]
  refine wpAnyH_take (i := 12) (v := undef) rfl (by kernel_rfl) (by kernel_rfl) (by kernel_rfl) (fun _ _ _ h => h) (Or.inr ⟨by rfl, rfl⟩) (by assumption) ?_
  simp only [Act.put, List.getElem_toArray, List.getElem_cons_succ, List.getElem_cons_zero, List.setIfInBounds_toArray, List.set_cons_zero, List.set_cons_succ]
  refine wpAnyH_take (i := 13) (v := ?v13) rfl (by kernel_rfl) (by kernel_rfl) (by kernel_rfl) (fun _ _ _ h => h) (Or.inl ⟨by rfl, ?hy13⟩) (by assumption) ?rest13
  case hy13 =>
    intro w hSw
    try dsimp only at hSw
    go_simp
    all_goals with_reducible rfl
  simp only [Act.put, List.getElem_toArray, List.getElem_cons_succ, List.getElem_cons_zero, List.setIfInBounds_toArray, List.set_cons_zero, List.set_cons_succ]
  refine wpAnyH_take (i := 14) (v := ?v14) rfl (by kernel_rfl) (by kernel_rfl) (by kernel_rfl) (fun _ _ _ h => h) (Or.inl ⟨by rfl, ?hy14⟩) (by assumption) ?rest14
  case hy14 =>
    intro w hSw
    try dsimp only at hSw
    go_simp
    all_goals with_reducible rfl
  simp only [Act.put, List.getElem_toArray, List.getElem_cons_succ, List.getElem_cons_zero, List.setIfInBounds_toArray, List.set_cons_zero, List.set_cons_succ]
  refine wpAnyH_done (by kernel_rfl) ?_ _
  refine NoPanic.normal ?_
  obtain ⟨wd, hwd⟩ : ∃ wd, wd = w1.drew := ⟨_, rfl⟩
  rw [← hwd]
  have HGD := Lib.hid (show wd.heap[x]? = some (.cells #[.int .i64 cap, .slice (some ⟨sb, off, none⟩) L.length cap2] 108 (0, 0)) by rw [hwd]; exact HGX.out)
  have HRD8 := Lib.hid (show wd.heap[w.heap.size]? = some (.cells #[.int .i64 0, .bool false, .int .u64 0, .bool false, .int .u64 0, .int .u64 0] 41 (0, 0)) by rw [hwd]; exact HR8.out)
  have HOD := Lib.hid (show Only (fun _ => False) w wd by rw [hwd]; exact HO.out.drew_)
  have HRDd := Lib.hid (HRDL.out.only HOD.out)
  clear d1 f1 hwd c0 c1 hxl hsl hsw HO HGX HR8 HRDL
  go_wp2_with fail
  go_loopw [13, 14] (fun t13 t14 wr => ∃ (k n c : Nat) (lo : Option Addr), k ≤ L.length ∧ t14 = .int .i64 k ∧ t13 = .slice lo n c ∧ Hid (OwS ePair 50 (fun k => wd.heap.size ≤ k) wr (.slice lo n c) ((L.take k).eraseIdx p)) ∧ Hid (Only (fun _ => False) wd wr)) (fun _ t14 _ => L.length - (intOf t14).toNat)
  case atStart => exact ⟨0, 0, 0, none, Nat.zero_le _, rfl, rfl, Lib.hid (by simpa using OwS.nil _ _), Lib.hid (Only.refl _ _)⟩
  case round =>
    obtain ⟨k, ln, lc, lo, hk, rfl, rfl, HLO, HOR⟩ := hrel
    have hgr := HOR.out.heap HGD.out (fun h => h)
    have c1 := cells_of_heap hgr 1 _ rfl
    have hxr : x < wr.heap.size := heap_lt hgr
    by_cases hlt : k < L.length
    · obtain ⟨_, ao', cap', hao, _, _, hx⟩ := HRDd.out.only HOR.out
      obtain ⟨rfl, _, rfl⟩ : (some ⟨sb, off, none⟩ : Option Addr) = ao' ∧ L.length = L.length ∧ cap2 = cap' := by simpa using hao
      obtain ⟨sb', off', hso, hc⟩ := hx (by omega)
      obtain ⟨rfl, rfl⟩ : sb = sb' ∧ off = off' := by simpa using hso
      obtain ⟨d0, d1⟩ := pair_cells hc k hlt
      have HST := Lib.hid (erase_step p hlt)
      have hi0 : (0 : Int) ≤ (k : Int) := by omega
      have hi1 : (k : Int) < (L.length : Int) := by omega
      clear hc hx hao hso hgr
      obtain ⟨p0, p1, hpe⟩ : ∃ p0 p1, L[k] = ((p0, p1) : PairD) := ⟨_, _, rfl⟩
      rw [hpe] at d0 d1 HST
      by_cases hkp : k = p
      · have HE := Lib.hid (show (L.take (k + 1)).eraseIdx p = (L.take k).eraseIdx p by rw [HST.out, if_pos hkp, List.append_nil])
        have hq : ((k : Int) != (p : Int)) = false := by simp; omega
        clear HST hpe d0 d1
        go_wp2_with fail
        go_roundw
        case rel => exact ⟨k + 1, ln, lc, lo, by omega, by go_num, rfl, by rw [HE.out]; exact HLO, HOR⟩
        case measure => simp [intOf]; omega
      · have HE := Lib.hid (show (L.take (k + 1)).eraseIdx p = (L.take k).eraseIdx p ++ [(p0, p1)] by rw [HST.out, if_neg hkp])
        have hq : ((k : Int) != (p : Int)) = true := by simp; omega
        have HEL := Lib.hid (erase_len (L := L) k p)
        have HOA := Lib.hid (OwS.framed.alloc HLO.out (.cells #[.int .u64 p0, .int .u64 p1] 50))
        have HRL := Lib.hid (Rd.lit (E := ePair) wr #[.int .u64 p0, .int .u64 p1] 50 (0, 0) 1 1 [(p0, p1)] rfl rfl (by simp) (by simp [maxLen]))
        clear HST hpe
        go_wp2_with (at_builtin; refine wl_appendS (E := ePair) rfl _ (.tmp 115) _ rfl 50 16 ePair_slice (fun k => wd.heap.size ≤ k) _ ((L.take k).eraseIdx p) rfl HOA.out _ [(p0, p1)] rfl HRL.out (by have := HEL.out; simp only [List.length_cons, List.length_nil]; omega) (by have := HEL.out; unfold maxLen; simp only [List.length_cons, List.length_nil]; omega) ?_)
        intro v5 w5 h5 hO5
        obtain ⟨_, ao5, c5, rfl, _⟩ := id h5.1
        have HO5 := Lib.hid ((HOR.out.tr (Only.alloc _ _ _)).trans hO5 fun k hk h => by omega)
        have hsz := HOR.out.size
        have H5 := Lib.hid (OwS.framed.mono _ (fun k => wd.heap.size ≤ k) _ h5 fun k _ h => by
          rcases h with h | h
          · exact h
          · omega)
        clear h5 hO5 hsz d0 d1 c1 hxr
        go_wp2_with fail
        go_roundw
        case rel => exact ⟨k + 1, _, c5, ao5, by omega, by go_num, rfl, by rw [HE.out]; exact H5, HO5⟩
        case measure => simp [intOf]; omega
    · have hE : (L.take k).eraseIdx p = L.eraseIdx p := by rw [List.take_of_length_le (by omega)]
      have hown := HLO.out
      rw [hE] at hown
      have hSx : S x := Obj1.in_ H0.out
      have hr8 := HOR.out.heap HRD8.out (fun h => h)
      have hwl : w.heap.size < wd.heap.size := heap_lt HRD8.out
      have hx0 := heap_lt HG.out
      have r8 := heap_setCell_far hr8 x 1 (.slice lo ln lc) (by omega)
      have rx := blk_set hgr 1 (.slice lo ln lc)
      have fx : ∀ i, wr.frozen? ⟨x, i, none⟩ = false := fun i => by simp [World.frozen?, hgr]
      have HFIN := Lib.hid (fun cs => ref_fin2 (S := S) (m := w.heap.size + 1) (w := w) rx hSx hx0 ⟨hown.1.only (Only.setCell (fun k => k = x) wr x 1 _ rfl) (fun k hk e => row_ne hgr hown.1 (by decide) (by rw [hk, e])), fun k hk => by
          have h : wd.heap.size ≤ k := hown.2 k hk
          exact .inr (by omega)⟩ (by omega) ((HOD.out.tr HOR.out).wide.trans (Only.setCell (fun k => k = x) wr x 1 _ rfl) fun k hk e => .inl ⟨by rw [e]; exact hSx, by omega⟩) cs)
      have R8 := Lib.hid r8
      clear hE hown hSx hr8 r8 rx hgr hwl
      go_wp2_with (refine wpList_store_row rfl 41 (.tmp 8) (.tmp 124) rfl w.heap.size _ rfl rfl 41 _ R8.out (by kernel_rfl) rfl (res_one _ _ _ _ _ _) ?_)
      refine bodyPost_ret (results_cell_row rfl _ _ w.heap.size _ _ _ _ rfl (setRow_heap _ _ _ _ _ _ R8.out) Try.underlying41 rfl (by kernel_rfl)) rfl ?_
      exact ⟨rfl, HFIN.out _⟩

set_option maxRecDepth 100000 in
set_option maxHeartbeats 2000000 in
theorem refDel_no (x : Nat) (cap : Int) (L : List PairD) (S : Nat → Prop) (key val : Int) (w : World) (H : RefS x cap L S w) (hL : L.length ≤ 16) (hh : hasP L key = false) :
    Calls Try.prog 36 #[.pointer (some ⟨x, 0, none⟩), .int .i64 3, .int .u64 key, .int .u64 val] w (RefPost x S cap w (resF false 0) L) := by
  have H0 := Lib.hid H
  have HPL := Lib.hid (place_any x cap L S key _ (RefS.framed.alloc H (.cells #[.int .i64 0, .bool false, .int .u64 0, .bool false, .int .u64 0, .int .u64 0] 41)) hL)
  have hp : placeP L key = -1 := by unfold placeP; rw [hh]; rfl
  rw [hp] at HPL
  clear hp
  obtain ⟨v, hg, hown, hS, hvS⟩ := H
  obtain ⟨_, ao, cap2, rfl, _, _, _⟩ := id hown.rd
  have HNE := Lib.hid (row_ne hg hown (by decide))
  have HVS := Lib.hid hvS
  have HSX := Lib.hid hS
  have HW := Lib.hid (show OwS ePair 50 (fun k => (Value.slice ao L.length cap2).ownBlock = some k) w (.slice ao L.length cap2) L from ⟨hown, fun _ h => h⟩)
  have HG := Lib.hid hg
  clear hg hown hS hvS hh
  go_enter Try.func36, Try.ntmps36
  go_wp2_with fail
  refine HPL.out.mono ?_
  rintro e w1 ⟨rfl, ho⟩
  have hr8 := ho.heap (heap_alloc_new w _) (fun h => h)
  have hgx := ho.heap (heap_alloc HG.out) (fun h => h)
  have HR8 := Lib.hid hr8
  have HGX := Lib.hid hgx
  have c0 := cells_of_heap hgx 0 _ rfl
  have c1 := cells_of_heap hgx 1 _ rfl
  have HO := Lib.hid ((Only.alloc (fun _ => False) w _).tr ho)
  have HW1 := Lib.hid (OwS.framed.only _ _ _ _ HW.out HO.out (fun _ _ _ h => h))
  have hxl : x < w1.heap.size := heap_lt hgx
  clear hr8 ho hgx
  go_wp2_with fail
  go_quiet (fail)
  obtain ⟨wd, hwd⟩ : ∃ wd, wd = w1.drewN nq := ⟨_, rfl⟩
  rw [← hwd]
  have hgd : wd.heap[x]? = some (.cells #[.int .i64 cap, .slice ao L.length cap2] 108 (0, 0)) := by rw [hwd]; exact HGX.out
  have HGD := Lib.hid hgd
  have HRD8 := Lib.hid (show wd.heap[w.heap.size]? = some (.cells #[.int .i64 0, .bool false, .int .u64 0, .bool false, .int .u64 0, .int .u64 0] 41 (0, 0)) by rw [hwd]; exact HR8.out)
  have HOD := Lib.hid (show Only (fun _ => False) w wd by rw [hwd]; exact HO.out.drewN nq)
  have HWD := Lib.hid (OwS.framed.only _ _ _ _ HW.out HOD.out (fun _ _ _ h => h))
  clear hwd c0 c1 hxl HO HW1 HR8 HGX
  have c0 := cells_of_heap hgd 0 _ rfl
  have c1 := cells_of_heap hgd 1 _ rfl
  have hxl : x < wd.heap.size := heap_lt hgd
  clear hgd
  have HRDd := Lib.hid HWD.out.rd
  clear c0 c1 hxl
  go_wp2_with fail
  go_loopw [13, 14] (fun t13 t14 wr => ∃ (k n c : Nat) (lo : Option Addr), k ≤ L.length ∧ t14 = .int .i64 k ∧ t13 = .slice lo n c ∧ Hid (OwS ePair 50 (fun k => wd.heap.size ≤ k) wr (.slice lo n c) (L.take k)) ∧ Hid (Only (fun _ => False) wd wr)) (fun _ t14 _ => L.length - (intOf t14).toNat)
  case atStart => exact ⟨0, 0, 0, none, Nat.zero_le _, rfl, rfl, Lib.hid (by simpa using OwS.nil _ _), Lib.hid (Only.refl _ _)⟩
  case round =>
    obtain ⟨k, ln, lc, lo, hk, rfl, rfl, HLO, HOR⟩ := hrel
    have hgr := HOR.out.heap HGD.out (fun h => h)
    have c1 := cells_of_heap hgr 1 _ rfl
    have hxr : x < wr.heap.size := heap_lt hgr
    by_cases hlt : k < L.length
    · obtain ⟨_, ao', cap', hao, _, _, hx⟩ := HRDd.out.only HOR.out
      obtain ⟨rfl, _, rfl⟩ : ao = ao' ∧ L.length = L.length ∧ cap2 = cap' := by simpa using hao
      obtain ⟨sb, off, rfl, hc⟩ := hx (by omega)
      obtain ⟨d0, d1⟩ := pair_cells hc k hlt
      have HST := Lib.hid (List.take_succ_eq_append_getElem hlt)
      have hi0 : (0 : Int) ≤ (k : Int) := by omega
      have hi1 : (k : Int) < (L.length : Int) := by omega
      clear hc hx hao hgr
      obtain ⟨p0, p1, hpe⟩ : ∃ p0 p1, L[k] = ((p0, p1) : PairD) := ⟨_, _, rfl⟩
      rw [hpe] at d0 d1 HST
      have HE := Lib.hid (show L.take (k + 1) = L.take k ++ [(p0, p1)] from HST.out)
      have hq : ((k : Int) != (-1 : Int)) = true := by simp
      have HEL := Lib.hid (show (L.take k).length ≤ L.length by simp; omega)
      have HOA := Lib.hid (OwS.framed.alloc HLO.out (.cells #[.int .u64 p0, .int .u64 p1] 50))
      have HRL := Lib.hid (Rd.lit (E := ePair) wr #[.int .u64 p0, .int .u64 p1] 50 (0, 0) 1 1 [(p0, p1)] rfl rfl (by simp) (by simp [maxLen]))
      clear HST hpe
      go_wp2_with (at_builtin; refine wl_appendS (E := ePair) rfl _ (.tmp 115) _ rfl 50 16 ePair_slice (fun k => wd.heap.size ≤ k) _ (L.take k) rfl HOA.out _ [(p0, p1)] rfl HRL.out (by have := HEL.out; simp only [List.length_cons, List.length_nil]; omega) (by have := HEL.out; unfold maxLen; simp only [List.length_cons, List.length_nil]; omega) ?_)
      intro v5 w5 h5 hO5
      obtain ⟨_, ao5, c5, rfl, _⟩ := id h5.1
      have HO5 := Lib.hid ((HOR.out.tr (Only.alloc _ _ _)).trans hO5 fun k hk h => by omega)
      have hsz := HOR.out.size
      have H5 := Lib.hid (OwS.framed.mono _ (fun k => wd.heap.size ≤ k) _ h5 fun k _ h => by
        rcases h with h | h
        · exact h
        · omega)
      clear h5 hO5 hsz d0 d1 c1 hxr
      go_wp2_with fail
      go_roundw
      case rel => exact ⟨k + 1, _, c5, ao5, by omega, by go_num, rfl, by rw [HE.out]; exact H5, HO5⟩
      case measure => simp [intOf]; omega
    · have hE : L.take k = L := List.take_of_length_le (by omega)
      have hown := HLO.out
      rw [hE] at hown
      have hSx : S x := Obj1.in_ H0.out
      have hr8 := HOR.out.heap HRD8.out (fun h => h)
      have hwl : w.heap.size < wd.heap.size := heap_lt HRD8.out
      have hx0 := heap_lt HG.out
      have r8 := heap_setCell_far hr8 x 1 (.slice lo ln lc) (by omega)
      have rx := blk_set hgr 1 (.slice lo ln lc)
      have fx : ∀ i, wr.frozen? ⟨x, i, none⟩ = false := fun i => by simp [World.frozen?, hgr]
      have HFIN := Lib.hid (fun cs => ref_fin2 (S := S) (m := w.heap.size + 1) (w := w) rx hSx hx0 ⟨hown.1.only (Only.setCell (fun k => k = x) wr x 1 _ rfl) (fun k hk e => row_ne hgr hown.1 (by decide) (by rw [hk, e])), fun k hk => by
          have h : wd.heap.size ≤ k := hown.2 k hk
          exact .inr (by omega)⟩ (by omega) ((HOD.out.tr HOR.out).wide.trans (Only.setCell (fun k => k = x) wr x 1 _ rfl) fun k hk e => .inl ⟨by rw [e]; exact hSx, by omega⟩) cs)
      have R8 := Lib.hid r8
      clear hE hown hSx hr8 r8 rx hgr hwl
      go_wp2_with (refine wpList_store_row rfl 41 (.tmp 8) (.tmp 124) rfl w.heap.size _ rfl rfl 41 _ R8.out (by kernel_rfl) rfl (res_one _ _ _ _ _ _) ?_)
      refine bodyPost_ret (results_cell_row rfl _ _ w.heap.size _ _ _ _ rfl (setRow_heap _ _ _ _ _ _ R8.out) Try.underlying41 rfl (by kernel_rfl)) rfl ?_
      exact ⟨rfl, HFIN.out _⟩

structure Alike (cap : Int) (xs L : List PairD) : Prop where
  good : Good cap xs
  len : xs.length = L.length
  mem : ∀ p, p ∈ xs ↔ p ∈ L
  keys : Keys L
theorem Alike.has {cap : Int} {xs L : List PairD} (A : Alike cap xs L) (k : Int) : hasP L k = hasP xs k := by
  rw [Bool.eq_iff_iff, mem_has, mem_has]
  exact ⟨fun ⟨v, h⟩ => ⟨v, (A.mem _).2 h⟩, fun ⟨v, h⟩ => ⟨v, (A.mem _).1 h⟩⟩
theorem place_yes {L : List PairD} {k : Int} (h : hasP L k = true) : ∃ p : Nat, ∃ hp : p < L.length, placeP L k = p ∧ L[p].1 = k := by
  obtain ⟨v, hv⟩ := mem_has.1 h
  have hlt : L.findIdx (fun p => p.1 == k) < L.length := List.findIdx_lt_length.2 ⟨_, hv, by simp⟩
  refine ⟨_, hlt, ?_, ?_⟩
  · unfold placeP; rw [h, if_pos rfl]
  · have := List.findIdx_getElem (p := fun (p : PairD) => p.1 == k) (xs := L) (w := hlt)
    simpa using this
theorem Alike.old {cap : Int} {xs L : List PairD} (A : Alike cap xs L) {k : Int} {p : Nat} (hp : p < L.length) (hk : L[p].1 = k) : L[p].2 = oldP xs k := by
  have h : (k, L[p].2) ∈ xs := (A.mem _).2 (by rw [← hk]; exact List.getElem_mem _)
  exact (mem_old A.good.rising h).symm
theorem Alike.old_no {cap : Int} {xs L : List PairD} (A : Alike cap xs L) {k : Int} (h : hasP L k = false) : oldP xs k = 0 := by
  unfold oldP; rw [← A.has k, h]; rfl
/-- L with the pair of place p replaced, removed; a pair behind -/
theorem keys_set {L : List PairD} (h : Keys L) {p : Nat} {k v : Int} (hp : p < L.length) (hk : L[p].1 = k) : Keys (L.set p (k, v)) := by
  unfold Keys at *
  rw [List.pairwise_iff_getElem] at *
  have hkey : ∀ a (ha : a < (L.set p (k, v)).length), ((L.set p (k, v))[a]).1 = (L[a]'(by simpa using ha)).1 := fun a ha => by
    rw [List.getElem_set]
    split
    · rename_i e; subst e; exact hk.symm
    · rfl
  intro i j hi hj hij
  rw [hkey i hi, hkey j hj]
  exact h i j _ _ hij
theorem mem_set {L : List PairD} (h : Keys L) {p : Nat} {k v : Int} (hp : p < L.length) (hk : L[p].1 = k) (q : PairD) : q ∈ L.set p (k, v) ↔ q = (k, v) ∨ q.1 ≠ k ∧ q ∈ L := by
  unfold Keys at h
  rw [List.pairwise_iff_getElem] at h
  constructor
  · intro hq
    obtain ⟨a, ha, rfl⟩ := List.getElem_of_mem hq
    rw [List.getElem_set]
    split
    · exact .inl rfl
    · rename_i e
      have ha' : a < L.length := by simpa using ha
      refine .inr ⟨fun e2 => ?_, List.getElem_mem _⟩
      rcases Nat.lt_or_gt_of_ne e with h1 | h1
      · exact h p a hp ha' h1 (by rw [hk, e2])
      · exact h a p ha' hp h1 (by rw [hk, e2])
  · rintro (rfl | ⟨hn, hq⟩)
    · exact List.mem_set hp _
    · obtain ⟨a, ha, rfl⟩ := List.getElem_of_mem hq
      have e : p ≠ a := fun e => by subst e; exact hn hk
      have := List.getElem_mem (l := L.set p (k, v)) (n := a) (by simpa using ha)
      rwa [List.getElem_set_ne e] at this
theorem mem_erase {L : List PairD} (h : Keys L) {p : Nat} {k : Int} (hp : p < L.length) (hk : L[p].1 = k) (q : PairD) : q ∈ L.eraseIdx p ↔ q.1 ≠ k ∧ q ∈ L := by
  unfold Keys at h
  rw [List.pairwise_iff_getElem] at h
  rw [List.mem_eraseIdx_iff_getElem]
  constructor
  · rintro ⟨a, ha, hne, rfl⟩
    refine ⟨fun e2 => ?_, List.getElem_mem _⟩
    rcases Nat.lt_or_gt_of_ne hne with h1 | h1
    · exact h a p ha hp h1 (by rw [hk, e2])
    · exact h p a hp ha h1 (by rw [hk, e2])
  · rintro ⟨hn, hq⟩
    obtain ⟨a, ha, rfl⟩ := List.getElem_of_mem hq
    exact ⟨a, ha, fun e => by subst e; exact hn hk, rfl⟩
theorem keys_erase {L : List PairD} (h : Keys L) (p : Nat) : Keys (L.eraseIdx p) := h.sublist (List.eraseIdx_sublist ..)

theorem del_len {xs : List PairD} (hr : Rising xs) (k : Int) : (delP xs k).length = if hasP xs k then xs.length - 1 else xs.length := by
  unfold delP
  cases h : hasP xs k
  · simp
  · obtain ⟨hlt, _⟩ := posP_lt hr h
    simp; omega
theorem Alike.app {cap : Int} {xs L : List PairD} (A : Alike cap xs L) {k v : Int} (h : hasP L k = false) (hl : ¬ cap ≤ (L.length : Int)) : Alike cap (putP xs k v) (L ++ [(k, v)]) := by
  have hx : hasP xs k = false := by rw [← A.has]; exact h
  have hne : ∀ p ∈ L, p.1 ≠ k := fun p hp e => by
    have : hasP L k = true := mem_has.2 ⟨p.2, by rw [← e]; exact hp⟩
    rw [h] at this; simp at this
  refine ⟨put_good A.good (by unfold full; rw [hx]; have := A.len; simp; omega), by rw [put_new_len _ _ _ hx, A.len]; simp, fun p => ?_, ?_⟩
  · rw [mem_put A.good.rising, List.mem_append, List.mem_singleton, A.mem]
    constructor
    · rintro (h1 | ⟨_, h1⟩)
      · exact .inr h1
      · exact .inl h1
    · rintro (h1 | h1)
      · exact .inr ⟨hne p h1, h1⟩
      · exact .inl h1
  · unfold Keys
    rw [List.pairwise_append]
    exact ⟨A.keys, by simp, fun q hq r hr => by
      obtain rfl : r = (k, v) := by simpa using hr
      exact hne q hq⟩
theorem Alike.set {cap : Int} {xs L : List PairD} (A : Alike cap xs L) {k v : Int} {p : Nat} (hp : p < L.length) (hk : L[p].1 = k) : Alike cap (putP xs k v) (L.set p (k, v)) := by
  have hL : hasP L k = true := mem_has.2 ⟨L[p].2, by rw [← hk]; exact List.getElem_mem _⟩
  have hx : hasP xs k = true := by rw [← A.has]; exact hL
  refine ⟨put_good A.good (by unfold full; rw [hx]; rfl), by rw [put_old_len _ _ _ hx, A.len]; simp, fun q => ?_, keys_set A.keys hp hk⟩
  rw [mem_put A.good.rising, mem_set A.keys hp hk, A.mem]
theorem Alike.del {cap : Int} {xs L : List PairD} (A : Alike cap xs L) {k : Int} {p : Nat} (hp : p < L.length) (hk : L[p].1 = k) : Alike cap (delP xs k) (L.eraseIdx p) := by
  have hL : hasP L k = true := mem_has.2 ⟨L[p].2, by rw [← hk]; exact List.getElem_mem _⟩
  have hx : hasP xs k = true := by rw [← A.has]; exact hL
  refine ⟨del_good A.good, by rw [del_len A.good.rising, hx, if_pos rfl, A.len, List.length_eraseIdx_of_lt hp], fun q => ?_, keys_erase A.keys p⟩
  rw [mem_del A.good.rising, mem_erase A.keys hp hk, A.mem]
theorem refDo_any (x : Nat) (cap : Int) (xs L : List PairD) (op key val : Int) (A : Alike cap xs L) :
    ∃ L2, Alike cap (doP cap xs op key val).2 L2 ∧ ∀ (S : Nat → Prop) (w : World), RefS x cap L S w → Calls Try.prog 36 #[.pointer (some ⟨x, 0, none⟩), .int .i64 op, .int .u64 key, .int .u64 val] w (RefPost x S cap w (doP cap xs op key val).1 L2) := by
  have hL : L.length ≤ 16 := by have := A.len; have := A.good.len; have := A.good.hi; omega
  have hlen : (xs.length : Int) = (L.length : Int) := by rw [A.len]
  unfold doP
  cases hh : hasP L key
  · have hx : hasP xs key = false := by rw [← A.has]; exact hh
    have ho := A.old_no hh
    by_cases h0 : op = 0
    · subst h0; rw [if_pos rfl, hx, ho]
      exact ⟨L, A, fun S w H => refGet_no x cap L S key val w H hL hh⟩
    by_cases h1 : op = 1
    · subst h1; rw [if_neg (by decide), if_pos rfl, hx]
      exact ⟨L, A, fun S w H => refHas_no x cap L S key val w H hL hh⟩
    by_cases h3 : op = 3
    · subst h3; rw [if_neg (by decide), if_neg (by decide), if_pos rfl, hx, ho]
      have hd : delP xs key = xs := by unfold delP; rw [hx]; rfl
      rw [hd]
      exact ⟨L, A, fun S w H => refDel_no x cap L S key val w H hL hh⟩
    by_cases h2 : op = 2
    · subst h2; rw [if_neg (by decide), if_neg (by decide), if_neg (by decide), if_pos rfl]
      by_cases hf : cap ≤ (L.length : Int)
      · rw [if_pos (by unfold full; rw [hx]; have := A.good.len; simp; omega)]
        exact ⟨L, A, fun S w H => refFullPut x cap L S key val w H hL hh hf⟩
      · rw [if_neg (by unfold full; rw [hx]; simp; omega), hx, ho]
        exact ⟨_, A.app hh hf, fun S w H => refPut_no x cap L S key val w H hL hh hf⟩
    by_cases h4 : op = 4
    · subst h4; rw [if_neg (by decide), if_neg (by decide), if_neg (by decide), if_neg (by decide), if_pos rfl]
      by_cases hf : cap ≤ (L.length : Int)
      · rw [if_pos (by unfold full; rw [hx]; have := A.good.len; simp; omega)]
        exact ⟨L, A, fun S w H => refFullAdd x cap L S key val w H hL hh hf⟩
      · rw [if_neg (by unfold full; rw [hx]; simp; omega), hx, ho, show add64 0 val = IntKind.u64.wrap val by unfold add64; rw [Int.zero_add]]
        exact ⟨_, A.app hh hf, fun S w H => refAdd_no x cap L S key val w H hL hh hf⟩
    rw [if_neg h0, if_neg h1, if_neg h3, if_neg h2, if_neg h4]
    exact ⟨L, A, fun S w H => refBad_no x cap L S op key val w H hL hh h0 h1 h2 h3 h4⟩
  · have hx : hasP xs key = true := by rw [← A.has]; exact hh
    obtain ⟨p, hp, hpl, hk⟩ := place_yes hh
    have ho := A.old hp hk
    have hf : full cap xs key = false := by unfold full; rw [hx]; rfl
    by_cases h0 : op = 0
    · subst h0; rw [if_pos rfl, hx, ← ho]
      exact ⟨L, A, fun S w H => refGet_yes x cap L S key val w H hL p hp hpl⟩
    by_cases h1 : op = 1
    · subst h1; rw [if_neg (by decide), if_pos rfl, hx]
      exact ⟨L, A, fun S w H => refHas_yes x cap L S key val w H hL p hp hpl⟩
    by_cases h3 : op = 3
    · subst h3; rw [if_neg (by decide), if_neg (by decide), if_pos rfl, hx, ← ho]
      exact ⟨_, A.del hp hk, fun S w H => refDel_yes x cap L S key val w H hL p hp hpl⟩
    by_cases h2 : op = 2
    · subst h2; rw [if_neg (by decide), if_neg (by decide), if_neg (by decide), if_pos rfl, hf, if_neg (by decide), hx, ← ho]
      exact ⟨_, A.set hp hk, fun S w H => refPut_yes x cap L S key val w H hL p hp hpl hk⟩
    by_cases h4 : op = 4
    · subst h4; rw [if_neg (by decide), if_neg (by decide), if_neg (by decide), if_neg (by decide), if_pos rfl, hf, if_neg (by decide), hx, ← ho]
      exact ⟨_, A.set hp hk, fun S w H => refAdd_yes x cap L S key val w H hL p hp hpl hk⟩
    rw [if_neg h0, if_neg h1, if_neg h3, if_neg h2, if_neg h4]
    exact ⟨L, A, fun S w H => refBad_yes x cap L S op key val w H hL p hp hpl h0 h1 h2 h3 h4⟩
/-- the document's Do beside something else -/
theorem refDoL {P X : (Nat → Prop) → World → Prop} {w0 w : World} {x : Nat} {cap : Int} {L L2 : List PairD} {r : ResD} {op key val : Int} (hP : Framed P) (hX : Framed X) (h : LSt P (RefS x cap L) X w0 w)
    (H : ∀ (S : Nat → Prop) (w : World), RefS x cap L S w → Calls Try.prog 36 #[.pointer (some ⟨x, 0, none⟩), .int .i64 op, .int .u64 key, .int .u64 val] w (RefPost x S cap w r L2)) :
    Calls Try.prog 36 #[.pointer (some ⟨x, 0, none⟩), .int .i64 op, .int .u64 key, .int .u64 val] w fun e w' => e = .returned (.agg #[.int .i64 r.1, .bool r.2.1, .int .u64 r.2.2.1, .bool r.2.2.2.1, .int .u64 r.2.2.2.2.1, .int .u64 r.2.2.2.2.2]) ∧ LSt P (RefS x cap L2) X w0 w' :=
  (LSt.call (E := fun e => e = .returned (ResD.val r)) RefS.framed hP hX (h.swap hP RefS.framed hX) fun S hS => H S w hS).mono fun e w' ⟨he, hl⟩ => ⟨he, hl.swap RefS.framed hP hX⟩
theorem refNewL {P X : (Nat → Prop) → World → Prop} {w0 w : World} (hP : Framed P) (hX : Framed X) (h : LSt P NoX X w0 w) (cap : Int) (h1 : 1 ≤ cap) (h2 : cap ≤ 16) :
    Calls Try.prog 33 #[.int .i64 cap] w fun e w' => ∃ b, e = .returned (.tuple #[.pointer (some ⟨b, 0, none⟩), .int .i64 0]) ∧ LSt P (RefS b cap []) X w0 w' :=
  (refNew_ok cap w h1 h2).mono fun e w' ⟨b, he, hb, ho⟩ => ⟨b, he, ((h.swap hP NoX.framed hX).newP hP hX RefS.framed hb ho).swap RefS.framed hP hX⟩

/-- the best among the first i: none, or the least key that is at least t -/
def Best (L : List PairD) (t : Int) (i : Nat) (b : Int) : Prop :=
  (b = -1 ∧ ∀ a (h : a < L.length), a < i → ¬ t ≤ L[a].1) ∨ ∃ m : Nat, ∃ hm : m < L.length, b = m ∧ m < i ∧ t ≤ L[m].1 ∧ ∀ a (h : a < L.length), a < i → t ≤ L[a].1 → L[m].1 ≤ L[a].1
theorem Best.zero (L : List PairD) (t : Int) : Best L t 0 (-1) := .inl ⟨rfl, fun _ _ h => by omega⟩
theorem Best.low {L : List PairD} {t : Int} {i : Nat} {b : Int} (B : Best L t i b) (hi : i < L.length) (h : ¬ t ≤ L[i].1) : Best L t (i + 1) b := by
  rcases B with ⟨rfl, hB⟩ | ⟨m, hm, rfl, hmi, ht, hB⟩
  · refine .inl ⟨rfl, fun a ha hai => ?_⟩
    by_cases e : a = i
    · subst e; exact h
    · exact hB a ha (by omega)
  · refine .inr ⟨m, hm, rfl, by omega, ht, fun a ha hai hta => ?_⟩
    by_cases e : a = i
    · subst e; exact absurd hta h
    · exact hB a ha (by omega) hta
theorem Best.keep {L : List PairD} {t : Int} {i m : Nat} (hm : m < L.length) (B : Best L t i m) (hi : i < L.length) (h : ¬ L[i].1 < L[m].1) : Best L t (i + 1) m := by
  rcases B with ⟨e, _⟩ | ⟨m', hm', e, hmi, ht, hB⟩
  · omega
  · obtain rfl : m = m' := by omega
    refine .inr ⟨m, hm, rfl, by omega, ht, fun a ha hai hta => ?_⟩
    by_cases e : a = i
    · subst e; omega
    · exact hB a ha (by omega) hta
theorem Best.take {L : List PairD} {t : Int} {i : Nat} {b : Int} (B : Best L t i b) (hi : i < L.length) (ht : t ≤ L[i].1) (h : ∀ m : Nat, ∀ hm : m < L.length, b = m → L[i].1 < L[m].1) : Best L t (i + 1) i := by
  refine .inr ⟨i, hi, rfl, by omega, ht, fun a ha hai hta => ?_⟩
  by_cases e : a = i
  · subst e; exact Int.le_refl _
  · rcases B with ⟨_, hB⟩ | ⟨m, hm, e2, hmi, _, hB⟩
    · exact absurd hta (hB a ha (by omega))
    · have h1 := h m hm e2
      have h2 := hB a ha (by omega) hta
      omega
theorem Best.done {cap : Int} {xs L : List PairD} (A : Alike cap xs L) {k : Nat} (hk : k < xs.length) {b : Int} (B : Best L xs[k].1 L.length b) : ∃ m : Nat, ∃ hm : m < L.length, b = m ∧ L[m] = xs[k] := by
  have hin : xs[k] ∈ L := (A.mem _).1 (List.getElem_mem _)
  obtain ⟨a, ha, he⟩ := List.getElem_of_mem hin
  rcases B with ⟨_, hB⟩ | ⟨m, hm, rfl, _, ht, hB⟩
  · exact absurd (by rw [he]; exact Int.le_refl _) (hB a ha ha)
  · refine ⟨m, hm, rfl, ?_⟩
    have h1 := hB a ha ha (by rw [he]; exact Int.le_refl _)
    rw [he] at h1
    have hkey : L[m].1 = L[a].1 := by rw [he]; omega
    have hma : m = a := by
      have hK := A.keys
      unfold Keys at hK
      rw [List.pairwise_iff_getElem] at hK
      rcases Nat.lt_trichotomy m a with h | h | h
      · exact absurd hkey (hK m a hm ha h)
      · exact h
      · exact absurd hkey.symm (hK a m ha hm h)
    subst hma
    exact he
/-- above the last one taken is the same as at least the next -/
theorem above {cap : Int} {xs L : List PairD} (A : Alike cap xs L) {k : Nat} (hk : k + 1 < xs.length) {a : Nat} (ha : a < L.length) : xs[k].1 < L[a].1 ↔ xs[k + 1].1 ≤ L[a].1 := by
  have hr := A.good.rising
  have hin : L[a] ∈ xs := (A.mem _).2 (List.getElem_mem _)
  obtain ⟨j, hj, he⟩ := List.getElem_of_mem hin
  rw [← he]
  constructor
  · intro h
    by_cases e : j ≤ k
    · by_cases e2 : j = k
      · subst e2; omega
      · have := hr j k hj (by omega) (by omega); omega
    · by_cases e2 : j = k + 1
      · subst e2; exact Int.le_refl _
      · have := hr (k + 1) j hk hj (by omega); omega
  · intro h
    have := hr k (k + 1) (by omega) hk (by omega); omega
theorem first {cap : Int} {xs L : List PairD} (A : Alike cap xs L) (hk : 0 < xs.length) {a : Nat} (ha : a < L.length) : xs[0].1 ≤ L[a].1 := by
  have hin : L[a] ∈ xs := (A.mem _).2 (List.getElem_mem _)
  obtain ⟨j, hj, he⟩ := List.getElem_of_mem hin
  rw [← he]
  by_cases e : j = 0
  · subst e; exact Int.le_refl _
  · have := A.good.rising 0 j hk hj (by omega); omega

def BestV (L : List PairD) (t : Int) (i : Nat) (v : Value) : Prop := ∃ b, v = .int .i64 b ∧ Best L t i b
set_option maxRecDepth 100000 in
set_option maxHeartbeats 4000000 in
theorem refPairs_any (x : Nat) (cap : Int) (xs L : List PairD) (S : Nat → Prop) (w : World) (A : Alike cap xs L) (H : RefS x cap L S w) :
    Calls Try.prog 30 #[.pointer (some ⟨x, 0, none⟩)] w fun e w' => ∃ v', e = .returned v' ∧ OwS ePair 50 (fun k => w.heap.size ≤ k) w' v' xs ∧ Only (fun _ => False) w w' := by
  have HA := Lib.hid A
  have hl16 : L.length ≤ 16 := by have := A.len; have := A.good.len; have := A.good.hi; omega
  have hxl : xs.length = L.length := A.len
  obtain ⟨v, hg, hown, hS, hvS⟩ := H
  obtain ⟨_, ao, cap2, rfl, _, _, _⟩ := id hown.rd
  have HG := Lib.hid hg
  have HRD := Lib.hid hown.rd
  clear hg hown hS hvS A
  go_enter Try.func30, Try.ntmps30
  go_wp2_with fail
  go_loopw [3] (fun t3 wr => ∃ (k c : Nat) (lo : Option Addr), k ≤ L.length ∧ t3 = .slice lo k c ∧ Hid (OwS ePair 50 (fun k => w.heap.size ≤ k) wr (.slice lo k c) (xs.take k)) ∧ Hid (Only (fun _ => False) w wr)) (fun t3 _ => L.length - lenOfV t3)
  case atStart => exact ⟨0, 0, none, Nat.zero_le _, rfl, Lib.hid (OwS.nil _ _), Lib.hid (Only.refl _ _)⟩
  case round =>
    obtain ⟨k, oc, lo, hk, rfl, HLO, HOR⟩ := hrel
    have hgr := HOR.out.heap HG.out (fun h => h)
    have c1 := cells_of_heap hgr 1 _ rfl
    clear hgr
    by_cases hlt : k < L.length
    · have hkx : k < xs.length := by omega
      obtain ⟨t, htk⟩ : ∃ t, t = xs[k].1 := ⟨_, rfl⟩
      have HT := Lib.hid htk
      clear htk
      go_wp2_with fail
      go_loopw [4, 5] (fun t4 t5 wq => ∃ (i : Nat), i ≤ L.length ∧ t5 = .int .i64 i ∧ Hid (BestV L t i t4) ∧ wq = wr) (fun _ t5 _ => L.length - (intOf t5).toNat)
      case atStart => exact ⟨0, Nat.zero_le _, rfl, Lib.hid ⟨-1, rfl, Best.zero L t⟩, rfl⟩
      case round =>
        obtain ⟨i, hi, rfl, HBV, rfl⟩ := hrel
        obtain ⟨b, rfl, hB⟩ := HBV.out
        have HB := Lib.hid hB
        clear hB HBV
        by_cases hil : i < L.length
        · obtain ⟨_, ao', cap', hao, _, _, hx⟩ := HRD.out.only HOR.out
          obtain ⟨rfl, _, rfl⟩ : ao = ao' ∧ L.length = L.length ∧ cap2 = cap' := by simpa using hao
          obtain ⟨sb, off, rfl, hc⟩ := hx (by omega)
          have HC := Lib.hid hc
          have d0 := (pair_cells hc i hil).1
          have hi0 : (0 : Int) ≤ (i : Int) := by omega
          have hi1 : (i : Int) < (L.length : Int) := by omega
          have HL0 := Lib.hid (show (0 : Int) ≤ 0 from Int.le_refl _)
          clear hc hx hao
          rcases Nat.eq_zero_or_pos k with rfl | hkp
          · have HFI := Lib.hid (show t ≤ L[i].1 by rw [HT.out]; exact first HA.out hkx hil)
            have hti := HFI.out
            rcases (show b = -1 ∨ ∃ m : Nat, ∃ hm : m < L.length, b = m from HB.out.elim (fun h => .inl h.1) (fun ⟨m, hm, e, _⟩ => .inr ⟨m, hm, e⟩)) with rfl | ⟨m, hm, rfl⟩
            · have HN := Lib.hid (HB.out.take hil hti (fun m hm e => by omega))
              clear hti
              go_wp2_with fail
              go_roundw
              case rel => first | exact ⟨i + 1, by omega, by go_num, Lib.hid ⟨_, rfl, HN.out⟩⟩ | exact ⟨i + 1, by omega, by go_num, Lib.hid ⟨_, rfl, HN.out⟩, by first | rfl | trivial⟩
              case measure => simp [intOf]; omega
            · have e0 := (pair_cells HC.out m hm).1
              have hm0 : (0 : Int) ≤ (m : Int) := by omega
              have hm1 : (m : Int) < (L.length : Int) := by omega
              by_cases hlm : L[i].1 < L[m].1
              · have HN := Lib.hid (HB.out.take hil hti (fun m' hm' e => by
                  obtain rfl : m = m' := by omega
                  exact hlm))
                clear hti
                go_wp2_with fail
                go_roundw
                case rel => first | exact ⟨i + 1, by omega, by go_num, Lib.hid ⟨_, rfl, HN.out⟩⟩ | exact ⟨i + 1, by omega, by go_num, Lib.hid ⟨_, rfl, HN.out⟩, by first | rfl | trivial⟩
                case measure => simp [intOf]; omega
              · have HN := Lib.hid (HB.out.keep hm hil hlm)
                clear hti
                go_wp2_with fail
                go_roundw
                case rel => first | exact ⟨i + 1, by omega, by go_num, Lib.hid ⟨_, rfl, HN.out⟩⟩ | exact ⟨i + 1, by omega, by go_num, Lib.hid ⟨_, rfl, HN.out⟩, by first | rfl | trivial⟩
                case measure => simp [intOf]; omega
          · obtain ⟨q, rfl⟩ : ∃ q, k = q + 1 := ⟨k - 1, by omega⟩
            have hqx : q < xs.length := by omega
            have HQ := Lib.hid (show ∃ (ob oo : Nat), lo = some ⟨ob, oo, none⟩ ∧ wr.cell? ⟨ob, oo + q * 2, none⟩ = some (.int .u64 xs[q].1) by
              obtain ⟨_, lo', oc', hlo, _, _, hxo⟩ := HLO.out.rd
              have hlq : q < (xs.take (q + 1)).length := by simp; omega
              obtain ⟨ob, oo, hob, hco⟩ := hxo (by omega)
              refine ⟨ob, oo, ?_, ?_⟩
              · rw [← hob]
                simp at hlo
                exact hlo.1
              · have := (pair_cells hco q hlq).1
                rwa [List.getElem_take] at this)
            obtain ⟨ob, oo, rfl, g0⟩ := HQ.out
            have HAB := Lib.hid (show xs[q].1 < L[i].1 ↔ t ≤ L[i].1 by rw [HT.out]; exact above HA.out hkx hil)
            have hq0 : (0 : Int) ≤ (q : Int) := by omega
            have hq1 : (q : Int) < (q : Int) + 1 := by omega
            have hw2 : IntKind.i64.wrap (q : Int) = (q : Int) := by rw [IntKind.wrap_i64]; omega
            clear HQ
            by_cases hab : xs[q].1 < L[i].1
            · skip
              have hti := HAB.out.1 hab
              rcases (show b = -1 ∨ ∃ m : Nat, ∃ hm : m < L.length, b = m from HB.out.elim (fun h => .inl h.1) (fun ⟨m, hm, e, _⟩ => .inr ⟨m, hm, e⟩)) with rfl | ⟨m, hm, rfl⟩
              · have HN := Lib.hid (HB.out.take hil hti (fun m hm e => by omega))
                clear hti
                go_wp2_with fail
                go_roundw
                case rel => first | exact ⟨i + 1, by omega, by go_num, Lib.hid ⟨_, rfl, HN.out⟩⟩ | exact ⟨i + 1, by omega, by go_num, Lib.hid ⟨_, rfl, HN.out⟩, by first | rfl | trivial⟩
                case measure => simp [intOf]; omega
              · have e0 := (pair_cells HC.out m hm).1
                have hm0 : (0 : Int) ≤ (m : Int) := by omega
                have hm1 : (m : Int) < (L.length : Int) := by omega
                by_cases hlm : L[i].1 < L[m].1
                · have HN := Lib.hid (HB.out.take hil hti (fun m' hm' e => by
                    obtain rfl : m = m' := by omega
                    exact hlm))
                  clear hti
                  go_wp2_with fail
                  go_roundw
                  case rel => first | exact ⟨i + 1, by omega, by go_num, Lib.hid ⟨_, rfl, HN.out⟩⟩ | exact ⟨i + 1, by omega, by go_num, Lib.hid ⟨_, rfl, HN.out⟩, by first | rfl | trivial⟩
                  case measure => simp [intOf]; omega
                · have HN := Lib.hid (HB.out.keep hm hil hlm)
                  clear hti
                  go_wp2_with fail
                  go_roundw
                  case rel => first | exact ⟨i + 1, by omega, by go_num, Lib.hid ⟨_, rfl, HN.out⟩⟩ | exact ⟨i + 1, by omega, by go_num, Lib.hid ⟨_, rfl, HN.out⟩, by first | rfl | trivial⟩
                  case measure => simp [intOf]; omega
            · have HN := Lib.hid (HB.out.low hil (fun h => hab (HAB.out.2 h)))
              have hle : L[i].1 ≤ xs[q].1 := by omega
              go_wp2_with fail
              go_roundw
              case rel => first | exact ⟨i + 1, by omega, by go_num, Lib.hid ⟨_, rfl, HN.out⟩⟩ | exact ⟨i + 1, by omega, by go_num, Lib.hid ⟨_, rfl, HN.out⟩, by first | rfl | trivial⟩
              case measure => simp [intOf]; omega
        · obtain rfl : i = L.length := by omega
          obtain ⟨m, hm, rfl, hme⟩ := Best.done HA.out hkx (by rw [← HT.out]; exact HB.out)
          obtain ⟨_, ao', cap', hao, _, _, hx⟩ := HRD.out.only HOR.out
          obtain ⟨rfl, _, rfl⟩ : ao = ao' ∧ L.length = L.length ∧ cap2 = cap' := by simpa using hao
          obtain ⟨sb, off, rfl, hc⟩ := hx (by omega)
          obtain ⟨d0, d1⟩ := pair_cells hc m hm
          obtain ⟨p0, p1, hpe⟩ : ∃ p0 p1, xs[k] = ((p0, p1) : PairD) := ⟨_, _, rfl⟩
          rw [hme, hpe] at d0 d1
          have HE := Lib.hid (show xs.take (k + 1) = xs.take k ++ [(p0, p1)] by rw [← hpe]; exact List.take_succ_eq_append_getElem hkx)
          have HTL := Lib.hid (show (xs.take k).length = k by simp; omega)
          have hm0 : (0 : Int) ≤ (m : Int) := by omega
          have hm1 : (m : Int) < (L.length : Int) := by omega
          have HOA := Lib.hid (OwS.framed.alloc HLO.out (.cells #[.int .u64 p0, .int .u64 p1] 50))
          have HRL := Lib.hid (Rd.lit (E := ePair) wr #[.int .u64 p0, .int .u64 p1] 50 (0, 0) 1 1 [(p0, p1)] rfl rfl (by simp) (by simp [maxLen]))
          clear hc hx hao hpe hme HB
          go_wp2_with (at_builtin; refine wl_appendS (E := ePair) rfl _ (.tmp 69) _ rfl 50 16 ePair_slice (fun k => w.heap.size ≤ k) _ (xs.take k) rfl HOA.out _ [(p0, p1)] rfl HRL.out (by have := HTL.out; simp only [List.length_cons, List.length_nil]; omega) (by have := HTL.out; unfold maxLen; simp only [List.length_cons, List.length_nil]; omega) ?_)
          intro v5 w5 h5 hO5
          rw [← HE.out] at h5
          obtain ⟨_, ao5, c5, he5, _⟩ := id h5.1
          obtain rfl : v5 = .slice ao5 (k + 1) c5 := by rw [he5]; simp; omega
          have HO5 := Lib.hid ((HOR.out.tr (Only.alloc _ _ _)).trans hO5 fun k hk h => by omega)
          have hsz := HOR.out.size
          have H5 := Lib.hid (OwS.framed.mono _ (fun k => w.heap.size ≤ k) _ h5 fun k _ h => by
            rcases h with h | h
            · exact h
            · first | omega | (have := size_le_alloc wr (.cells #[.int .u64 p0, .int .u64 p1] 50); omega))
          clear h5 hO5 hsz d0 d1 c1 he5
          go_wp2_with fail
          go_roundw
          case rel => exact ⟨k + 1, c5, ao5, by omega, by go_num, H5, HO5⟩
          case measure => simp [lenOfV]; omega
    · have hE : xs.take k = xs := by rw [List.take_of_length_le (by omega)]
      have HO := HLO.out
      rw [hE] at HO
      have HF := Lib.hid HO
      clear hE HO
      go_wp2_with fail
      go_ret
      exact ⟨_, rfl, HF.out, HOR.out⟩
theorem refPairsL {P X : (Nat → Prop) → World → Prop} {w0 w : World} {x : Nat} {cap : Int} {xs L : List PairD} (hP : Framed P) (hX : Framed X) (h : LSt P (RefS x cap L) X w0 w) (A : Alike cap xs L) :
    Calls Try.prog 30 #[.pointer (some ⟨x, 0, none⟩)] w fun e w' => ∃ v', e = .returned v' ∧ LSt P (RefS x cap L) (fun S w => X S w ∧ OwS ePair 50 S w v' xs) w0 w' := by
  obtain ⟨S, hS⟩ := h.second
  exact (refPairs_any x cap xs L S w A hS).mono fun e w' ⟨v', he, hv, ho⟩ => ⟨v', he, h.newX hP RefS.framed hX OwS.framed hv ho⟩
end Go.Proofs.Ytdlkblklfoagbaa
