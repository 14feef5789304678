/- book: Do. -/
import Derived.Test.YtodacnpbhlkoiaaBookPlain
import Derived.Test.YtodacnpbhlkoiaaDelete
namespace Go.Proofs.Ytodacnpbhlkoiaa
open Go.RowKit
set_option linter.unusedVariables false
set_option linter.unusedSimpArgs false

theorem Only.drew_' {F : Nat → Prop} {w w' : World} (h : Only F w w') : Only F w w'.drew := ⟨h.os, h.tape, h.output, h.size, h.block⟩
def DoPost (b : Nat) (S : Nat → Prop) (cap : Int) (w : World) (r : ResD × List PairD) (e : Ending) (w' : World) : Prop :=
  e = .returned (.agg #[.int .i64 r.1.1, .bool r.1.2.1, .int .u64 r.1.2.2.1, .bool r.1.2.2.2.1, .int .u64 r.1.2.2.2.2.1, .int .u64 r.1.2.2.2.2.2]) ∧ BookS b cap r.2 (fun k => S k ∨ w.heap.size ≤ k) w' ∧ Only S w w'

set_option maxRecDepth 100000 in
set_option maxHeartbeats 1000000 in
theorem do_bad (b : Nat) (cap : Int) (xs : List PairD) (S : Nat → Prop) (op key val : Int) (w : World) (H : BookS b cap xs S w) (hop : op < 0 ∨ 5 ≤ op) :
    Calls Try.prog 16 #[.pointer (some ⟨b, 0, none⟩), .int .i64 op, .int .u64 key, .int .u64 val] w (DoPost b S cap w (resE 2, xs)) := by
  have HB := Lib.hid (BookS.framed.mono S (fun k => S k ∨ w.heap.size ≤ k) _ (BookS.framed.alloc H (.cells #[.int .i64 2, .bool false, .int .u64 0, .bool false, .int .u64 0, .int .u64 0] 35)) (fun _ _ h => .inl h))
  clear H
  by_cases h0 : op < 0
  all_goals
    have h5 : ¬ op < 0 → 5 ≤ op := fun h => by omega
    try have h5' := h5 h0
    clear h5 hop
    go_enter Try.func16, Try.ntmps16
    go_wp2_with fail
    try simp only [Exit.inBlock, Exit.then]
    refine bodyPost_ret (results_cell_row rfl _ _ w.heap.size _ _ _ _ rfl (heap_alloc_new w _) Try.underlying35 rfl (by kernel_rfl)) rfl ?_
    exact ⟨rfl, HB.out, Only.alloc _ _ _⟩

theorem res_one (a c e f : Int) (b d : Bool) : (#[Value.int .i64 a, .bool b, .int .u64 c, .bool d, .int .u64 e, .int .u64 f].all (·.oneCell')) = true := by simp [Value.oneCell']
theorem do_ro {b : Nat} {cap : Int} {xs : List PairD} {S : Nat → Prop} {w w' : World} (H : BookS b cap xs S w) (ho : Only (fun k => w.heap.size ≤ k) w w') : BookS b cap xs (fun k => S k ∨ w.heap.size ≤ k) w' ∧ Only S w w' :=
  ⟨BookS.framed.mono S _ _ (BookS.framed.only S _ w w' H ho fun k hk _ h => by omega) (fun _ _ h => .inl h), ho.mono fun k hk h => by omega⟩
theorem only_row {F : Nat → Prop} {w w' : World} (h : Only F w w') (g : Nat) (cs : Array Value) (hg : F g ∨ w.heap.size ≤ g) : Only F w (w'.setRow g cs) :=
  h.trans (only_setRow w' g cs) fun j hj e => by
    subst e
    rcases hg with hg | hg
    · exact hg
    · omega
theorem Only.wide {F : Nat → Prop} {w w' : World} (h : Only (fun _ => False) w w') : Only F w w' := h.mono fun _ _ h => h.elim

set_option maxRecDepth 100000 in
set_option maxHeartbeats 2000000 in
theorem do_has (b : Nat) (cap : Int) (xs : List PairD) (S : Nat → Prop) (key val : Int) (w : World) (H : BookS b cap xs S w) (G : Good cap xs) :
    Calls Try.prog 16 #[.pointer (some ⟨b, 0, none⟩), .int .i64 1, .int .u64 key, .int .u64 val] w (DoPost b S cap w (resF (hasP xs key) 0, xs)) := by
  obtain ⟨v, hg, hown, hS, hvS⟩ := H
  have HFind := Lib.hid (fun W (hW : BookS b cap xs S W) => find_any b cap xs S key W hW G.rising (by have := G.len; have := G.hi; omega))
  have H0 := Lib.hid (show BookS b cap xs S w from ⟨v, hg, hown, hS, hvS⟩)
  have HB := Lib.hid (BookS.framed.alloc H0.out (.cells #[.int .i64 0, .bool false, .int .u64 0, .bool false, .int .u64 0, .int .u64 0] 35))
  have HG := Lib.hid hg
  have HW := Lib.hid hown
  clear hg hown hS hvS G
  cases hf : hasP xs key
  all_goals
    have HFI := Lib.hid (HFind.out _ HB.out)
    rw [hf] at HFI
    clear hf
    go_enter Try.func16, Try.ntmps16
    go_wp2_with fail
    refine HFI.out.mono ?_
    rintro e w1 ⟨rfl, ho⟩
    have hr8 := ho.heap (heap_alloc_new w _) (fun h => h)
    have HR8 := Lib.hid hr8
    have HO := Lib.hid ((Only.alloc (fun _ => False) w _).tr ho)
    clear hr8 ho
    go_wp2_with (refine wpList_store_row rfl 35 (.tmp 8) (.tmp 105) rfl w.heap.size _ rfl rfl 35 _ (heap_alloc HR8.out) (by kernel_rfl) rfl (res_one _ _ _ _ _ _) ?_)
    refine bodyPost_ret (results_cell_row rfl _ _ w.heap.size _ _ _ _ rfl (setRow_heap _ _ _ _ _ _ (heap_alloc HR8.out)) Try.underlying35 rfl (by kernel_rfl)) rfl ?_
    exact ⟨rfl, do_ro H0.out (only_row (HO.out.tr (Only.alloc _ _ _)).wide _ _ (.inr (Nat.le_refl _)))⟩

set_option maxRecDepth 100000 in
set_option maxHeartbeats 2000000 in
theorem do_get_no (b : Nat) (cap : Int) (xs : List PairD) (S : Nat → Prop) (key val : Int) (w : World) (H : BookS b cap xs S w) (G : Good cap xs) (hf : hasP xs key = false) :
    Calls Try.prog 16 #[.pointer (some ⟨b, 0, none⟩), .int .i64 0, .int .u64 key, .int .u64 val] w (DoPost b S cap w (resF false 0, xs)) := by
  obtain ⟨v, hg, hown, hS, hvS⟩ := H
  have HFind := Lib.hid (fun W (hW : BookS b cap xs S W) => find_any b cap xs S key W hW G.rising (by have := G.len; have := G.hi; omega))
  have H0 := Lib.hid (show BookS b cap xs S w from ⟨v, hg, hown, hS, hvS⟩)
  have HB := Lib.hid (BookS.framed.alloc H0.out (.cells #[.int .i64 0, .bool false, .int .u64 0, .bool false, .int .u64 0, .int .u64 0] 35))
  have HG := Lib.hid hg
  have HW := Lib.hid hown
  clear hg hown hS hvS G
  skip
  all_goals
    have HFI := Lib.hid (HFind.out _ HB.out)
    rw [hf] at HFI
    clear hf
    go_enter Try.func16, Try.ntmps16
    go_wp2_with fail
    refine HFI.out.mono ?_
    rintro e w1 ⟨rfl, ho⟩
    have hr8 := ho.heap (heap_alloc_new w _) (fun h => h)
    have HR8 := Lib.hid hr8
    have HO := Lib.hid ((Only.alloc (fun _ => False) w _).tr ho)
    clear hr8 ho
    go_wp2_with (refine wpList_store_row rfl 35 (.tmp 8) (.tmp 105) rfl w.heap.size _ rfl rfl 35 _ (heap_alloc HR8.out) (by kernel_rfl) rfl (res_one _ _ _ _ _ _) ?_)
    refine bodyPost_ret (results_cell_row rfl _ _ w.heap.size _ _ _ _ rfl (setRow_heap _ _ _ _ _ _ (heap_alloc HR8.out)) Try.underlying35 rfl (by kernel_rfl)) rfl ?_
    exact ⟨rfl, do_ro H0.out (only_row (HO.out.tr (Only.alloc _ _ _)).wide _ _ (.inr (Nat.le_refl _)))⟩

set_option maxRecDepth 100000 in
set_option maxHeartbeats 2000000 in
theorem do_del_no (b : Nat) (cap : Int) (xs : List PairD) (S : Nat → Prop) (key val : Int) (w : World) (H : BookS b cap xs S w) (G : Good cap xs) (hf : hasP xs key = false) :
    Calls Try.prog 16 #[.pointer (some ⟨b, 0, none⟩), .int .i64 3, .int .u64 key, .int .u64 val] w (DoPost b S cap w (resF false 0, xs)) := by
  obtain ⟨v, hg, hown, hS, hvS⟩ := H
  have HFind := Lib.hid (fun W (hW : BookS b cap xs S W) => find_any b cap xs S key W hW G.rising (by have := G.len; have := G.hi; omega))
  have H0 := Lib.hid (show BookS b cap xs S w from ⟨v, hg, hown, hS, hvS⟩)
  have HB := Lib.hid (BookS.framed.alloc H0.out (.cells #[.int .i64 0, .bool false, .int .u64 0, .bool false, .int .u64 0, .int .u64 0] 35))
  have HG := Lib.hid hg
  have HW := Lib.hid hown
  clear hg hown hS hvS G
  skip
  all_goals
    have HFI := Lib.hid (HFind.out _ HB.out)
    rw [hf] at HFI
    clear hf
    go_enter Try.func16, Try.ntmps16
    go_wp2_with fail
    refine HFI.out.mono ?_
    rintro e w1 ⟨rfl, ho⟩
    have hr8 := ho.heap (heap_alloc_new w _) (fun h => h)
    have HR8 := Lib.hid hr8
    have HO := Lib.hid ((Only.alloc (fun _ => False) w _).tr ho)
    clear hr8 ho
    go_wp2_with (refine wpList_store_row rfl 35 (.tmp 8) (.tmp 105) rfl w.heap.size _ rfl rfl 35 _ (heap_alloc HR8.out) (by kernel_rfl) rfl (res_one _ _ _ _ _ _) ?_)
    refine bodyPost_ret (results_cell_row rfl _ _ w.heap.size _ _ _ _ rfl (setRow_heap _ _ _ _ _ _ (heap_alloc HR8.out)) Try.underlying35 rfl (by kernel_rfl)) rfl ?_
    exact ⟨rfl, do_ro H0.out (only_row (HO.out.tr (Only.alloc _ _ _)).wide _ _ (.inr (Nat.le_refl _)))⟩
end Go.Proofs.Ytodacnpbhlkoiaa
