/- lru: the order: drop, touch, Order. -/
import Derived.Test.YtodacnpbhlkoiaaLruDel
import Derived.Test.YtodacnpbhlkoiaaSep
namespace Go.Proofs.Ytodacnpbhlkoiaa
open Go.RowKit
set_option linter.unusedVariables false
set_option linter.unusedSimpArgs false

/-- the LRU's own block, its order -/
def LruO (g b : Nat) (od : List Int) (S : Nat → Prop) (w : World) : Prop := Obj1 eU64 41 28 (fun v => #[.pointer (some ⟨b, 0, none⟩), v]) g od S w
theorem LruO.framed {g b : Nat} {od : List Int} : Framed (LruO g b od) := Obj1.framed
theorem LruO.own {g b : Nat} {od : List Int} {S : Nat → Prop} {w : World} (H : LruO g b od S w) : ∃ v, w.heap[g]? = some (.cells #[.pointer (some ⟨b, 0, none⟩), v] 41 (0, 0)) ∧ OwS eU64 28 (fun k => v.ownBlock = some k) w v od ∧ (∀ k, v.ownBlock = some k → S k ∧ k < w.heap.size) ∧ S g ∧ v.ownBlock ≠ some g := by
  obtain ⟨v, hg, hown, hS, hv⟩ := H
  exact ⟨v, hg, ⟨hown, fun _ h => h⟩, fun k hk => ⟨hv k hk, (hown.lt hk).2⟩, hS, row_ne hg hown (by decide)⟩
/-- the order is set -/
theorem LruO.set {g b : Nat} {od : List Int} {S : Nat → Prop} {w w2 : World} {u v' : Value} (hg2 : w2.heap[g]? = some (.cells #[.pointer (some ⟨b, 0, none⟩), u] 41 (0, 0))) (hS : S g) (hgl : g < w.heap.size) (hown : OwS eU64 28 (fun k => S k ∨ w.heap.size ≤ k) w2 v' od) (ho : Only S w w2) :
    Upd (LruO g b od) S w (w2.setCell ⟨g, 1, none⟩ v') := by
  obtain ⟨h1, h2⟩ := Obj1.setSlice' (E := eU64) (ety := 28) (cells := fun v => #[.pointer (some ⟨b, 0, none⟩), v]) (S := fun k => S k ∨ w.heap.size ≤ k) hg2 (.inl hS) (by decide) 1 v' hown (fun _ _ => rfl)
  exact ⟨h1, ho.trans h2 fun j _ e => by subst e; exact hS⟩

set_option maxHeartbeats 1000000 in
theorem drop_any (g b : Nat) (od : List Int) (S : Nat → Prop) (key : Int) (w : World) (H : LruO g b od S w) :
    Calls Try.prog 28 #[.pointer (some ⟨g, 0, none⟩), .int .u64 key] w fun e w' => e = .returned (.tuple #[]) ∧ Upd (LruO g b (dropK od key)) S w w' := by
  obtain ⟨v, hg, hown, hvS, hS, hne⟩ := H.own
  have hgl := heap_lt hg
  have c1 := cells_of_heap hg 1 v rfl
  have HG := Lib.hid hg
  have HV := Lib.hid hvS
  have HN := Lib.hid hne
  have HDel := Lib.hid (del_any (fun k => v.ownBlock = some k) v od key w.heap.size (w.alloc (.cells #[.int .u64 key] 28 (0, 0))) (OwS.framed.alloc hown _) (heap_alloc_new w _) (fun h => by have := (hvS _ h).2; omega))
  obtain ⟨_, _, _, rfl⟩ := hown.shape'
  clear hg hown hvS hne H
  go_enter Try.func28, Try.ntmps28
  go_wp2_with fail
  refine HDel.out.mono ?_
  rintro e w2 ⟨v', rfl, hown2, ho2⟩
  have hg2 := ho2.heap (heap_alloc HG.out) HN.out
  have d1 := cells_of_heap hg2 1 _ rfl
  have z1 := frozen_of_row w2 g 1 _ _ hg2
  have HF := Lib.hid (LruO.set (w := w) (S := S) hg2 hS hgl (OwS.framed.mono _ _ _ hown2 fun k _ hk => .inl (HV.out k hk).1) ((Only.alloc _ _ _).trans ho2 fun k _ hk => (HV.out k hk).1))
  obtain ⟨_, _, _, rfl⟩ := hown2.shape'
  clear hg2 hown2 ho2
  go_wp2_with fail
  go_end0
  exact ⟨rfl, HF.out⟩

set_option maxHeartbeats 1000000 in
theorem touch_any (g b : Nat) (od : List Int) (S : Nat → Prop) (key : Int) (w : World) (H : LruO g b od S w) (hn : od.length ≤ 1000) :
    Calls Try.prog 27 #[.pointer (some ⟨g, 0, none⟩), .int .u64 key] w fun e w' => e = .returned (.tuple #[]) ∧ Upd (LruO g b (key :: dropK od key)) S w w' := by
  have HD := Lib.hid (drop_any g b od S key w H)
  obtain ⟨_, hg0, _, _, _, _⟩ := H.own
  have hgl0 := heap_lt hg0
  clear H hg0
  go_enter Try.func27, Try.ntmps27
  go_wp2_with fail
  refine HD.out.mono ?_
  rintro e w1 ⟨rfl, hU⟩
  have HU := Lib.hid hU
  obtain ⟨v, hg, hown, hvS, hS, hne⟩ := hU.1.own
  have hgl := heap_lt hg
  have c1 := cells_of_heap hg 1 v rfl
  have HG := Lib.hid hg
  have HV := Lib.hid hvS
  have HN := Lib.hid hne
  have hdl : (dropK od key).length ≤ 1000 := Nat.le_trans (List.length_filter_le _ _) hn
  have HI := Lib.hid (uins_any (fun k => v.ownBlock = some k) v (dropK od key) key 0 (w1.alloc (.cells #[.int .u64 key] 28 (0, 0))) w1.heap.size (OwS.framed.alloc hown _) (Nat.zero_le _) hdl (heap_alloc_new w1 _) (fun h => by have := (hvS _ h).2; omega))
  obtain ⟨_, _, _, rfl⟩ := hown.shape'
  clear hg hown hvS hne hU HD
  go_wp2_with fail
  refine HI.out.mono ?_
  rintro e w2 ⟨v', rfl, hown2, ho2⟩
  have hown2' : OwS eU64 28 _ w2 v' (key :: dropK od key) := hown2
  have hg2 := ho2.heap (heap_alloc HG.out) HN.out
  have d1 := cells_of_heap hg2 1 _ rfl
  have z1 := frozen_of_row w2 g 1 _ _ hg2
  have HF := Lib.hid (LruO.set (w := w1) hg2 hS hgl (OwS.framed.mono _ _ _ hown2' fun k _ hk => by
    rcases hk with hk | hk
    · exact .inl (HV.out k hk).1
    · exact .inr (by simp at hk; omega)) ((Only.alloc _ _ _).trans ho2 fun k _ hk => (HV.out k hk).1))
  obtain ⟨_, _, _, rfl⟩ := hown2.shape'
  clear hg2 hown2 hown2' ho2
  go_wp2_with fail
  go_end0
  exact ⟨rfl, HU.out.step LruO.framed HF.out⟩
set_option maxHeartbeats 1000000 in
theorem uclone_any (xs : List Int) (v : Value) (w : World) (hr : Rd eU64 w v xs) (hn : xs.length ≤ 1000) :
    Calls Try.prog 25 #[v] w fun e w' => ∃ v', e = .returned v' ∧ OwS eU64 28 (fun k => w.heap.size ≤ k) w' v' xs ∧ Only (fun _ => False) w w' := by
  have HR := Lib.hid (hr.alloc (.cells #[] 28))
  obtain ⟨_, ao, cap, rfl, _, hnone, hx⟩ := hr
  have hE0 : OwS eU64 28 (fun k => w.heap.size ≤ k) (w.alloc (.cells #[] 28)) (.slice (some ⟨w.heap.size, 0, none⟩) 0 0) [] :=
    ⟨Ow.lit (E := eU64) w 0 #[] 28 0 [] (by simp [Enc.all]) rfl (by simp) (Nat.zero_le _), fun k hk => by simp [Value.ownBlock] at hk; omega⟩
  have HE := Lib.hid hE0
  clear hE0
  cases ao with
  | none =>
    have h0 : xs = [] := by
      cases xs with
      | nil => rfl
      | cons x xs => obtain ⟨b, off, h, _⟩ := hx (by simp); cases h
    subst h0
    obtain rfl : cap = 0 := hnone rfl
    clear hx hnone
    have hz : ∀ w : World, (binOp .eql 31 (.slice none 0 0) (.slice none 0 0)).run Try.prog w = .ok (.bool true) w := fun w => Lib.run_eql_slice_nil w _ _ none _ _ _ _ Try.underlying31
    go_enter Try.func25, Try.ntmps25
    go_wp2_with fail
    go_ret
    exact ⟨_, rfl, OwS.nil _ _, Only.refl _ _⟩
  | some a =>
    clear hx hnone
    have hz : ∀ w : World, (binOp .eql 31 (.slice (some a) xs.length cap) (.slice none 0 0)).run Try.prog w = .ok (.bool false) w := fun w => Lib.run_eql_slice_nil w _ _ (some a) _ _ _ _ Try.underlying31
    go_enter Try.func25, Try.ntmps25
    go_wp2_with (at_builtin; refine wl_appendS (E := eU64) rfl _ (.tmp 6) _ rfl 28 8 eU64_sl _ _ [] rfl HE.out _ xs rfl HR.out (by simp; omega) (by unfold maxLen; simp; omega) ?_)
    intro v' w5 h5 hO5
    have H5 := Lib.hid h5
    have HO5 := Lib.hid hO5
    clear h5 hO5
    go_wp2_with fail
    go_ret
    refine ⟨_, rfl, ?_, ?_⟩
    · exact OwS.framed.mono _ _ _ H5.out fun k _ h => by
        rcases h with h | h
        · exact h
        · have := size_le_alloc w (.cells #[] 28); omega
    · exact (Only.alloc (fun _ => False) w _).trans HO5.out fun k hk h => by omega
theorem order_any (g b : Nat) (od : List Int) (S : Nat → Prop) (w : World) (H : LruO g b od S w) (hn : od.length ≤ 1000) :
    Calls Try.prog 9 #[.pointer (some ⟨g, 0, none⟩)] w fun e w' => ∃ v', e = .returned v' ∧ OwS eU64 28 (fun k => w.heap.size ≤ k) w' v' od ∧ Only (fun _ => False) w w' := by
  obtain ⟨v, hg, hown, _⟩ := H.own
  have HC := Lib.hid (uclone_any od v w hown.rd hn)
  have c1 := cells_of_heap hg 1 _ rfl
  clear hg hown H
  go_enter Try.func9, Try.ntmps9
  go_wp2_with fail
  refine HC.out.mono ?_
  rintro e w1 ⟨v', rfl, ho, hO⟩
  go_wp2_with fail
  go_ret
  exact ⟨_, rfl, ho, hO⟩
end Go.Proofs.Ytodacnpbhlkoiaa
