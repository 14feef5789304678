/- book: Do, a key is taken out. -/
import Derived.Test.YtodacnpbhlkoiaaBookDo2
namespace Go.Proofs.Ytodacnpbhlkoiaa
open Go.RowKit
set_option linter.unusedVariables false
set_option linter.unusedSimpArgs false

theorem OwS.shape {α : Type} {E : Enc α} {ty : Nat} {S : Nat → Prop} {w : World} {v : Value} {xs : List α} (h : OwS E ty S w v xs) : ∃ a n c, v = .slice a n c := by
  obtain ⟨⟨_, ao, cap, rfl, _⟩, _⟩ := h; exact ⟨_, _, _, rfl⟩
theorem do_fin {b : Nat} {cap : Int} {S : Nat → Prop} {w w2 : World} {u v' : Value} {ys : List PairD} {m : Nat} (hb2 : w2.heap[b]? = some (.cells #[.int .i64 cap, u] 69 (0, 0))) (hSb : S b) (hbl : b < w.heap.size)
    (how : OwS ePair 46 (fun k => (S k ∧ k < w.heap.size) ∨ m ≤ k) w2 v' ys) (hm : w.heap.size < m) (ho : Only (fun k => (S k ∧ k < w.heap.size) ∨ w.heap.size ≤ k) w w2) (cs : Array Value) :
    BookS b cap ys (fun k => S k ∨ w.heap.size ≤ k) ((w2.setCell ⟨b, 1, none⟩ v').setRow w.heap.size cs) ∧ Only S w ((w2.setCell ⟨b, 1, none⟩ v').setRow w.heap.size cs) := by
  obtain ⟨B2, o2⟩ := Obj1.setSlice' (E := ePair) (ety := 46) (cells := fun v => #[.int .i64 cap, v]) (S := fun k => (S k ∧ k < w.heap.size) ∨ m ≤ k) hb2 (.inl ⟨hSb, hbl⟩) (by decide) 1 v' how (fun _ _ => rfl)
  have o3 := only_setRow (w2.setCell ⟨b, 1, none⟩ v') w.heap.size cs
  refine ⟨BookS.framed.mono _ _ _ (BookS.framed.only _ _ _ _ B2 o3 fun k _ h e => by omega) fun k _ h => ?_, ?_⟩
  · rcases h with h | h
    · exact .inl h.1
    · exact .inr (by omega)
  · refine ((ho.trans o2 (fun j hj e => by subst e; exact .inl ⟨hSb, hbl⟩)).trans o3 (fun j hj e => .inr (by omega))).mono fun k hk h => ?_
    rcases h with h | h
    · exact h.1
    · omega

set_option maxRecDepth 100000 in
set_option maxHeartbeats 2000000 in
theorem do_del_yes (b : Nat) (cap : Int) (xs : List PairD) (S : Nat → Prop) (key val : Int) (w : World) (H : BookS b cap xs S w) (G : Good cap xs) (hf : hasP xs key = true) :
    Calls Try.prog 16 #[.pointer (some ⟨b, 0, none⟩), .int .i64 3, .int .u64 key, .int .u64 val] w (DoPost b S cap w (resF true (oldP xs key), xs.take (posP xs key) ++ xs.drop (posP xs key + 1))) := by
  obtain ⟨g, off, c, old, A⟩ := at_of H G.rising hf
  have HB := Lib.hid (BookS.framed.alloc H (.cells #[.int .i64 0, .bool false, .int .u64 0, .bool false, .int .u64 0, .int .u64 0] 35))
  have HFI := Lib.hid (find_any b cap xs S key _ HB.out G.rising (by have := G.len; have := G.hi; omega))
  rw [hf] at HFI
  rw [A.oldv]
  have HA := Lib.hid A
  have hlen : xs.length ≤ 1000 := by have := G.len; have := G.hi; omega
  clear H G hf A
  go_enter Try.func16, Try.ntmps16
  go_wp2_with fail
  refine HFI.out.mono ?_
  rintro e w1 ⟨rfl, ho⟩
  have HR8 := Lib.hid (ho.heap (heap_alloc_new w _) (fun h => h))
  have HO := Lib.hid ((Only.alloc (fun _ => False) w _).tr ho)
  have A1 := HA.out.on HO.out
  have c1 := cells_of_heap A1.hb 1 (.slice (some ⟨g, off, none⟩) xs.length c) rfl
  have c2 := A1.val
  have hp := A1.lt
  have hlb := heap_lt A1.hb
  have hlg := World.block_lt_of_cell? w1 _ A1.val
  dsimp only at hlg
  have hgb : ¬ g = b := A1.hne
  have HA1 := Lib.hid A1
  have hl8 := heap_lt HR8.out
  have hg0 := World.block_lt_of_cell? w _ HA.out.val
  dsimp only at hg0
  have hb0 := heap_lt HA.out.hb
  clear ho A1
  obtain ⟨p, hpe⟩ : ∃ p, p = posP xs key := ⟨_, rfl⟩
  rw [← hpe] at c2 hp ⊢
  have HPE := Lib.hid hpe
  clear HFI hpe
  have hi0 : (0 : Int) ≤ (p : Int) := by omega
  have hi1 : (p : Int) < (xs.length : Int) := by omega
  go_wp2_with fail
  refine (delete_any (fun k => k = g) _ xs p _ ⟨(HA1.out.on (Only.alloc _ _ _)).hw, fun k hk => by simpa [Value.ownBlock] using hk.symm⟩ hp).mono ?_
  rintro e w2 ⟨v', rfl, how2, ho2⟩
  obtain ⟨a2, n2, cp2, rfl⟩ := how2.shape
  have hb2 := ho2.heap (heap_alloc HA1.out.hb) (fun h => hgb h.symm)
  have hr11 := ho2.heap (heap_alloc_new w1 _) (fun h => by omega)
  have hr8 := ho2.heap (heap_alloc HR8.out) (fun h => by omega)
  have d1 := cells_of_heap hb2 1 (.slice (some ⟨g, off, none⟩) xs.length c) rfl
  have z1 := frozen_of_row w2 b 1 _ _ hb2
  have HFIN := Lib.hid (do_fin (S := S) (w := w) (m := w1.heap.size + 1) hb2 HA.out.hS hb0 (OwS.framed.mono _ _ _ how2 (fun k _ h => by
    rcases h with h | h
    · exact .inl ⟨by rw [h]; exact HA.out.hgS, by omega⟩
    · exact .inr (by simpa using h))) (by omega) ((HO.out.wide.tr (Only.alloc _ _ _)).trans ho2 (fun k hk e => .inl ⟨by rw [e]; exact HA.out.hgS, by omega⟩)))
  have HR11 := Lib.hid hr11
  have HR8' := Lib.hid hr8
  have HZ := Lib.hid (show w.heap.size ≠ b ∧ w1.heap.size ≠ b from ⟨by omega, by omega⟩)
  clear c1 c2 hb2 hr11 hr8 how2 ho2
  go_upto_region 21 with (fail)
  obtain ⟨W3, hW3⟩ : ∃ W3, W3 = w2.setCell ⟨b, 1, none⟩ (.slice a2 n2 cp2) := ⟨_, rfl⟩
  have hr11 : W3.heap[w1.heap.size]? = some (.cells #[.int .i64 0, .bool true, .int .u64 old, .bool false, .int .u64 0, .int .u64 0] 35 (0, 0)) := by rw [hW3]; exact heap_setCell_far HR11.out _ _ _ HZ.out.2
  have hr8 : W3.heap[w.heap.size]? = some (.cells #[.int .i64 0, .bool false, .int .u64 0, .bool false, .int .u64 0, .int .u64 0] 35 (0, 0)) := by rw [hW3]; exact heap_setCell_far HR8'.out _ _ _ HZ.out.1
  have HF2 := HFIN.out
  rw [← hW3] at HF2
  have HF3 := Lib.hid HF2
  simp only [← hW3]
  have e0 := cells_of_heap hr11 0 (.int .i64 0) rfl
  have e1 := cells_of_heap hr11 1 (.bool true) rfl
  have e2 := cells_of_heap hr11 2 (.int .u64 old) rfl
  have e3 := cells_of_heap hr11 3 (.bool false) rfl
  have e4 := cells_of_heap hr11 4 (.int .u64 0) rfl
  have e5 := cells_of_heap hr11 5 (.int .u64 0) rfl
  have HR83 := Lib.hid hr8
  clear hW3 HF2 HFIN hr11 hr8 d1 z1
  go_wp2_with (refine wpList_store_row rfl 35 (.tmp 8) (.tmp 105) rfl w.heap.size _ rfl rfl 35 _ HR83.out (by kernel_rfl) rfl (res_one _ _ _ _ _ _) ?_)
  refine bodyPost_ret (results_cell_row rfl _ _ w.heap.size _ _ _ _ rfl (setRow_heap _ _ _ _ _ _ HR83.out) Try.underlying35 rfl (by kernel_rfl)) rfl ?_
  exact ⟨rfl, by have h := HF3.out #[.int .i64 0, .bool true, .int .u64 old, .bool false, .int .u64 0, .int .u64 0]; rw [HPE.out] at h; exact h⟩
end Go.Proofs.Ytodacnpbhlkoiaa
