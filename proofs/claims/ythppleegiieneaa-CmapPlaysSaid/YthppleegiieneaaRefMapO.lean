/- cmap: the document's map, New where it answers a map. -/
import Derived.Test.YthppleegiieneaaRefMapN
namespace Go.Proofs.Ythppleegiieneaa
open Go.RowKit
set_option linter.unusedVariables false
set_option linter.unusedSimpArgs false

structure RMGood (kind cap : Int) (al : List RShA) (ss : List RSt) : Prop where
  len : al.length = ss.length
  n1 : 1 ≤ al.length
  n4 : al.length ≤ 4
  bd : ∀ a ∈ al, a.bd = decide (kind = 1)
  good : ∀ s ∈ ss, SGood (decide (kind = 1)) cap s.1
set_option maxRecDepth 100000 in
set_option maxHeartbeats 4000000 in
theorem refMapNew_ok (kind cap n : Int) (w : World) (h1 : 1 ≤ n) (h2 : n ≤ 4) (h : okDef kind cap = true) :
    Calls Try.prog 18 #[.agg #[.int .i64 kind, .int .i64 cap], .int .i64 n] w fun e w' => ∃ m, e = .returned (.tuple #[.pointer (some ⟨m, 0, none⟩), .int .i64 0]) ∧ (∃ al, RMGood kind cap al (List.replicate n.toNat (([], []), 0)) ∧ RMapS m cap al (List.replicate n.toNat (([], []), 0)) (fun k => w.heap.size ≤ k) w') ∧ Only (fun _ => False) w w' := by
  have HOK := Lib.hid h
  have HSG := Lib.hid (show SGood (decide (kind = 1)) cap ([], []) by obtain ⟨_, h1, h2⟩ := okDef_iff.1 h; exact sgood_nil h1 h2)
  have hn1 : ¬ n < 1 := by omega
  clear h
  go_enter Try.func18, Try.ntmps18
  go_wp2_with fail
  have HM0 := Lib.hid (show Upd (Sep (Blk w.heap.size (defO kind cap)) (RMapS (w.heap.size + 1) cap [] [])) (fun _ => False) w ((w.alloc (defO kind cap)).alloc (.cells (rmapC (.slice none 0 0)) 63 (0, 0))) from by
    have h1 := heap_alloc_new (w.alloc (defO kind cap)) (.cells (rmapC (.slice none 0 0)) 63 (0, 0))
    rw [show (w.alloc (defO kind cap)).heap.size = w.heap.size + 1 by simp] at h1
    have h2 : (w.alloc (defO kind cap)).heap[w.heap.size]? = some (defO kind cap) := heap_alloc_new _ _
    refine ⟨⟨fun k => k = w.heap.size, fun k => k = w.heap.size + 1, fun k h1 h2 => by omega, fun k h => .inr (by omega), fun k h => .inr (by omega), ⟨(Only.alloc (fun _ => False) _ _).heap h2 (fun h => h), rfl⟩, ⟨fun k => k = w.heap.size + 1, fun _ => False, fun _ _ h => h, fun _ h => h, fun _ h => h.elim, ⟨.slice none 0 0, h1, Ow.nil _ _ _, rfl, fun k hk => by simp [Value.ownBlock] at hk⟩, trivial⟩⟩, (Only.alloc _ _ _).tr (Only.alloc _ _ _)⟩)
  generalize w.heap.size + 1 = m at *
  generalize World.alloc (w.alloc _) _ = wa at *
  generalize w.heap.size = bd at *
  go_loopw [7, 8, 9] (fun t7 _ _ wr => ∃ (k : Nat) (al : List RShA), (k : Int) ≤ n ∧ t7 = .int .i64 k ∧ Hid (al.length = k ∧ ∀ a ∈ al, a.bd = decide (kind = 1)) ∧ Hid (Upd (Sep (Blk bd (defO kind cap)) (RMapS m cap al (List.replicate k (([], []), 0)))) (fun _ => False) w wr)) (fun t7 _ _ _ => n.toNat - (intOf t7).toNat)
  case atStart => exact ⟨0, [], by omega, rfl, Lib.hid ⟨rfl, fun _ h => by simp at h⟩, HM0⟩
  case round =>
    clear HM0
    obtain ⟨k, al, hk, rfl, HAL, V⟩ := hrel
    by_cases hlt : (k : Int) < n
    · obtain ⟨_, hbk⟩ := V.out.getL
      have c0 := (blk_cell hbk.1 0).trans rfl
      have c1 := (blk_cell hbk.1 1).trans rfl
      clear hbk
      go_wp2_with fail
      refine (V.out.callNew (Sep.framed Blk.framed RMapS.framed) (Yx := fun a S w => a.bd = decide (kind = 1) ∧ RShardS a cap ([], []) 0 S w) (E := fun a e => e = .returned (.tuple #[.pointer (some ⟨a.rs, 0, none⟩), .int .i64 0])) (fun _ => Framed.and (Framed.pure _) RShardS.framed) (refMake_ok kind cap _ HOK.out)).mono ?_
      rintro e w1 ⟨a, rfl, hU⟩
      have HBD := Lib.hid (show a.bd = decide (kind = 1) by obtain ⟨_, h, _⟩ := hU.getR; exact h)
      have HU := Lib.hid (show Upd (Sep (Blk bd (defO kind cap)) (Sep (Obj1 eRSh 63 32 rmapC m al) (Sep (SepL (rshL cap al (List.replicate k (([], []), 0)))) (RShardS a cap ([], []) 0)))) (fun _ => False) w w1 from hU.imp fun _ h => (h.imp (fun _ h => h) fun _ h => h.2).assoc.imp (fun _ h => h) fun _ h => h.assoc)
      clear hU V c0 c1
      obtain ⟨B, hB, hb⟩ := HU.out.1.focusR Blk.framed
      obtain ⟨A, hA, ha⟩ := hB.focus (Sep.framed (SepL.framed rshL_framed) RShardS.framed)
      have HBK : Hid (∀ w', Upd (Obj1 eRSh 63 32 rmapC m (al ++ [a])) A w1 w' → Upd (Sep (Blk bd (defO kind cap)) (RMapS m cap (al ++ [a]) (List.replicate (k + 1) (([], []), 0)))) (fun _ => False) w w') := Lib.hid fun w' hu =>
        (HU.out.step (Sep.framed Blk.framed (Sep.framed Obj1.framed (Sep.framed (SepL.framed rshL_framed) RShardS.framed))) (hb _ w' (Sep.framed Obj1.framed (Sep.framed (SepL.framed rshL_framed) RShardS.framed)) (ha _ w' Obj1.framed hu))).imp fun _ h => h.imp (fun _ h => h) fun _ h => h.imp (fun _ h => h) fun _ h => by
          have := SepL.snoc h
          rwa [rshL_snoc (s := (([], []), 0)) (by simpa using HAL.out.1), ← List.replicate_succ'] at this
      obtain ⟨v, hg, hown, hAg, hv⟩ := hA
      have c2 : w1.cell? ⟨m, 0, none⟩ = some v := blk_cell hg 0
      have hll : al.length ≤ 4 := by have := HAL.out.1; omega
      have HOW := Lib.hid (show OwS eRSh 32 (fun k => v.ownBlock = some k) (w1.alloc (.cells #[.pointer (some ⟨a.rs, 0, none⟩)] 32 (0, 0))) v al from OwS.framed.alloc ⟨hown, fun _ h => h⟩ _)
      have HRD := Lib.hid (Rd.lit (E := eRSh) w1 #[.pointer (some ⟨a.rs, 0, none⟩)] 32 (0, 0) 1 1 [a] rfl rfl (Nat.le_refl _) (by decide))
      have HGR := Lib.hid (fun (v2 : Value) (w2 : World) => obj_grow (E := eRSh) (v2 := v2) (w2 := w2) (cells := rmapC) hg hown hAg hv (by decide) 0 (fun _ _ => rfl) (Only.alloc (fun _ => False) w1 (.cells #[.pointer (some ⟨a.rs, 0, none⟩)] 32 (0, 0))) (ys := al ++ [a]))
      clear hB hb ha hown hv hAg hg
      go_wp2_with (at_builtin; refine wl_appendS (E := eRSh) rfl _ (.tmp 37) _ rfl 32 8 eRSh_slice _ _ al rfl HOW.out _ [a] rfl HRD.out (by simp only [List.length_cons, List.length_nil]; omega) (by unfold maxLen; simp only [List.length_cons, List.length_nil]; omega) ?_)
      intro v2 w2 hown2 hO2
      obtain ⟨hg2, hU2⟩ := HGR.out _ _ (OwS.framed.mono _ _ _ hown2 fun k _ h => by simpa using h) hO2
      have d2 : w2.cell? ⟨m, 0, none⟩ = some v := blk_cell hg2 0
      have f2 := frozen_of_row w2 m 0 _ _ hg2
      have HV2 := Lib.hid (HBK.out _ hU2)
      obtain ⟨a2, n2, c2, rfl⟩ := hown2.shape'
      clear hg2 hU2 hown2 hO2 HGR HOW HRD HBK HU
      go_wp2_with fail
      refine ⟨?_, ?_⟩
      · exact ⟨k + 1, al ++ [a], by omega, by simp, Lib.hid ⟨by have := HAL.out.1; simp [this], fun x hx => by
          rcases List.mem_append.1 hx with hx | hx
          · exact HAL.out.2 x hx
          · rw [List.mem_singleton.1 hx]; exact HBD.out⟩, HV2⟩
      · first | omega | (simp only [intOf]; omega)
    · have hkn : (k : Int) = n := by omega
      go_wp2_with fail
      go_ret2
      obtain rfl : k = n.toNat := by omega
      refine ⟨m, rfl, ⟨al, ⟨by simpa using HAL.out.1, by have := HAL.out.1; omega, by have := HAL.out.1; omega, HAL.out.2, fun s hs => by obtain ⟨_, rfl⟩ := List.mem_replicate.1 hs; exact HSG.out⟩, ?_⟩, V.out.2⟩
      exact RMapS.framed.mono _ _ _ (V.out.1.right RMapS.framed) fun _ _ h => h.elim False.elim id
end Go.Proofs.Ythppleegiieneaa
