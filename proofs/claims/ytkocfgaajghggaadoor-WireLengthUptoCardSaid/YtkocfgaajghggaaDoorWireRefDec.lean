/- wire: the document's Decode: its walk. (printed by wirerefdec2.py) -/
import Derived.Test.YtkocfgaajghggaaDoorWireRStep
namespace Go.Proofs.YtkocfgaajghggaaDoor
open Go.RowKit
set_option linter.unusedVariables false
set_option linter.unusedSimpArgs false

def RLoop (b : List Int) (w : World) (g2 gm gc : Nat) (t7 t8 t9 t10 t11 : Value) (wr : World) : Prop := ∃ (p fr : Nat) (s mp cd : Int) (c : InstD) (ms : List Int) (cs : List InstD) (vm vc : Value), t7 = .int .i64 (p : Int) ∧ t8 = .int .i64 s ∧ t9 = .int .i64 mp ∧ t10 = .int .i64 cd ∧ t11 = .int .i64 (fr : Int) ∧ p ≤ b.length ∧ (0 ≤ mp ∧ mp ≤ 4) ∧ (0 ≤ cd ∧ cd ≤ 64) ∧ ms.length ≤ 4 ∧ cs.length ≤ 64 ∧ (3 ≤ s ∧ s ≤ 11) ∧ Hid (CodeOk 0 cs) ∧ Hid (RSt w g2 gm gc c ms cs vm vc wr) ∧ Hid (RInv b s p mp cd fr c ms cs)
theorem wpAnyH_weak {P : Program} {ops : Array Oper} {Q : Exit → Act → World → Prop} {md : Region.Mode} {S S' : World → Prop} (h : ∀ w, S' w → S w) : ∀ (fuel : Nat) (listed : Array Bool) (a : Act) (w : World), wpAnyH P md ops Q S' fuel listed a w → wpAnyH P md ops Q S fuel listed a w
  | 0, _, _, _, h0 => h0
  | fuel + 1, _, _, _, h0 => ⟨h0.1, fun i hi => wpOp_mono (fun a' w' h' => ⟨h _ h'.1, wpAnyH_weak h fuel _ a' w' h'.2⟩) (h0.2 i hi)⟩
theorem slice_from (ao : Option Addr) (n cap p : Nat) (h : p ≤ n) (W : World) :
    (Instr.slice 28 (.slice ao n cap) (some (.int .i64 (p : Int))) none none).run Tryd.prog W = .ok (.slice (if cap = p then ao else Option.map (fun x => x.add p) ao) (n - p) (cap - p)) W := by
  have h1 : (0 : Int) ≤ (p : Int) := by omega
  have h2 : (p : Int) ≤ (n : Int) := by omega
  go_simp
set_option maxRecDepth 100000 in
set_option maxHeartbeats 16000000 in
theorem refDecode_any (b : List Int) (bv : Value) (w : World) (hb : Rd eU8 w bv b) (hby : ∀ x ∈ b, 0 ≤ x ∧ x ≤ 255) :
    Calls Tryd.prog 15 #[bv] w (DecPost b w) := by
  have HRD := Lib.hid hb
  have HBY := Lib.hid hby
  obtain ⟨hmx, ao, cap, rfl, hcap, _, hx⟩ := hb
  unfold maxLen at hmx
  clear hby hx
  go_enter Tryd.func15, Tryd.ntmps15
  go_wp2_with fail
  obtain ⟨w0, hw0⟩ : ∃ w0, w0 = ((w.alloc (.cells #[.slice none 0 0, .slice none 0 0] 25)).alloc (.cells #[.slice none 0 0, .slice none 0 0] 25)).alloc (.cells #[.int .i64 0, .int .i64 0, .int .i64 0, .int .i64 0, .int .i64 0] 44) := ⟨_, rfl⟩
  rw [← hw0]
  have G : Gd w w.heap.size (w.heap.size + 1) (w.heap.size + 1 + 1) := ⟨by omega, by omega, by omega, by omega, by omega, by omega⟩
  have HD0 := Lib.hid (show RSt w w.heap.size (w.heap.size + 1) (w.heap.size + 1 + 1) (0, 0, 0, 0, 0) [] [] (.slice none 0 0) (.slice none 0 0) w0 from {
    res := by rw [hw0]; exact heap_alloc (heap_alloc (heap_alloc_new w _))
    mod := by rw [hw0]; have h := heap_alloc (p := .cells #[.int .i64 0, .int .i64 0, .int .i64 0, .int .i64 0, .int .i64 0] 44) (heap_alloc_new (w.alloc (.cells #[.slice none 0 0, .slice none 0 0] 25)) (.cells #[.slice none 0 0, .slice none 0 0] 25)); simpa using h
    ins := by rw [hw0]; have h := heap_alloc_new ((w.alloc (.cells #[.slice none 0 0, .slice none 0 0] 25)).alloc (.cells #[.slice none 0 0, .slice none 0 0] 25)) (.cells #[.int .i64 0, .int .i64 0, .int .i64 0, .int .i64 0, .int .i64 0] 44); simpa using h
    maps := OwS.nil _ _
    code := OwS.nil _ _
    cne := by simp [Value.ownBlock]
    only := by rw [hw0]; exact ((Only.alloc _ _ _).tr (Only.alloc _ _ _)).tr (Only.alloc _ _ _) })
  clear hw0
  generalize w.heap.size + 1 + 1 = gc at *
  generalize w.heap.size + 1 = gm at *
  generalize w.heap.size = g2 at *
  have HG := Lib.hid G
  clear G
  go_loopw [3, 4, 7, 8] (fun _ _ t7 t8 wr => ∃ i : Nat, i ≤ 3 ∧ i ≤ b.length ∧ t7 = .int .i64 i ∧ t8 = .int .i64 i ∧ Hid (RSt w g2 gm gc (0, 0, 0, 0, 0) [] [] (.slice none 0 0) (.slice none 0 0) wr) ∧ Hid (decP b = headP b (3 - i) i)) (fun _ _ _ t8 _ => 3 - (intOf t8).toNat)
  case atStart => exact ⟨0, by omega, by omega, rfl, rfl, HD0, Lib.hid rfl⟩
  case round =>
    clear HD0
    obtain ⟨i, hi3, hib, rfl, rfl, HD, HP⟩ := hrel
    obtain rfl | rfl | rfl | hi4 : i = 0 ∨ i = 1 ∨ i = 2 ∨ i = 3 := by omega
    · skip
      by_cases hlt : 0 < b.length
      · obtain ⟨_, ao', cap', hao, _, _, hx⟩ := HRD.out.only HD.out.only
        obtain ⟨rfl, _, rfl⟩ : ao = ao' ∧ b.length = b.length ∧ cap = cap' := by simpa using hao
        obtain ⟨sb, off, rfl, hc⟩ := hx (by omega)
        have d1 := hc 0 _ (eInt_at .u8 b 0 hlt)
        try rw [Nat.add_zero] at d1
        have hsb : sb < wr.heap.size := World.block_lt_of_cell? wr _ d1
        have hi1 : (0 : Int) < (b.length : Int) := by omega
        have hi2 : ¬ (b.length : Int) ≤ 0 := by omega
        have hi6 : ¬ b.length ≤ 0 := by omega
        have hi3 : 0 < b.length := by omega
        have hi4 : ¬ b.length = 0 := by omega
        have hi5 : ¬ b = [] := fun h => by rw [h] at hi3; simp at hi3
        clear hc hx hao
        have HDx := Lib.hid (HD.out.fresh ((Only.refl _ wr).drew_.tr (Only.alloc _ _ (.cells #[.int .u8 84, .int .u8 80, .int .u8 1] 5))))
        by_cases hxe : b[0] = headAt 0
        · have HP2 := Lib.hid (show decP b = headP b (3 - 1) 1 by rw [HP.out]; exact head_yes hlt hxe)
          have hxv : b[0] = 84 := hxe
          clear hxe
          rw [hxv] at d1
          clear hxv
          have HDA := Lib.hid (fun o => (World.cell?_of_block (w := wr) (w' := wr.drew.alloc o) (a := ⟨sb, off, none⟩) (((Only.refl (fun _ => False) wr).drew_.tr (Only.alloc _ _ o)).block sb hsb id)).trans d1)
          go_wp2_with fail
          refine wp_region_noPanic ?_
          refine wp_region_held_drew (S := fun w' => w'.cell? ⟨sb, off, none⟩ = some (.int .u8 84)) (by kernel_rfl) ?_ (fun hHeld => ?_)
          · exact d1
          try simp only [Act.put, List.getElem_toArray, List.getElem_cons_succ, List.getElem_cons_zero, List.setIfInBounds_toArray, List.set_cons_zero, List.set_cons_succ]
          refine wpAnyH_take (i := 0) (v := ?va00) rfl (by kernel_rfl) (by kernel_rfl) (by kernel_rfl) (fun _ _ _ h => h) (Or.inl ⟨by rfl, ?hya00⟩) (by assumption) ?resta00
          case hya00 =>
            intro w hSw
            try dsimp only at hSw
            go_simp
            all_goals with_reducible rfl
          simp only [Act.put, List.getElem_toArray, List.getElem_cons_succ, List.getElem_cons_zero, List.setIfInBounds_toArray, List.set_cons_zero, List.set_cons_succ]
          refine wpAnyH_take (i := 1) (v := ?va01) rfl (by kernel_rfl) (by kernel_rfl) (by kernel_rfl) (fun _ _ _ h => h) (Or.inl ⟨by rfl, ?hya01⟩) (by assumption) ?resta01
          case hya01 =>
            intro w hSw
            try dsimp only at hSw
            go_simp
            all_goals with_reducible rfl
          simp only [Act.put, List.getElem_toArray, List.getElem_cons_succ, List.getElem_cons_zero, List.setIfInBounds_toArray, List.set_cons_zero, List.set_cons_succ]
          refine wpAnyH_take (i := 2) (v := ?va02) rfl (by kernel_rfl) (by kernel_rfl) (by kernel_rfl) (fun _ _ _ h => h) (Or.inl ⟨by rfl, ?hya02⟩) (by assumption) ?resta02
          case hya02 =>
            intro w hSw
            try dsimp only at hSw
            go_simp
            all_goals with_reducible rfl
          simp only [Act.put, List.getElem_toArray, List.getElem_cons_succ, List.getElem_cons_zero, List.setIfInBounds_toArray, List.set_cons_zero, List.set_cons_succ]
          refine wpAnyH_take (i := 3) (v := ?va03) rfl (by kernel_rfl) (by kernel_rfl) (by kernel_rfl) (fun _ _ _ h => h) (Or.inl ⟨by rfl, ?hya03⟩) (by assumption) ?resta03
          case hya03 =>
            intro w hSw
            try dsimp only at hSw
            go_simp
            all_goals with_reducible rfl
          simp only [Act.put, List.getElem_toArray, List.getElem_cons_succ, List.getElem_cons_zero, List.setIfInBounds_toArray, List.set_cons_zero, List.set_cons_succ]
          refine wpAnyH_take (i := 5) (v := ?va05) rfl (by kernel_rfl) (by kernel_rfl) (by kernel_rfl) (fun _ _ _ h => h) (Or.inl ⟨by rfl, ?hya05⟩) (by assumption) ?resta05
          case hya05 =>
            intro w hSw
            try dsimp only at hSw
            go_simp
            all_goals with_reducible rfl
          simp only [Act.put, List.getElem_toArray, List.getElem_cons_succ, List.getElem_cons_zero, List.setIfInBounds_toArray, List.set_cons_zero, List.set_cons_succ]
          refine wpAnyH_ready (rs := [4]) (by kernel_rfl) (by simp) ?_
          refine AllReadyH.cons rfl (fun K hK => ?_) AllReadyH.nil
          go_simp
          refine hK.out _ _ (HDA.out _) (fun hHeld => ?_)
          clear hK K
          try simp only [Act.put, List.getElem_toArray, List.getElem_cons_succ, List.getElem_cons_zero, List.setIfInBounds_toArray, List.set_cons_zero, List.set_cons_succ]
          have hlit : (wr.drew.alloc (.cells #[.int .u8 84, .int .u8 80, .int .u8 1] 5)).cell? ⟨wr.heap.size, 0, none⟩ = some (.int .u8 84) := cells_of_heap (heap_alloc_new wr.drew _) 0 _ rfl
          have hSt := And.intro hHeld hlit
          refine wpAnyH_weak (S' := fun w' => (w'.cell? ⟨sb, off, none⟩ = some (.int .u8 84)) ∧ w'.cell? ⟨wr.heap.size, 0, none⟩ = some (.int .u8 84)) (fun _ h => h.1) _ _ _ _ ?_
          clear hHeld
          refine wpAnyH_take (i := 6) (v := ?va06) rfl (by kernel_rfl) (by kernel_rfl) (by kernel_rfl) (fun _ _ _ h => h) (Or.inl ⟨by rfl, ?hya06⟩) (by assumption) ?resta06
          case hya06 =>
            intro w hSw
            try dsimp only at hSw
            go_simp
            all_goals with_reducible rfl
          simp only [Act.put, List.getElem_toArray, List.getElem_cons_succ, List.getElem_cons_zero, List.setIfInBounds_toArray, List.set_cons_zero, List.set_cons_succ]
          refine wpAnyH_take (i := 7) (v := ?va07) rfl (by kernel_rfl) (by kernel_rfl) (by kernel_rfl) (fun _ _ _ h => h) (Or.inl ⟨by rfl, ?hya07⟩) (by assumption) ?resta07
          case hya07 =>
            intro w hSw
            try dsimp only at hSw
            go_simp
            all_goals with_reducible rfl
          simp only [Act.put, List.getElem_toArray, List.getElem_cons_succ, List.getElem_cons_zero, List.setIfInBounds_toArray, List.set_cons_zero, List.set_cons_succ]
          refine wpAnyH_take (i := 8) (v := ?va08) rfl (by kernel_rfl) (by kernel_rfl) (by kernel_rfl) (fun _ _ _ h => h) (Or.inl ⟨by rfl, ?hya08⟩) (by assumption) ?resta08
          case hya08 =>
            intro w hSw
            try dsimp only at hSw
            go_simp
            all_goals with_reducible rfl
          simp only [Act.put, List.getElem_toArray, List.getElem_cons_succ, List.getElem_cons_zero, List.setIfInBounds_toArray, List.set_cons_zero, List.set_cons_succ]
          refine wpAnyH_done (by kernel_rfl) ?_ _
          refine NoPanic.normal ?_
          clear hSt hlit
          clear d1 hsb HD
          go_wp2_with fail
          go_roundw
          case rel => exact ⟨1, by omega, by omega, by go_num, by go_num, HDx, HP2⟩
          case measure => simp [intOf]
        · have HT := Lib.hid (show decP b = .bad 0 12 by rw [HP.out]; exact head_no hlt hxe)
          have hxv : (b[0] != 84) = true := by rw [bne_iff_ne]; exact fun h => hxe h
          clear hxe
          generalize b[0] = x at *
          have HDA := Lib.hid (fun o => (World.cell?_of_block (w := wr) (w' := wr.drew.alloc o) (a := ⟨sb, off, none⟩) (((Only.refl (fun _ => False) wr).drew_.tr (Only.alloc _ _ o)).block sb hsb id)).trans d1)
          go_wp2_with fail
          refine wp_region_noPanic ?_
          refine wp_region_held_drew (S := fun w' => w'.cell? ⟨sb, off, none⟩ = some (.int .u8 x)) (by kernel_rfl) ?_ (fun hHeld => ?_)
          · exact d1
          try simp only [Act.put, List.getElem_toArray, List.getElem_cons_succ, List.getElem_cons_zero, List.setIfInBounds_toArray, List.set_cons_zero, List.set_cons_succ]
          refine wpAnyH_take (i := 0) (v := ?vb00) rfl (by kernel_rfl) (by kernel_rfl) (by kernel_rfl) (fun _ _ _ h => h) (Or.inl ⟨by rfl, ?hyb00⟩) (by assumption) ?restb00
          case hyb00 =>
            intro w hSw
            try dsimp only at hSw
            go_simp
            all_goals with_reducible rfl
          simp only [Act.put, List.getElem_toArray, List.getElem_cons_succ, List.getElem_cons_zero, List.setIfInBounds_toArray, List.set_cons_zero, List.set_cons_succ]
          refine wpAnyH_take (i := 1) (v := ?vb01) rfl (by kernel_rfl) (by kernel_rfl) (by kernel_rfl) (fun _ _ _ h => h) (Or.inl ⟨by rfl, ?hyb01⟩) (by assumption) ?restb01
          case hyb01 =>
            intro w hSw
            try dsimp only at hSw
            go_simp
            all_goals with_reducible rfl
          simp only [Act.put, List.getElem_toArray, List.getElem_cons_succ, List.getElem_cons_zero, List.setIfInBounds_toArray, List.set_cons_zero, List.set_cons_succ]
          refine wpAnyH_take (i := 2) (v := ?vb02) rfl (by kernel_rfl) (by kernel_rfl) (by kernel_rfl) (fun _ _ _ h => h) (Or.inl ⟨by rfl, ?hyb02⟩) (by assumption) ?restb02
          case hyb02 =>
            intro w hSw
            try dsimp only at hSw
            go_simp
            all_goals with_reducible rfl
          simp only [Act.put, List.getElem_toArray, List.getElem_cons_succ, List.getElem_cons_zero, List.setIfInBounds_toArray, List.set_cons_zero, List.set_cons_succ]
          refine wpAnyH_take (i := 3) (v := ?vb03) rfl (by kernel_rfl) (by kernel_rfl) (by kernel_rfl) (fun _ _ _ h => h) (Or.inl ⟨by rfl, ?hyb03⟩) (by assumption) ?restb03
          case hyb03 =>
            intro w hSw
            try dsimp only at hSw
            go_simp
            all_goals with_reducible rfl
          simp only [Act.put, List.getElem_toArray, List.getElem_cons_succ, List.getElem_cons_zero, List.setIfInBounds_toArray, List.set_cons_zero, List.set_cons_succ]
          refine wpAnyH_take (i := 5) (v := ?vb05) rfl (by kernel_rfl) (by kernel_rfl) (by kernel_rfl) (fun _ _ _ h => h) (Or.inl ⟨by rfl, ?hyb05⟩) (by assumption) ?restb05
          case hyb05 =>
            intro w hSw
            try dsimp only at hSw
            go_simp
            all_goals with_reducible rfl
          simp only [Act.put, List.getElem_toArray, List.getElem_cons_succ, List.getElem_cons_zero, List.setIfInBounds_toArray, List.set_cons_zero, List.set_cons_succ]
          refine wpAnyH_ready (rs := [4]) (by kernel_rfl) (by simp) ?_
          refine AllReadyH.cons rfl (fun K hK => ?_) AllReadyH.nil
          go_simp
          refine hK.out _ _ (HDA.out _) (fun hHeld => ?_)
          clear hK K
          try simp only [Act.put, List.getElem_toArray, List.getElem_cons_succ, List.getElem_cons_zero, List.setIfInBounds_toArray, List.set_cons_zero, List.set_cons_succ]
          have hlit : (wr.drew.alloc (.cells #[.int .u8 84, .int .u8 80, .int .u8 1] 5)).cell? ⟨wr.heap.size, 0, none⟩ = some (.int .u8 84) := cells_of_heap (heap_alloc_new wr.drew _) 0 _ rfl
          have hSt := And.intro hHeld hlit
          refine wpAnyH_weak (S' := fun w' => (w'.cell? ⟨sb, off, none⟩ = some (.int .u8 x)) ∧ w'.cell? ⟨wr.heap.size, 0, none⟩ = some (.int .u8 84)) (fun _ h => h.1) _ _ _ _ ?_
          clear hHeld
          refine wpAnyH_take (i := 6) (v := ?vb06) rfl (by kernel_rfl) (by kernel_rfl) (by kernel_rfl) (fun _ _ _ h => h) (Or.inl ⟨by rfl, ?hyb06⟩) (by assumption) ?restb06
          case hyb06 =>
            intro w hSw
            try dsimp only at hSw
            go_simp
            all_goals with_reducible rfl
          simp only [Act.put, List.getElem_toArray, List.getElem_cons_succ, List.getElem_cons_zero, List.setIfInBounds_toArray, List.set_cons_zero, List.set_cons_succ]
          refine wpAnyH_take (i := 7) (v := ?vb07) rfl (by kernel_rfl) (by kernel_rfl) (by kernel_rfl) (fun _ _ _ h => h) (Or.inl ⟨by rfl, ?hyb07⟩) (by assumption) ?restb07
          case hyb07 =>
            intro w hSw
            try dsimp only at hSw
            go_simp
            all_goals with_reducible rfl
          simp only [Act.put, List.getElem_toArray, List.getElem_cons_succ, List.getElem_cons_zero, List.setIfInBounds_toArray, List.set_cons_zero, List.set_cons_succ]
          refine wpAnyH_take (i := 8) (v := ?vb08) rfl (by kernel_rfl) (by kernel_rfl) (by kernel_rfl) (fun _ _ _ h => h) (Or.inl ⟨by rfl, ?hyb08⟩) (by assumption) ?restb08
          case hyb08 =>
            intro w hSw
            try dsimp only at hSw
            go_simp
            all_goals with_reducible rfl
          simp only [Act.put, List.getElem_toArray, List.getElem_cons_succ, List.getElem_cons_zero, List.setIfInBounds_toArray, List.set_cons_zero, List.set_cons_succ]
          refine wpAnyH_done (by kernel_rfl) ?_ _
          refine NoPanic.normal ?_
          clear hSt hlit
          clear d1 hsb HD
          go_wp2_with (refine wpList_store_row rfl 25 (.tmp 2) (.tmp 32) rfl g2 _ rfl rfl 25 _ HDx.out.res (by kernel_rfl) rfl (by simp [Value.oneCell']) ?_)
          refine bodyPost_ret (results_cell_row_tmp2 rfl _ _ g2 _ _ _ _ rfl (setRow_heap _ _ _ _ _ _ HDx.out.res) Tryd.underlying25 rfl (by kernel_rfl)) rfl ?_
          exact ⟨HDx.out.only.trans (only_setRow _ g2 _) fun k hk e => by have := HG.out.l2; omega, .inr ⟨_, _, HT.out, rfl⟩⟩
      · have HT := Lib.hid (show decP b = .bad 0 10 by rw [HP.out]; exact head_none (by omega))
        have hi2 : (b.length : Int) ≤ 0 := by omega
        have hi6 : b.length ≤ 0 := by omega
        have hi4 : b.length = 0 := by omega
        have hi5 : b = [] := List.eq_nil_of_length_eq_zero hi4
        go_wp2_with (refine wpList_store_row rfl 25 (.tmp 2) (.tmp 21) rfl g2 _ rfl rfl 25 _ HD.out.res (by kernel_rfl) rfl (by simp [Value.oneCell']) ?_)
        refine bodyPost_ret (results_cell_row_tmp2 rfl _ _ g2 _ _ _ _ rfl (setRow_heap _ _ _ _ _ _ HD.out.res) Tryd.underlying25 rfl (by kernel_rfl)) rfl ?_
        exact ⟨HD.out.only.trans (only_setRow _ g2 _) fun k hk e => by have := HG.out.l2; omega, .inr ⟨_, _, HT.out, rfl⟩⟩
    · skip
      by_cases hlt : 1 < b.length
      · obtain ⟨_, ao', cap', hao, _, _, hx⟩ := HRD.out.only HD.out.only
        obtain ⟨rfl, _, rfl⟩ : ao = ao' ∧ b.length = b.length ∧ cap = cap' := by simpa using hao
        obtain ⟨sb, off, rfl, hc⟩ := hx (by omega)
        have d1 := hc 1 _ (eInt_at .u8 b 1 hlt)
        try rw [Nat.add_zero] at d1
        have hsb : sb < wr.heap.size := World.block_lt_of_cell? wr _ d1
        have hi1 : (1 : Int) < (b.length : Int) := by omega
        have hi2 : ¬ (b.length : Int) ≤ 1 := by omega
        have hi6 : ¬ b.length ≤ 1 := by omega
        have hi3 : 0 < b.length := by omega
        have hi4 : ¬ b.length = 0 := by omega
        have hi5 : ¬ b = [] := fun h => by rw [h] at hi3; simp at hi3
        clear hc hx hao
        have HDx := Lib.hid (HD.out.fresh ((Only.refl _ wr).drew_.tr (Only.alloc _ _ (.cells #[.int .u8 84, .int .u8 80, .int .u8 1] 5))))
        by_cases hxe : b[1] = headAt 1
        · have HP2 := Lib.hid (show decP b = headP b (3 - 2) 2 by rw [HP.out]; exact head_yes hlt hxe)
          have hxv : b[1] = 80 := hxe
          clear hxe
          rw [hxv] at d1
          clear hxv
          have HDA := Lib.hid (fun o => (World.cell?_of_block (w := wr) (w' := wr.drew.alloc o) (a := ⟨sb, off + 1, none⟩) (((Only.refl (fun _ => False) wr).drew_.tr (Only.alloc _ _ o)).block sb hsb id)).trans d1)
          go_wp2_with fail
          refine wp_region_noPanic ?_
          refine wp_region_held_drew (S := fun w' => w'.cell? ⟨sb, off + 1, none⟩ = some (.int .u8 80)) (by kernel_rfl) ?_ (fun hHeld => ?_)
          · exact d1
          try simp only [Act.put, List.getElem_toArray, List.getElem_cons_succ, List.getElem_cons_zero, List.setIfInBounds_toArray, List.set_cons_zero, List.set_cons_succ]
          refine wpAnyH_take (i := 0) (v := ?va10) rfl (by kernel_rfl) (by kernel_rfl) (by kernel_rfl) (fun _ _ _ h => h) (Or.inl ⟨by rfl, ?hya10⟩) (by assumption) ?resta10
          case hya10 =>
            intro w hSw
            try dsimp only at hSw
            go_simp
            all_goals with_reducible rfl
          simp only [Act.put, List.getElem_toArray, List.getElem_cons_succ, List.getElem_cons_zero, List.setIfInBounds_toArray, List.set_cons_zero, List.set_cons_succ]
          refine wpAnyH_take (i := 1) (v := ?va11) rfl (by kernel_rfl) (by kernel_rfl) (by kernel_rfl) (fun _ _ _ h => h) (Or.inl ⟨by rfl, ?hya11⟩) (by assumption) ?resta11
          case hya11 =>
            intro w hSw
            try dsimp only at hSw
            go_simp
            all_goals with_reducible rfl
          simp only [Act.put, List.getElem_toArray, List.getElem_cons_succ, List.getElem_cons_zero, List.setIfInBounds_toArray, List.set_cons_zero, List.set_cons_succ]
          refine wpAnyH_take (i := 2) (v := ?va12) rfl (by kernel_rfl) (by kernel_rfl) (by kernel_rfl) (fun _ _ _ h => h) (Or.inl ⟨by rfl, ?hya12⟩) (by assumption) ?resta12
          case hya12 =>
            intro w hSw
            try dsimp only at hSw
            go_simp
            all_goals with_reducible rfl
          simp only [Act.put, List.getElem_toArray, List.getElem_cons_succ, List.getElem_cons_zero, List.setIfInBounds_toArray, List.set_cons_zero, List.set_cons_succ]
          refine wpAnyH_take (i := 3) (v := ?va13) rfl (by kernel_rfl) (by kernel_rfl) (by kernel_rfl) (fun _ _ _ h => h) (Or.inl ⟨by rfl, ?hya13⟩) (by assumption) ?resta13
          case hya13 =>
            intro w hSw
            try dsimp only at hSw
            go_simp
            all_goals with_reducible rfl
          simp only [Act.put, List.getElem_toArray, List.getElem_cons_succ, List.getElem_cons_zero, List.setIfInBounds_toArray, List.set_cons_zero, List.set_cons_succ]
          refine wpAnyH_take (i := 5) (v := ?va15) rfl (by kernel_rfl) (by kernel_rfl) (by kernel_rfl) (fun _ _ _ h => h) (Or.inl ⟨by rfl, ?hya15⟩) (by assumption) ?resta15
          case hya15 =>
            intro w hSw
            try dsimp only at hSw
            go_simp
            all_goals with_reducible rfl
          simp only [Act.put, List.getElem_toArray, List.getElem_cons_succ, List.getElem_cons_zero, List.setIfInBounds_toArray, List.set_cons_zero, List.set_cons_succ]
          refine wpAnyH_ready (rs := [4]) (by kernel_rfl) (by simp) ?_
          refine AllReadyH.cons rfl (fun K hK => ?_) AllReadyH.nil
          go_simp
          refine hK.out _ _ (HDA.out _) (fun hHeld => ?_)
          clear hK K
          try simp only [Act.put, List.getElem_toArray, List.getElem_cons_succ, List.getElem_cons_zero, List.setIfInBounds_toArray, List.set_cons_zero, List.set_cons_succ]
          have hlit : (wr.drew.alloc (.cells #[.int .u8 84, .int .u8 80, .int .u8 1] 5)).cell? ⟨wr.heap.size, 1, none⟩ = some (.int .u8 80) := cells_of_heap (heap_alloc_new wr.drew _) 1 _ rfl
          have hSt := And.intro hHeld hlit
          refine wpAnyH_weak (S' := fun w' => (w'.cell? ⟨sb, off + 1, none⟩ = some (.int .u8 80)) ∧ w'.cell? ⟨wr.heap.size, 1, none⟩ = some (.int .u8 80)) (fun _ h => h.1) _ _ _ _ ?_
          clear hHeld
          refine wpAnyH_take (i := 6) (v := ?va16) rfl (by kernel_rfl) (by kernel_rfl) (by kernel_rfl) (fun _ _ _ h => h) (Or.inl ⟨by rfl, ?hya16⟩) (by assumption) ?resta16
          case hya16 =>
            intro w hSw
            try dsimp only at hSw
            go_simp
            all_goals with_reducible rfl
          simp only [Act.put, List.getElem_toArray, List.getElem_cons_succ, List.getElem_cons_zero, List.setIfInBounds_toArray, List.set_cons_zero, List.set_cons_succ]
          refine wpAnyH_take (i := 7) (v := ?va17) rfl (by kernel_rfl) (by kernel_rfl) (by kernel_rfl) (fun _ _ _ h => h) (Or.inl ⟨by rfl, ?hya17⟩) (by assumption) ?resta17
          case hya17 =>
            intro w hSw
            try dsimp only at hSw
            go_simp
            all_goals with_reducible rfl
          simp only [Act.put, List.getElem_toArray, List.getElem_cons_succ, List.getElem_cons_zero, List.setIfInBounds_toArray, List.set_cons_zero, List.set_cons_succ]
          refine wpAnyH_take (i := 8) (v := ?va18) rfl (by kernel_rfl) (by kernel_rfl) (by kernel_rfl) (fun _ _ _ h => h) (Or.inl ⟨by rfl, ?hya18⟩) (by assumption) ?resta18
          case hya18 =>
            intro w hSw
            try dsimp only at hSw
            go_simp
            all_goals with_reducible rfl
          simp only [Act.put, List.getElem_toArray, List.getElem_cons_succ, List.getElem_cons_zero, List.setIfInBounds_toArray, List.set_cons_zero, List.set_cons_succ]
          refine wpAnyH_done (by kernel_rfl) ?_ _
          refine NoPanic.normal ?_
          clear hSt hlit
          clear d1 hsb HD
          go_wp2_with fail
          go_roundw
          case rel => exact ⟨2, by omega, by omega, by go_num, by go_num, HDx, HP2⟩
          case measure => simp [intOf]
        · have HT := Lib.hid (show decP b = .bad 1 12 by rw [HP.out]; exact head_no hlt hxe)
          have hxv : (b[1] != 80) = true := by rw [bne_iff_ne]; exact fun h => hxe h
          clear hxe
          generalize b[1] = x at *
          have HDA := Lib.hid (fun o => (World.cell?_of_block (w := wr) (w' := wr.drew.alloc o) (a := ⟨sb, off + 1, none⟩) (((Only.refl (fun _ => False) wr).drew_.tr (Only.alloc _ _ o)).block sb hsb id)).trans d1)
          go_wp2_with fail
          refine wp_region_noPanic ?_
          refine wp_region_held_drew (S := fun w' => w'.cell? ⟨sb, off + 1, none⟩ = some (.int .u8 x)) (by kernel_rfl) ?_ (fun hHeld => ?_)
          · exact d1
          try simp only [Act.put, List.getElem_toArray, List.getElem_cons_succ, List.getElem_cons_zero, List.setIfInBounds_toArray, List.set_cons_zero, List.set_cons_succ]
          refine wpAnyH_take (i := 0) (v := ?vb10) rfl (by kernel_rfl) (by kernel_rfl) (by kernel_rfl) (fun _ _ _ h => h) (Or.inl ⟨by rfl, ?hyb10⟩) (by assumption) ?restb10
          case hyb10 =>
            intro w hSw
            try dsimp only at hSw
            go_simp
            all_goals with_reducible rfl
          simp only [Act.put, List.getElem_toArray, List.getElem_cons_succ, List.getElem_cons_zero, List.setIfInBounds_toArray, List.set_cons_zero, List.set_cons_succ]
          refine wpAnyH_take (i := 1) (v := ?vb11) rfl (by kernel_rfl) (by kernel_rfl) (by kernel_rfl) (fun _ _ _ h => h) (Or.inl ⟨by rfl, ?hyb11⟩) (by assumption) ?restb11
          case hyb11 =>
            intro w hSw
            try dsimp only at hSw
            go_simp
            all_goals with_reducible rfl
          simp only [Act.put, List.getElem_toArray, List.getElem_cons_succ, List.getElem_cons_zero, List.setIfInBounds_toArray, List.set_cons_zero, List.set_cons_succ]
          refine wpAnyH_take (i := 2) (v := ?vb12) rfl (by kernel_rfl) (by kernel_rfl) (by kernel_rfl) (fun _ _ _ h => h) (Or.inl ⟨by rfl, ?hyb12⟩) (by assumption) ?restb12
          case hyb12 =>
            intro w hSw
            try dsimp only at hSw
            go_simp
            all_goals with_reducible rfl
          simp only [Act.put, List.getElem_toArray, List.getElem_cons_succ, List.getElem_cons_zero, List.setIfInBounds_toArray, List.set_cons_zero, List.set_cons_succ]
          refine wpAnyH_take (i := 3) (v := ?vb13) rfl (by kernel_rfl) (by kernel_rfl) (by kernel_rfl) (fun _ _ _ h => h) (Or.inl ⟨by rfl, ?hyb13⟩) (by assumption) ?restb13
          case hyb13 =>
            intro w hSw
            try dsimp only at hSw
            go_simp
            all_goals with_reducible rfl
          simp only [Act.put, List.getElem_toArray, List.getElem_cons_succ, List.getElem_cons_zero, List.setIfInBounds_toArray, List.set_cons_zero, List.set_cons_succ]
          refine wpAnyH_take (i := 5) (v := ?vb15) rfl (by kernel_rfl) (by kernel_rfl) (by kernel_rfl) (fun _ _ _ h => h) (Or.inl ⟨by rfl, ?hyb15⟩) (by assumption) ?restb15
          case hyb15 =>
            intro w hSw
            try dsimp only at hSw
            go_simp
            all_goals with_reducible rfl
          simp only [Act.put, List.getElem_toArray, List.getElem_cons_succ, List.getElem_cons_zero, List.setIfInBounds_toArray, List.set_cons_zero, List.set_cons_succ]
          refine wpAnyH_ready (rs := [4]) (by kernel_rfl) (by simp) ?_
          refine AllReadyH.cons rfl (fun K hK => ?_) AllReadyH.nil
          go_simp
          refine hK.out _ _ (HDA.out _) (fun hHeld => ?_)
          clear hK K
          try simp only [Act.put, List.getElem_toArray, List.getElem_cons_succ, List.getElem_cons_zero, List.setIfInBounds_toArray, List.set_cons_zero, List.set_cons_succ]
          have hlit : (wr.drew.alloc (.cells #[.int .u8 84, .int .u8 80, .int .u8 1] 5)).cell? ⟨wr.heap.size, 1, none⟩ = some (.int .u8 80) := cells_of_heap (heap_alloc_new wr.drew _) 1 _ rfl
          have hSt := And.intro hHeld hlit
          refine wpAnyH_weak (S' := fun w' => (w'.cell? ⟨sb, off + 1, none⟩ = some (.int .u8 x)) ∧ w'.cell? ⟨wr.heap.size, 1, none⟩ = some (.int .u8 80)) (fun _ h => h.1) _ _ _ _ ?_
          clear hHeld
          refine wpAnyH_take (i := 6) (v := ?vb16) rfl (by kernel_rfl) (by kernel_rfl) (by kernel_rfl) (fun _ _ _ h => h) (Or.inl ⟨by rfl, ?hyb16⟩) (by assumption) ?restb16
          case hyb16 =>
            intro w hSw
            try dsimp only at hSw
            go_simp
            all_goals with_reducible rfl
          simp only [Act.put, List.getElem_toArray, List.getElem_cons_succ, List.getElem_cons_zero, List.setIfInBounds_toArray, List.set_cons_zero, List.set_cons_succ]
          refine wpAnyH_take (i := 7) (v := ?vb17) rfl (by kernel_rfl) (by kernel_rfl) (by kernel_rfl) (fun _ _ _ h => h) (Or.inl ⟨by rfl, ?hyb17⟩) (by assumption) ?restb17
          case hyb17 =>
            intro w hSw
            try dsimp only at hSw
            go_simp
            all_goals with_reducible rfl
          simp only [Act.put, List.getElem_toArray, List.getElem_cons_succ, List.getElem_cons_zero, List.setIfInBounds_toArray, List.set_cons_zero, List.set_cons_succ]
          refine wpAnyH_take (i := 8) (v := ?vb18) rfl (by kernel_rfl) (by kernel_rfl) (by kernel_rfl) (fun _ _ _ h => h) (Or.inl ⟨by rfl, ?hyb18⟩) (by assumption) ?restb18
          case hyb18 =>
            intro w hSw
            try dsimp only at hSw
            go_simp
            all_goals with_reducible rfl
          simp only [Act.put, List.getElem_toArray, List.getElem_cons_succ, List.getElem_cons_zero, List.setIfInBounds_toArray, List.set_cons_zero, List.set_cons_succ]
          refine wpAnyH_done (by kernel_rfl) ?_ _
          refine NoPanic.normal ?_
          clear hSt hlit
          clear d1 hsb HD
          go_wp2_with (refine wpList_store_row rfl 25 (.tmp 2) (.tmp 32) rfl g2 _ rfl rfl 25 _ HDx.out.res (by kernel_rfl) rfl (by simp [Value.oneCell']) ?_)
          refine bodyPost_ret (results_cell_row_tmp2 rfl _ _ g2 _ _ _ _ rfl (setRow_heap _ _ _ _ _ _ HDx.out.res) Tryd.underlying25 rfl (by kernel_rfl)) rfl ?_
          exact ⟨HDx.out.only.trans (only_setRow _ g2 _) fun k hk e => by have := HG.out.l2; omega, .inr ⟨_, _, HT.out, rfl⟩⟩
      · have HT := Lib.hid (show decP b = .bad 1 10 by rw [HP.out]; exact head_none (by omega))
        have hi2 : (b.length : Int) ≤ 1 := by omega
        have hi6 : b.length ≤ 1 := by omega
        go_wp2_with (refine wpList_store_row rfl 25 (.tmp 2) (.tmp 21) rfl g2 _ rfl rfl 25 _ HD.out.res (by kernel_rfl) rfl (by simp [Value.oneCell']) ?_)
        refine bodyPost_ret (results_cell_row_tmp2 rfl _ _ g2 _ _ _ _ rfl (setRow_heap _ _ _ _ _ _ HD.out.res) Tryd.underlying25 rfl (by kernel_rfl)) rfl ?_
        exact ⟨HD.out.only.trans (only_setRow _ g2 _) fun k hk e => by have := HG.out.l2; omega, .inr ⟨_, _, HT.out, rfl⟩⟩
    · skip
      by_cases hlt : 2 < b.length
      · obtain ⟨_, ao', cap', hao, _, _, hx⟩ := HRD.out.only HD.out.only
        obtain ⟨rfl, _, rfl⟩ : ao = ao' ∧ b.length = b.length ∧ cap = cap' := by simpa using hao
        obtain ⟨sb, off, rfl, hc⟩ := hx (by omega)
        have d1 := hc 2 _ (eInt_at .u8 b 2 hlt)
        try rw [Nat.add_zero] at d1
        have hsb : sb < wr.heap.size := World.block_lt_of_cell? wr _ d1
        have hi1 : (2 : Int) < (b.length : Int) := by omega
        have hi2 : ¬ (b.length : Int) ≤ 2 := by omega
        have hi6 : ¬ b.length ≤ 2 := by omega
        have hi3 : 0 < b.length := by omega
        have hi4 : ¬ b.length = 0 := by omega
        have hi5 : ¬ b = [] := fun h => by rw [h] at hi3; simp at hi3
        clear hc hx hao
        have HDx := Lib.hid (HD.out.fresh ((Only.refl _ wr).drew_.tr (Only.alloc _ _ (.cells #[.int .u8 84, .int .u8 80, .int .u8 1] 5))))
        by_cases hxe : b[2] = headAt 2
        · have HP2 := Lib.hid (show decP b = headP b (3 - 3) 3 by rw [HP.out]; exact head_yes hlt hxe)
          have hxv : b[2] = 1 := hxe
          clear hxe
          rw [hxv] at d1
          clear hxv
          have HDA := Lib.hid (fun o => (World.cell?_of_block (w := wr) (w' := wr.drew.alloc o) (a := ⟨sb, off + 2, none⟩) (((Only.refl (fun _ => False) wr).drew_.tr (Only.alloc _ _ o)).block sb hsb id)).trans d1)
          go_wp2_with fail
          refine wp_region_noPanic ?_
          refine wp_region_held_drew (S := fun w' => w'.cell? ⟨sb, off + 2, none⟩ = some (.int .u8 1)) (by kernel_rfl) ?_ (fun hHeld => ?_)
          · exact d1
          try simp only [Act.put, List.getElem_toArray, List.getElem_cons_succ, List.getElem_cons_zero, List.setIfInBounds_toArray, List.set_cons_zero, List.set_cons_succ]
          refine wpAnyH_take (i := 0) (v := ?va20) rfl (by kernel_rfl) (by kernel_rfl) (by kernel_rfl) (fun _ _ _ h => h) (Or.inl ⟨by rfl, ?hya20⟩) (by assumption) ?resta20
          case hya20 =>
            intro w hSw
            try dsimp only at hSw
            go_simp
            all_goals with_reducible rfl
          simp only [Act.put, List.getElem_toArray, List.getElem_cons_succ, List.getElem_cons_zero, List.setIfInBounds_toArray, List.set_cons_zero, List.set_cons_succ]
          refine wpAnyH_take (i := 1) (v := ?va21) rfl (by kernel_rfl) (by kernel_rfl) (by kernel_rfl) (fun _ _ _ h => h) (Or.inl ⟨by rfl, ?hya21⟩) (by assumption) ?resta21
          case hya21 =>
            intro w hSw
            try dsimp only at hSw
            go_simp
            all_goals with_reducible rfl
          simp only [Act.put, List.getElem_toArray, List.getElem_cons_succ, List.getElem_cons_zero, List.setIfInBounds_toArray, List.set_cons_zero, List.set_cons_succ]
          refine wpAnyH_take (i := 2) (v := ?va22) rfl (by kernel_rfl) (by kernel_rfl) (by kernel_rfl) (fun _ _ _ h => h) (Or.inl ⟨by rfl, ?hya22⟩) (by assumption) ?resta22
          case hya22 =>
            intro w hSw
            try dsimp only at hSw
            go_simp
            all_goals with_reducible rfl
          simp only [Act.put, List.getElem_toArray, List.getElem_cons_succ, List.getElem_cons_zero, List.setIfInBounds_toArray, List.set_cons_zero, List.set_cons_succ]
          refine wpAnyH_take (i := 3) (v := ?va23) rfl (by kernel_rfl) (by kernel_rfl) (by kernel_rfl) (fun _ _ _ h => h) (Or.inl ⟨by rfl, ?hya23⟩) (by assumption) ?resta23
          case hya23 =>
            intro w hSw
            try dsimp only at hSw
            go_simp
            all_goals with_reducible rfl
          simp only [Act.put, List.getElem_toArray, List.getElem_cons_succ, List.getElem_cons_zero, List.setIfInBounds_toArray, List.set_cons_zero, List.set_cons_succ]
          refine wpAnyH_take (i := 5) (v := ?va25) rfl (by kernel_rfl) (by kernel_rfl) (by kernel_rfl) (fun _ _ _ h => h) (Or.inl ⟨by rfl, ?hya25⟩) (by assumption) ?resta25
          case hya25 =>
            intro w hSw
            try dsimp only at hSw
            go_simp
            all_goals with_reducible rfl
          simp only [Act.put, List.getElem_toArray, List.getElem_cons_succ, List.getElem_cons_zero, List.setIfInBounds_toArray, List.set_cons_zero, List.set_cons_succ]
          refine wpAnyH_ready (rs := [4]) (by kernel_rfl) (by simp) ?_
          refine AllReadyH.cons rfl (fun K hK => ?_) AllReadyH.nil
          go_simp
          refine hK.out _ _ (HDA.out _) (fun hHeld => ?_)
          clear hK K
          try simp only [Act.put, List.getElem_toArray, List.getElem_cons_succ, List.getElem_cons_zero, List.setIfInBounds_toArray, List.set_cons_zero, List.set_cons_succ]
          have hlit : (wr.drew.alloc (.cells #[.int .u8 84, .int .u8 80, .int .u8 1] 5)).cell? ⟨wr.heap.size, 2, none⟩ = some (.int .u8 1) := cells_of_heap (heap_alloc_new wr.drew _) 2 _ rfl
          have hSt := And.intro hHeld hlit
          refine wpAnyH_weak (S' := fun w' => (w'.cell? ⟨sb, off + 2, none⟩ = some (.int .u8 1)) ∧ w'.cell? ⟨wr.heap.size, 2, none⟩ = some (.int .u8 1)) (fun _ h => h.1) _ _ _ _ ?_
          clear hHeld
          refine wpAnyH_take (i := 6) (v := ?va26) rfl (by kernel_rfl) (by kernel_rfl) (by kernel_rfl) (fun _ _ _ h => h) (Or.inl ⟨by rfl, ?hya26⟩) (by assumption) ?resta26
          case hya26 =>
            intro w hSw
            try dsimp only at hSw
            go_simp
            all_goals with_reducible rfl
          simp only [Act.put, List.getElem_toArray, List.getElem_cons_succ, List.getElem_cons_zero, List.setIfInBounds_toArray, List.set_cons_zero, List.set_cons_succ]
          refine wpAnyH_take (i := 7) (v := ?va27) rfl (by kernel_rfl) (by kernel_rfl) (by kernel_rfl) (fun _ _ _ h => h) (Or.inl ⟨by rfl, ?hya27⟩) (by assumption) ?resta27
          case hya27 =>
            intro w hSw
            try dsimp only at hSw
            go_simp
            all_goals with_reducible rfl
          simp only [Act.put, List.getElem_toArray, List.getElem_cons_succ, List.getElem_cons_zero, List.setIfInBounds_toArray, List.set_cons_zero, List.set_cons_succ]
          refine wpAnyH_take (i := 8) (v := ?va28) rfl (by kernel_rfl) (by kernel_rfl) (by kernel_rfl) (fun _ _ _ h => h) (Or.inl ⟨by rfl, ?hya28⟩) (by assumption) ?resta28
          case hya28 =>
            intro w hSw
            try dsimp only at hSw
            go_simp
            all_goals with_reducible rfl
          simp only [Act.put, List.getElem_toArray, List.getElem_cons_succ, List.getElem_cons_zero, List.setIfInBounds_toArray, List.set_cons_zero, List.set_cons_succ]
          refine wpAnyH_done (by kernel_rfl) ?_ _
          refine NoPanic.normal ?_
          clear hSt hlit
          clear d1 hsb HD
          go_wp2_with fail
          go_roundw
          case rel => exact ⟨3, by omega, by omega, by go_num, by go_num, HDx, HP2⟩
          case measure => simp [intOf]
        · have HT := Lib.hid (show decP b = .bad 2 12 by rw [HP.out]; exact head_no hlt hxe)
          have hxv : (b[2] != 1) = true := by rw [bne_iff_ne]; exact fun h => hxe h
          clear hxe
          generalize b[2] = x at *
          have HDA := Lib.hid (fun o => (World.cell?_of_block (w := wr) (w' := wr.drew.alloc o) (a := ⟨sb, off + 2, none⟩) (((Only.refl (fun _ => False) wr).drew_.tr (Only.alloc _ _ o)).block sb hsb id)).trans d1)
          go_wp2_with fail
          refine wp_region_noPanic ?_
          refine wp_region_held_drew (S := fun w' => w'.cell? ⟨sb, off + 2, none⟩ = some (.int .u8 x)) (by kernel_rfl) ?_ (fun hHeld => ?_)
          · exact d1
          try simp only [Act.put, List.getElem_toArray, List.getElem_cons_succ, List.getElem_cons_zero, List.setIfInBounds_toArray, List.set_cons_zero, List.set_cons_succ]
          refine wpAnyH_take (i := 0) (v := ?vb20) rfl (by kernel_rfl) (by kernel_rfl) (by kernel_rfl) (fun _ _ _ h => h) (Or.inl ⟨by rfl, ?hyb20⟩) (by assumption) ?restb20
          case hyb20 =>
            intro w hSw
            try dsimp only at hSw
            go_simp
            all_goals with_reducible rfl
          simp only [Act.put, List.getElem_toArray, List.getElem_cons_succ, List.getElem_cons_zero, List.setIfInBounds_toArray, List.set_cons_zero, List.set_cons_succ]
          refine wpAnyH_take (i := 1) (v := ?vb21) rfl (by kernel_rfl) (by kernel_rfl) (by kernel_rfl) (fun _ _ _ h => h) (Or.inl ⟨by rfl, ?hyb21⟩) (by assumption) ?restb21
          case hyb21 =>
            intro w hSw
            try dsimp only at hSw
            go_simp
            all_goals with_reducible rfl
          simp only [Act.put, List.getElem_toArray, List.getElem_cons_succ, List.getElem_cons_zero, List.setIfInBounds_toArray, List.set_cons_zero, List.set_cons_succ]
          refine wpAnyH_take (i := 2) (v := ?vb22) rfl (by kernel_rfl) (by kernel_rfl) (by kernel_rfl) (fun _ _ _ h => h) (Or.inl ⟨by rfl, ?hyb22⟩) (by assumption) ?restb22
          case hyb22 =>
            intro w hSw
            try dsimp only at hSw
            go_simp
            all_goals with_reducible rfl
          simp only [Act.put, List.getElem_toArray, List.getElem_cons_succ, List.getElem_cons_zero, List.setIfInBounds_toArray, List.set_cons_zero, List.set_cons_succ]
          refine wpAnyH_take (i := 3) (v := ?vb23) rfl (by kernel_rfl) (by kernel_rfl) (by kernel_rfl) (fun _ _ _ h => h) (Or.inl ⟨by rfl, ?hyb23⟩) (by assumption) ?restb23
          case hyb23 =>
            intro w hSw
            try dsimp only at hSw
            go_simp
            all_goals with_reducible rfl
          simp only [Act.put, List.getElem_toArray, List.getElem_cons_succ, List.getElem_cons_zero, List.setIfInBounds_toArray, List.set_cons_zero, List.set_cons_succ]
          refine wpAnyH_take (i := 5) (v := ?vb25) rfl (by kernel_rfl) (by kernel_rfl) (by kernel_rfl) (fun _ _ _ h => h) (Or.inl ⟨by rfl, ?hyb25⟩) (by assumption) ?restb25
          case hyb25 =>
            intro w hSw
            try dsimp only at hSw
            go_simp
            all_goals with_reducible rfl
          simp only [Act.put, List.getElem_toArray, List.getElem_cons_succ, List.getElem_cons_zero, List.setIfInBounds_toArray, List.set_cons_zero, List.set_cons_succ]
          refine wpAnyH_ready (rs := [4]) (by kernel_rfl) (by simp) ?_
          refine AllReadyH.cons rfl (fun K hK => ?_) AllReadyH.nil
          go_simp
          refine hK.out _ _ (HDA.out _) (fun hHeld => ?_)
          clear hK K
          try simp only [Act.put, List.getElem_toArray, List.getElem_cons_succ, List.getElem_cons_zero, List.setIfInBounds_toArray, List.set_cons_zero, List.set_cons_succ]
          have hlit : (wr.drew.alloc (.cells #[.int .u8 84, .int .u8 80, .int .u8 1] 5)).cell? ⟨wr.heap.size, 2, none⟩ = some (.int .u8 1) := cells_of_heap (heap_alloc_new wr.drew _) 2 _ rfl
          have hSt := And.intro hHeld hlit
          refine wpAnyH_weak (S' := fun w' => (w'.cell? ⟨sb, off + 2, none⟩ = some (.int .u8 x)) ∧ w'.cell? ⟨wr.heap.size, 2, none⟩ = some (.int .u8 1)) (fun _ h => h.1) _ _ _ _ ?_
          clear hHeld
          refine wpAnyH_take (i := 6) (v := ?vb26) rfl (by kernel_rfl) (by kernel_rfl) (by kernel_rfl) (fun _ _ _ h => h) (Or.inl ⟨by rfl, ?hyb26⟩) (by assumption) ?restb26
          case hyb26 =>
            intro w hSw
            try dsimp only at hSw
            go_simp
            all_goals with_reducible rfl
          simp only [Act.put, List.getElem_toArray, List.getElem_cons_succ, List.getElem_cons_zero, List.setIfInBounds_toArray, List.set_cons_zero, List.set_cons_succ]
          refine wpAnyH_take (i := 7) (v := ?vb27) rfl (by kernel_rfl) (by kernel_rfl) (by kernel_rfl) (fun _ _ _ h => h) (Or.inl ⟨by rfl, ?hyb27⟩) (by assumption) ?restb27
          case hyb27 =>
            intro w hSw
            try dsimp only at hSw
            go_simp
            all_goals with_reducible rfl
          simp only [Act.put, List.getElem_toArray, List.getElem_cons_succ, List.getElem_cons_zero, List.setIfInBounds_toArray, List.set_cons_zero, List.set_cons_succ]
          refine wpAnyH_take (i := 8) (v := ?vb28) rfl (by kernel_rfl) (by kernel_rfl) (by kernel_rfl) (fun _ _ _ h => h) (Or.inl ⟨by rfl, ?hyb28⟩) (by assumption) ?restb28
          case hyb28 =>
            intro w hSw
            try dsimp only at hSw
            go_simp
            all_goals with_reducible rfl
          simp only [Act.put, List.getElem_toArray, List.getElem_cons_succ, List.getElem_cons_zero, List.setIfInBounds_toArray, List.set_cons_zero, List.set_cons_succ]
          refine wpAnyH_done (by kernel_rfl) ?_ _
          refine NoPanic.normal ?_
          clear hSt hlit
          clear d1 hsb HD
          go_wp2_with (refine wpList_store_row rfl 25 (.tmp 2) (.tmp 32) rfl g2 _ rfl rfl 25 _ HDx.out.res (by kernel_rfl) rfl (by simp [Value.oneCell']) ?_)
          refine bodyPost_ret (results_cell_row_tmp2 rfl _ _ g2 _ _ _ _ rfl (setRow_heap _ _ _ _ _ _ HDx.out.res) Tryd.underlying25 rfl (by kernel_rfl)) rfl ?_
          exact ⟨HDx.out.only.trans (only_setRow _ g2 _) fun k hk e => by have := HG.out.l2; omega, .inr ⟨_, _, HT.out, rfl⟩⟩
      · have HT := Lib.hid (show decP b = .bad 2 10 by rw [HP.out]; exact head_none (by omega))
        have hi2 : (b.length : Int) ≤ 2 := by omega
        have hi6 : b.length ≤ 2 := by omega
        go_wp2_with (refine wpList_store_row rfl 25 (.tmp 2) (.tmp 21) rfl g2 _ rfl rfl 25 _ HD.out.res (by kernel_rfl) rfl (by simp [Value.oneCell']) ?_)
        refine bodyPost_ret (results_cell_row_tmp2 rfl _ _ g2 _ _ _ _ rfl (setRow_heap _ _ _ _ _ _ HD.out.res) Tryd.underlying25 rfl (by kernel_rfl)) rfl ?_
        exact ⟨HD.out.only.trans (only_setRow _ g2 _) fun k hk e => by have := HG.out.l2; omega, .inr ⟨_, _, HT.out, rfl⟩⟩
    · have hi5 : ¬ (i : Int) < 3 := by omega
      have HP4 := Lib.hid (show decP b = startP b by have h := HP.out; rw [hi4] at h; exact h)
      go_wp2_with fail
      go_loopw [3, 4, 7, 8, 9, 10, 11, 12, 13, 14] (fun _ _ t7 t8 t9 t10 t11 _ _ _ wr => RLoop b w g2 gm gc t7 t8 t9 t10 t11 wr) (fun _ _ t7 _ _ _ _ _ _ _ _ => b.length - (intOf t7).toNat)
      case atStart => exact ⟨i, 0, 3, 0, 0, (0, 0, 0, 0, 0), [], [], _, _, by first | rfl | (rw [hi4]; rfl), by first | rfl | (rw [hi4]; rfl), rfl, rfl, rfl, hib, by omega, by omega, by simp, by simp, by omega, Lib.hid (fun _ j hj => by simp at hj), HD, Lib.hid (.inl ⟨rfl, rfl, rfl, hi4, HP4.out⟩)⟩
      case round =>
        clear HD HP HP4 hi4 hi5
        obtain ⟨p, fr, s, mp, cd, c, ms, cs, vm, vc, rfl, rfl, rfl, rfl, rfl, hpl, hmp, hcd, hms, hcs, hsr, HI, HD, HR⟩ := hrel
        obtain ⟨_, am, cm, rfl, _⟩ := id HD.out.maps.1
        obtain ⟨_, ac, cc, rfl, _⟩ := id HD.out.code.1
        have c0 := cells_of_heap HD.out.mod 0 _ rfl
        have c1 := cells_of_heap HD.out.mod 1 _ rfl
        have hml2 := heap_lt HD.out.mod
        by_cases hs : s < 11
        · obtain ⟨n, wd, eg, hgt⟩ : ∃ n wd eg, get1 (b.drop p) = (n, wd, eg) := ⟨_, _, _, rfl⟩
          have HGT := Lib.hid hgt
          have HGC := Lib.hid (fun v W (h : Rd eU8 W v (b.drop p)) => refGet_any (b.drop p) v W h (drop_bytes HBY.out p))
          rw [hgt] at HGC
          have hback := fun h0 : eg = 0 => get1_back (b.drop p) n wd (drop_bytes HBY.out p) (by rw [hgt, h0])
          have hwide := fun h0 : eg = 0 => (get1_width (b.drop p) (drop_bytes HBY.out p) (by rw [hgt]; exact h0)).1
          rw [hgt] at hwide
          obtain ⟨aq, hsl, hrq⟩ : ∃ aq : Option Addr, (∀ W, (Instr.slice 28 (.slice ao b.length cap) (some (.int .i64 (p : Int))) none none).run Tryd.prog W = .ok (.slice aq (b.length - p) (cap - p)) W) ∧ Rd eU8 wr (.slice aq (b.length - p) (cap - p)) (b.drop p) :=
            ⟨_, slice_from ao b.length cap p hpl, (HRD.out.only HD.out.only).sliced p p (by simp [eInt]) hpl⟩
          have HSL := Lib.hid hrq
          clear hrq
          have hi0 : (0 : Int) ≤ (p : Int) := by omega
          have hi1 : (p : Int) ≤ (b.length : Int) := by omega
          have hi2 : (p : Int) ≤ (cap : Int) := by omega
          clear hgt
          go_wp2_with fail
          refine (HGC.out _ _ HSL.out).mono ?_
          rintro en wx ⟨rfl, rfl⟩
          clear HSL HGC
          by_cases hz : eg = 0
          · subst hz
            obtain ⟨n0, n1, rfl, hl, _⟩ := hback rfl
            have hwn := hwide rfl
            generalize (leb1 n).length = wn at *
            have hl2 : p + wn ≤ b.length := by simp at hl; omega
            have hwn2 : 1 ≤ wn := by first | omega | (simp at hwn; omega)
            clear hback hwide hl hwn
            have hgt := HGT.out
            go_wp2_with fail
            refine (bound_any s n ms _ wr (by omega) ⟨n0, n1⟩ HD.out.maps.rd).mono ?_
            rintro en wx ⟨rfl, rfl⟩
            by_cases hb : boundP s n ms = 0
            · rw [hb]
              have HER := Lib.hid hb
              rcases HR.out with ⟨rfl, rfl, rfl, hp3, R⟩ | ⟨rfl, rfl, k, hmk, R⟩ | ⟨rfl, rfl, R⟩ | ⟨rfl, k, hck, R⟩ | ⟨rfl, k, op, hck, rfl, R⟩ | ⟨rfl, k, op, d, hck, rfl, R⟩ | ⟨rfl, k, op, d, a0, hck, rfl, R⟩ | ⟨rfl, k, op, d, a0, x, hck, rfl, R⟩ | ⟨h11, R⟩
              · skip
                have h4 : ¬ 4 < n := (bound_ok hb).1 rfl
                have hw : IntKind.i64.wrap n = n := by rw [IntKind.wrap_i64]; omega
                have HS := Lib.hid (fun a cc (ha : a = n) => step3 (cd := cd) (a := a) (cc := cc) (fr := fr) (c := c) hp3 R hgt h4 n0 ha)
                have hlm : ((([] : List Int).length : Nat) : Int) = 0 := by simp
                clear R hb HER
                go_wp2_with fail
                refine (next_any 3 _ _ _ (by omega)).mono ?_
                rintro en wx ⟨rfl, rfl⟩
                go_wp2_with fail
                go_roundw
                case rel => exact ⟨p + wn, fr, _, n, cd, c, [], [], _, _, by go_num, rfl, rfl, rfl, rfl, hl2, by omega, by omega, by simp, by simp, by rw [next3]; split <;> omega, HI, HD, Lib.hid (HS.out _ _ (by first | rfl | simp))⟩
                case measure => simp [intOf]; omega
              · skip
                obtain ⟨h3, hnin⟩ := (bound_ok hb).2.1 rfl
                have hw : IntKind.i64.wrap n = n := by rw [IntKind.wrap_i64]; omega
                have HS := Lib.hid (fun a cc (ha : a = mp - ((ms.length : Int) + 1)) => step4 (cd := cd) (a := a) (cc := cc) (fr := fr) (c := c) hmk R hgt h3 hnin ha)
                have HD4 := Lib.hid (HD.out.fresh (Only.alloc _ wr (.cells #[.int .i64 n] 3)))
                have HRL := Lib.hid (Rd.lit (E := eInt .i64) wr #[.int .i64 n] 3 (0, 0) 1 1 [n] rfl rfl (by simp) (by simp [maxLen]))
                have hml3 : ms.length ≤ 3 := by omega
                clear R hb HER hmk
                go_wp2_with (at_builtin; refine wl_appendS (E := eInt .i64) rfl _ (.tmp 74) _ rfl 3 8 sliceInt (fun k => (Value.slice am ms.length cm).ownBlock = some k) _ ms rfl ⟨HD4.out.maps.1, fun k h => h⟩ _ [n] rfl HRL.out (by simp only [List.length_cons, List.length_nil]; omega) (by unfold maxLen; simp only [List.length_cons, List.length_nil]; omega) ?_)
                intro v5 w5 h5 hO5
                have h6 := OwS.framed.mono _ (fun k => (Value.slice am ms.length cm).ownBlock = some k ∨ (wr.alloc (.cells #[.int .i64 n] 3)).heap.size ≤ k) _ h5 (fun k _ h => h.elim .inl fun h => .inr (by simpa using h))
                have HDp := Lib.hid (HD4.out.pushM HG.out h6 hO5)
                have hm5 := hO5.heap HD4.out.mod (row_ne HD4.out.mod HD4.out.maps.1 (by decide))
                have hfz : ∀ i, w5.frozen? ⟨gm, i, none⟩ = false := fun i => blk_free hm5 i
                have e0 := cells_of_heap hm5 0 _ rfl
                have e1 := cells_of_heap hm5 1 _ rfl
                obtain ⟨_, ao5, c5, hv5, _⟩ := id h5.1
                have hl5 : (ms ++ [n]).length = ms.length + 1 := by simp
                rw [hl5] at hv5
                subst hv5
                clear h5 h6 hO5 hm5 HRL c0 c1 hml2 HD4
                go_wp2_with fail
                refine (next_any 4 _ _ _ (by omega)).mono ?_
                rintro en wx ⟨rfl, rfl⟩
                go_wp2_with fail
                go_roundw
                case rel => exact ⟨p + wn, fr, _, mp, cd, c, ms ++ [n], [], _, _, by go_num, rfl, rfl, rfl, rfl, hl2, by omega, by omega, by rw [hl5]; omega, by simp, by rw [next4]; split <;> omega, HI, HDp, Lib.hid (HS.out _ _ (by first | rfl | simp))⟩
                case measure => simp [intOf]; omega
              · skip
                obtain ⟨h3, hn0⟩ := (bound_ok hb).2.2.1 rfl
                have hw : IntKind.i64.wrap n = n := by rw [IntKind.wrap_i64]; omega
                have HS := Lib.hid (fun a cc => step5 (mp := mp) (a := a) (cc := cc) (fr := fr) (c := c) R hgt h3 hn0 n0)
                clear R hb HER
                go_wp2_with fail
                refine (next_any 5 _ _ _ (by omega)).mono ?_
                rintro en wx ⟨rfl, rfl⟩
                go_wp2_with fail
                go_roundw
                case rel => exact ⟨p + wn, fr, _, mp, n, c, ms, [], _, _, by go_num, rfl, rfl, rfl, rfl, hl2, by omega, by omega, by omega, by simp, by unfold nextP; simp, HI, HD, Lib.hid (HS.out _ _)⟩
                case measure => simp [intOf]; omega
              · skip
                have h3 := (bound_ok hb).2.2.2.1 rfl
                have hw : IntKind.i64.wrap n = n := by rw [IntKind.wrap_i64]; omega
                have HS := Lib.hid (fun a cc => step6 (mp := mp) (a := a) (cc := cc) hck R hgt h3)
                have HDs := Lib.hid (HD.out.inst (c' := (n, 0, 0, 0, 0)) HG.out (only_setRow wr gc _) (setRow_heap wr gc _ #[.int .i64 n, .int .i64 0, .int .i64 0, .int .i64 0, .int .i64 0] _ _ HD.out.ins))
                have s0 : (wr.setRow gc #[.int .i64 n, .int .i64 0, .int .i64 0, .int .i64 0, .int .i64 0]).cell? ⟨gm, 0, none⟩ = some (.slice am ms.length cm) := cells_of_heap HDs.out.mod 0 _ rfl
                have s1 : (wr.setRow gc #[.int .i64 n, .int .i64 0, .int .i64 0, .int .i64 0, .int .i64 0]).cell? ⟨gm, 1, none⟩ = some (.slice ac cs.length cc) := cells_of_heap HDs.out.mod 1 _ rfl
                clear R hb HER hck
                go_wp2_with (refine wpList_store_row rfl 44 (.tmp 6) (.tmp 86) rfl gc _ rfl rfl 44 _ HD.out.ins (by kernel_rfl) rfl (inst_one _ _ _ _ _) ?_)
                refine (next_any 6 _ _ _ (by omega)).mono ?_
                rintro en wx ⟨rfl, rfl⟩
                go_wp2_with fail
                go_roundw
                case rel => exact ⟨p + wn, p, _, mp, cd, (n, 0, 0, 0, 0), ms, cs, _, _, by go_num, rfl, rfl, rfl, rfl, hl2, by omega, by omega, by omega, by omega, by unfold nextP; simp, HI, HDs, Lib.hid (HS.out _ _)⟩
                case measure => simp [intOf]; omega
              · skip
                have h3 := (bound_ok hb).2.2.2.2 (by decide) (by decide)
                have hw : IntKind.i64.wrap n = n := by rw [IntKind.wrap_i64]; omega
                have HS := Lib.hid (fun a cc => step7 (mp := mp) (a := a) (cc := cc) hck R hgt h3)
                have hfz : ∀ i, wr.frozen? ⟨gc, i, none⟩ = false := fun i => blk_free HD.out.ins i
                have e1 := cells_of_heap HD.out.ins 1 _ rfl
                have HDs := Lib.hid (HD.out.inst (c' := (op, n, 0, 0, 0)) (wr' := wr.setCell ⟨gc, 1, none⟩ (.int .i64 n)) HG.out (Only.setCell _ wr gc 1 _ rfl) (blk_set HD.out.ins 1 _))
                have hcl := heap_lt HD.out.ins
                have hmc : ¬ gm = gc := HG.out.nmc
                have hcm : ¬ gc = gm := fun h => hmc h.symm
                clear R hb HER hck
                go_wp2_with fail
                refine (next_any 7 _ _ _ (by omega)).mono ?_
                rintro en wx ⟨rfl, rfl⟩
                go_wp2_with fail
                go_roundw
                case rel => exact ⟨p + wn, fr, _, mp, cd, (op, n, 0, 0, 0), ms, cs, _, _, by go_num, rfl, rfl, rfl, rfl, hl2, by omega, by omega, by omega, by omega, by unfold nextP; simp, HI, HDs, Lib.hid (HS.out _ _)⟩
                case measure => simp [intOf]; omega
              · skip
                have h3 := (bound_ok hb).2.2.2.2 (by decide) (by decide)
                have hw : IntKind.i64.wrap n = n := by rw [IntKind.wrap_i64]; omega
                have HS := Lib.hid (fun a cc => step8 (mp := mp) (a := a) (cc := cc) hck R hgt h3)
                have hfz : ∀ i, wr.frozen? ⟨gc, i, none⟩ = false := fun i => blk_free HD.out.ins i
                have e1 := cells_of_heap HD.out.ins 2 _ rfl
                have HDs := Lib.hid (HD.out.inst (c' := (op, d, n, 0, 0)) (wr' := wr.setCell ⟨gc, 2, none⟩ (.int .i64 n)) HG.out (Only.setCell _ wr gc 2 _ rfl) (blk_set HD.out.ins 2 _))
                have hcl := heap_lt HD.out.ins
                have hmc : ¬ gm = gc := HG.out.nmc
                have hcm : ¬ gc = gm := fun h => hmc h.symm
                clear R hb HER hck
                go_wp2_with fail
                refine (next_any 8 _ _ _ (by omega)).mono ?_
                rintro en wx ⟨rfl, rfl⟩
                go_wp2_with fail
                go_roundw
                case rel => exact ⟨p + wn, fr, _, mp, cd, (op, d, n, 0, 0), ms, cs, _, _, by go_num, rfl, rfl, rfl, rfl, hl2, by omega, by omega, by omega, by omega, by unfold nextP; simp, HI, HDs, Lib.hid (HS.out _ _)⟩
                case measure => simp [intOf]; omega
              · skip
                have h3 := (bound_ok hb).2.2.2.2 (by decide) (by decide)
                have hw : IntKind.i64.wrap n = n := by rw [IntKind.wrap_i64]; omega
                have HS := Lib.hid (fun a cc => step9 (mp := mp) (a := a) (cc := cc) hck R hgt h3)
                have hfz : ∀ i, wr.frozen? ⟨gc, i, none⟩ = false := fun i => blk_free HD.out.ins i
                have e1 := cells_of_heap HD.out.ins 3 _ rfl
                have HDs := Lib.hid (HD.out.inst (c' := (op, d, a0, n, 0)) (wr' := wr.setCell ⟨gc, 3, none⟩ (.int .i64 n)) HG.out (Only.setCell _ wr gc 3 _ rfl) (blk_set HD.out.ins 3 _))
                have hcl := heap_lt HD.out.ins
                have hmc : ¬ gm = gc := HG.out.nmc
                have hcm : ¬ gc = gm := fun h => hmc h.symm
                clear R hb HER hck
                go_wp2_with fail
                refine (next_any 9 _ _ _ (by omega)).mono ?_
                rintro en wx ⟨rfl, rfl⟩
                go_wp2_with fail
                go_roundw
                case rel => exact ⟨p + wn, fr, _, mp, cd, (op, d, a0, n, 0), ms, cs, _, _, by go_num, rfl, rfl, rfl, rfl, hl2, by omega, by omega, by omega, by omega, by unfold nextP; simp, HI, HDs, Lib.hid (HS.out _ _)⟩
                case measure => simp [intOf]; omega
              · skip
                have hfz : ∀ i, wr.frozen? ⟨gc, i, none⟩ = false := fun i => blk_free HD.out.ins i
                have HRT := Lib.hid (fun i W => refRight_any i W)
                have f0 := cells_of_heap HD.out.ins 0 _ rfl
                have f1 := cells_of_heap HD.out.ins 1 _ rfl
                have f2 := cells_of_heap HD.out.ins 2 _ rfl
                have f3 := cells_of_heap HD.out.ins 3 _ rfl
                have f4 := cells_of_heap HD.out.ins 4 _ rfl
                have HDs := Lib.hid (HD.out.inst (c' := (op, d, a0, x, unzz n)) (wr' := wr.setCell ⟨gc, 4, none⟩ (.int .i64 (unzz n))) HG.out (Only.setCell _ wr gc 4 _ rfl) (blk_set HD.out.ins 4 _))
                have hcl := heap_lt HD.out.ins
                have him := unzz_range n ⟨n0, n1⟩
                have HU := Lib.hid (fun h => step10_no R hgt h)
                have HS := Lib.hid (fun h a cc c (hcc : cc = cd - ((cs.length : Int) + 1)) => step10 (mp := mp) (a := a) (cc := cc) (c := c) hck R hgt h hcc)
                have hcs63 : cs.length ≤ 63 := by omega
                clear R hb HER hck
                go_wp2_with fail
                refine (back_any n _ n0 n1).mono ?_
                rintro en wx ⟨rfl, rfl⟩
                generalize unzz n = im at *
                go_wp2_with fail
                have HDt := HRT.out ⟨op, d, a0, x, im⟩ (wr.setCell ⟨gc, 4, none⟩ (.int .i64 im))
                rw [← right_eq] at HDt
                refine HDt.mono ?_
                rintro en w5 ⟨rfl, hO5⟩
                have HD5 := Lib.hid (HDs.out.fresh hO5)
                clear hO5 HDt HRT f0 f1 f2 f3 f4 hfz c0 c1 hcl hml2 HDs
                cases hr : rightP ⟨op, d, a0, x, im⟩
                · have HT := Lib.hid (HU.out hr)
                  clear HU HS hr
                  go_wp2_with (refine wpList_store_row rfl 25 (.tmp 2) (.tmp 110) rfl g2 _ rfl rfl 25 _ HD5.out.res (by kernel_rfl) rfl (by simp [Value.oneCell']) ?_)
                  refine bodyPost_ret (results_cell_row_tmp2 rfl _ _ g2 _ _ _ _ rfl (setRow_heap _ _ _ _ _ _ HD5.out.res) Tryd.underlying25 rfl (by kernel_rfl)) rfl ?_
                  exact ⟨HD5.out.only.trans (only_setRow _ g2 _) fun k hk e => by have := HG.out.l2; omega, .inr ⟨_, _, HT.out, rfl⟩⟩
                · have HS2 := Lib.hid (HS.out hr)
                  clear HU HS hr
                  have c1 := cells_of_heap HD5.out.mod 1 _ rfl
                  have f0 := cells_of_heap HD5.out.ins 0 _ rfl
                  have f1 := cells_of_heap HD5.out.ins 1 _ rfl
                  have f2 := cells_of_heap HD5.out.ins 2 _ rfl
                  have f3 := cells_of_heap HD5.out.ins 3 _ rfl
                  have f4 := cells_of_heap HD5.out.ins 4 _ rfl
                  have hml5 := heap_lt HD5.out.mod
                  have HD6 := Lib.hid (HD5.out.fresh (Only.alloc _ w5 (.cells #[.int .i64 op, .int .i64 d, .int .i64 a0, .int .i64 x, .int .i64 im] 44)))
                  have HRL := Lib.hid (Rd.lit (E := eInst) w5 #[.int .i64 op, .int .i64 d, .int .i64 a0, .int .i64 x, .int .i64 im] 44 (0, 0) 1 1 [((op, d, a0, x, im) : InstD)] rfl rfl (by simp) (by simp [maxLen]))
                  have hcs : cs.length ≤ 63 := hcs63
                  go_wp2_with (at_builtin; refine wl_appendS (E := eInst) rfl _ (.tmp 115) _ rfl 44 40 eInst_slice (fun k => (Value.slice ac cs.length cc).ownBlock = some k) _ cs rfl ⟨HD6.out.code.1, fun k h => h⟩ _ [((op, d, a0, x, im) : InstD)] rfl HRL.out (by simp only [List.length_cons, List.length_nil]; omega) (by unfold maxLen; simp only [List.length_cons, List.length_nil]; omega) ?_)
                  intro v7 w7 h7 hO7
                  have h6 := OwS.framed.mono _ (fun k => (Value.slice ac cs.length cc).ownBlock = some k ∨ (w5.alloc (.cells #[.int .i64 op, .int .i64 d, .int .i64 a0, .int .i64 x, .int .i64 im] 44)).heap.size ≤ k) _ h7 (fun k _ h => h.elim .inl fun h => .inr (by simpa using h))
                  have HDp := Lib.hid (HD6.out.pushC HG.out h6 hO7)
                  have hm7 := hO7.heap HD6.out.mod (row_ne HD6.out.mod HD6.out.code.1 (by decide))
                  have hfz : ∀ i, w7.frozen? ⟨gm, i, none⟩ = false := fun i => blk_free hm7 i
                  have e0 := cells_of_heap hm7 0 _ rfl
                  have e1 := cells_of_heap hm7 1 _ rfl
                  obtain ⟨_, ao7, c7, hv7, _⟩ := id h7.1
                  have hl7 : (cs ++ [((op, d, a0, x, im) : InstD)]).length = cs.length + 1 := by simp
                  rw [hl7] at hv7
                  subst hv7
                  clear h6 h7 hO7 hm7 HRL c1 f0 f1 f2 f3 f4 hml5 HD6 HD5
                  go_wp2_with fail
                  refine (next_any 10 _ _ _ (by omega)).mono ?_
                  rintro en wx ⟨rfl, rfl⟩
                  go_wp2_with fail
                  go_roundw
                  case rel => exact ⟨p + wn, fr, _, mp, cd, _, ms, _, _, _, by go_num, rfl, rfl, rfl, rfl, hl2, by omega, by omega, by omega, by rw [hl7]; omega, by rw [next10]; split <;> omega, Lib.hid (fun h j hj => by
                      rcases List.mem_append.1 hj with hj | hj
                      · exact HI.out rfl j hj
                      · obtain rfl : j = (op, d, a0, x, im) := by simpa using hj
                        exact him), HDp, Lib.hid (HS2.out _ _ _ (by first | rfl | simp))⟩
                  case measure => simp [intOf]; omega
              · omega
            · have HT := Lib.hid (rinv_bound HR.out (by omega) hgt hb)
              have hq : (boundP s n ms != 0) = true := by rw [bne_iff_ne]; exact hb
              generalize boundP s n ms = er at *
              go_wp2_with (refine wpList_store_row rfl 25 (.tmp 2) (.tmp 60) rfl g2 _ rfl rfl 25 _ HD.out.res (by kernel_rfl) rfl (by simp [Value.oneCell']) ?_)
              refine bodyPost_ret (results_cell_row_tmp2 rfl _ _ g2 _ _ _ _ rfl (setRow_heap _ _ _ _ _ _ HD.out.res) Tryd.underlying25 rfl (by kernel_rfl)) rfl ?_
              exact ⟨HD.out.only.trans (only_setRow _ g2 _) fun k hk e => by have := HG.out.l2; omega, .inr ⟨_, _, HT.out, rfl⟩⟩
          · have HT := Lib.hid (rinv_short HR.out (by omega) HGT.out hz)
            have hq : (eg != 0) = true := by rw [bne_iff_ne]; exact hz
            clear hback hwide
            go_wp2_with (refine wpList_store_row rfl 25 (.tmp 2) (.tmp 50) rfl g2 _ rfl rfl 25 _ HD.out.res (by kernel_rfl) rfl (by simp [Value.oneCell']) ?_)
            refine bodyPost_ret (results_cell_row_tmp2 rfl _ _ g2 _ _ _ _ rfl (setRow_heap _ _ _ _ _ _ HD.out.res) Tryd.underlying25 rfl (by kernel_rfl)) rfl ?_
            exact ⟨HD.out.only.trans (only_setRow _ g2 _) fun k hk e => by have := HG.out.l2; omega, .inr ⟨_, _, HT.out, rfl⟩⟩
        · have HE := Lib.hid (rinv_end HR.out hs)
          by_cases hlt : p < b.length
          · have HT := Lib.hid (show decP b = .bad p 13 by rw [HE.out]; unfold trailP; rw [if_pos hlt])
            have hi1 : (p : Int) < (b.length : Int) := by omega
            go_wp2_with (refine wpList_store_row rfl 25 (.tmp 2) (.tmp 137) rfl g2 _ rfl rfl 25 _ HD.out.res (by kernel_rfl) rfl (by simp [Value.oneCell']) ?_)
            refine bodyPost_ret (results_cell_row_tmp2 rfl _ _ g2 _ _ _ _ rfl (setRow_heap _ _ _ _ _ _ HD.out.res) Tryd.underlying25 rfl (by kernel_rfl)) rfl ?_
            exact ⟨HD.out.only.trans (only_setRow _ g2 _) fun k hk e => by have := HG.out.l2; omega, .inr ⟨_, _, HT.out, rfl⟩⟩
          · have HT := Lib.hid (show decP b = .ok ms cs by rw [HE.out]; unfold trailP; rw [if_neg hlt])
            have hi1 : ¬ (p : Int) < (b.length : Int) := by omega
            go_wp2_with (refine wpList_store_row rfl 25 (.tmp 2) (.tmp 139) rfl g2 _ rfl rfl 25 _ HD.out.res (by kernel_rfl) rfl (by simp [Value.oneCell']) ?_)
            refine bodyPost_ret (results_cell_row_tmp2 rfl _ _ g2 _ _ _ _ rfl (setRow_heap _ _ _ _ _ _ HD.out.res) Tryd.underlying25 rfl (by kernel_rfl)) rfl ?_
            refine ⟨HD.out.only.trans (only_setRow _ g2 _) fun k hk e => by have := HG.out.l2; omega, .inl ⟨ms, cs, _, _, HT.out, HI.out rfl, rfl, ?_, ?_⟩⟩
            · exact HD.out.maps.keepT (only_setRow _ g2 _) fun k hk e => row_ne HD.out.res HD.out.maps.1 (by decide) (by rw [hk, e])
            · exact HD.out.code.keepT (only_setRow _ g2 _) fun k hk e => row_ne HD.out.res HD.out.code.1 (by decide) (by rw [hk, e])
end Go.Proofs.YtkocfgaajghggaaDoor
