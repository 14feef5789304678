/- lru: the document's Do. -/
import Derived.Test.YtodacnpbhlkoiaaLruRefT
import Derived.Deep.RegionLaw
import Derived.Deep.RegionHeld3
import Derived.Deep.DeepCutAuto
import Derived.Deep.CutBlock
import Derived.StillTailTactics
namespace Go.Proofs.Ytodacnpbhlkoiaa
open Go.RowKit
set_option linter.unusedVariables false
set_option linter.unusedSimpArgs false

theorem res_field1 (x0 x2 x4 x5 : Int) (x1 x3 : Bool) (w : World) : (Instr.field 35 (.agg #[.int .i64 x0, .bool x1, .int .u64 x2, .bool x3, .int .u64 x4, .int .u64 x5]) 1).run Try.prog w = .ok (.bool x1) w := by kernel_rfl
theorem res_field2 (x0 x2 x4 x5 : Int) (x1 x3 : Bool) (w : World) : (Instr.field 35 (.agg #[.int .i64 x0, .bool x1, .int .u64 x2, .bool x3, .int .u64 x4, .int .u64 x5]) 2).run Try.prog w = .ok (.int .u64 x2) w := by kernel_rfl

theorem RefP.len_le {rg bx : Nat} {cap : Int} {ps : List (Int × Int)} {clk : Int} {xs : List PairD} {T : Nat → Prop} {w : World} (hT : RefP rg bx cap ps clk xs T w) : Good cap xs := by
  obtain ⟨A, B, _, _, _, _, L, hA, _⟩ := hT
  exact hA.good

theorem ref_fin {rg bx : Nat} {cap : Int} {ps : List (Int × Int)} {clk : Int} {xs : List PairD} {S : Nat → Prop} {w w1 : World} {L : List (Nat × Obj)} (h : Upd (Sep (RefP rg bx cap ps clk xs) (Locs L)) S w w1) {k : Nat} {o : Obj} (hk : (k, o) ∈ L) (cs : Array Value) : Upd (RefP rg bx cap ps clk xs) S w (w1.setRow k cs) :=
  (h.locs RefP.framed (M := []) ((only_setRow w1 k cs).mono fun j _ e => ⟨_, hk, e.symm⟩) (fun p hp => by simp at hp)).drop RefP.framed
set_option maxRecDepth 100000 in
set_option maxHeartbeats 40000000 in
theorem refLru_do (rg bx : Nat) (cap : Int) (s : List PairD × List Int) (ps : List (Int × Int)) (clk : Int) (S : Nat → Prop) (op key val : Int) (w : World) (H : RefP rg bx cap ps clk s.1 S w) (HRA : RA s.2 ps clk) (G : LGood cap s) (hclk : 0 ≤ clk) (hclk2 : clk < 4611686018427387904) :
    Calls Try.prog 20 #[.pointer (some ⟨rg, 0, none⟩), .int .i64 op, .int .u64 key, .int .u64 val] w fun e w' => e = .returned (ResD.val (lruP cap s op key val).1) ∧ ∃ ps' clk', (RA (lruP cap s op key val).2.2 ps' clk' ∧ 0 ≤ clk' ∧ clk' ≤ clk + 1) ∧ Upd (RefP rg bx cap ps' clk' (lruP cap s op key val).2.1) S w w' := by
  obtain ⟨vk, vw, vl, ⟨_, hv⟩, m0, m1, _⟩ := H.cells
  obtain ⟨q0, q1, q2, q3, qf, hgl⟩ := hv.cells
  have HU := Lib.hid ((Upd.start RefP.framed H).loc RefP.framed (resO 0 false 0 false 0 0))
  have HG := Lib.hid G
  have HA := Lib.hid HRA
  have HB := Lib.hid (show doP cap s.1 1 key 0 = ((0, hasP s.1 key, 0, false, 0, 0), s.1) from rfl)
  have hfl := res_field1 0 0 0 0 (hasP s.1 key) false
  clear H G HRA hv qf m0 m1
  go_enter Try.func20, Try.ntmps20
  go_wp2_with fail
  refine (HU.out.via Locs.framed RefP.framed fun A hA => hA.do_ HB.out).mono ?_
  rintro e w1 ⟨rfl, hU1⟩
  have HU2 := Lib.hid (hU1.loc RefP.framed (resO 0 false 0 false 0 0))
  obtain ⟨t10, ht10⟩ : ∃ t10, t10 = w1.heap.size := ⟨_, rfl⟩
  have h8 := heap_lt (hU1.get (g := w.heap.size) (List.mem_cons_self ..))
  clear HU hU1 q0 q1 q2 q3
  dsimp only
  generalize hhas : hasP s.1 key = had at *
  have HH := Lib.hid hhas
  clear hhas
  go_upto_region 3 with (fail)
  rw [← ht10] at HU2 h8 ⊢
  clear ht10
  generalize World.alloc w1 _ = w2 at *
  obtain ⟨vk2, vw2, vl2, ⟨_, hv⟩, m0, m1, ⟨la, lc, rfl⟩, hbl⟩ := (HU2.out.1.left RefP.framed).cells
  obtain ⟨q0, q1, q2, q3, qf, hgl2⟩ := hv.cells
  have HIF := Lib.hid (show isFull cap s.1 op key = ((decide (op = 2) || decide (op = 4)) && (!had && decide ((s.1.length : Int) = cap))) by unfold isFull full; rw [HH.out])
  clear hv qf
  go_cut [48] (fun t48 wc => t48 = .bool (isFull cap s.1 op key) ∧ Hid (Upd (Sep (RefP rg bx cap ps clk s.1) (Locs [(t10, resO 0 false 0 false 0 0), (w.heap.size, resO 0 false 0 false 0 0)])) S w wc))
  case first =>
    by_cases hop : op = 2 ∨ op = 4
    · rcases hop with rfl | rfl
      all_goals
        cases had
        · by_cases hl : (s.1.length : Int) = cap
          · have hb : ((s.1.length : Int) == cap) = true := by simpa using hl
            have HI2 := Lib.hid (show isFull cap s.1 _ key = true from by rw [HIF.out]; simp [hl])
            clear hl
            go_quiet (fail)
            all_goals go_wp2_with fail
            all_goals go_meet
            case rel => exact ⟨by rw [HI2.out], Lib.hid (HU2.out.fresh (Sep.framed RefP.framed Locs.framed) ((Only.refl _ _).drewN _))⟩
          · have hb : ((s.1.length : Int) == cap) = false := by simpa using hl
            have HI2 := Lib.hid (show isFull cap s.1 _ key = false from by rw [HIF.out]; simp [hl])
            clear hl
            go_quiet (fail)
            all_goals go_wp2_with fail
            all_goals go_meet
            case rel => exact ⟨by rw [HI2.out], Lib.hid (HU2.out.fresh (Sep.framed RefP.framed Locs.framed) ((Only.refl _ _).drewN _))⟩
        · have HI2 := Lib.hid (show isFull cap s.1 _ key = false from by rw [HIF.out]; simp)
          go_quiet (fail)
          all_goals go_wp2_with fail
          all_goals go_meet
          case rel => exact ⟨by rw [HI2.out], Lib.hid (HU2.out.fresh (Sep.framed RefP.framed Locs.framed) ((Only.refl _ _).drewN _))⟩
    · have h2 : (op == 2) = false := by simp; omega
      have h4 : (op == 4) = false := by simp; omega
      have HI2 := Lib.hid (show isFull cap s.1 _ key = false from by rw [HIF.out]; have a : ¬ op = 2 := (by omega); have b : ¬ op = 4 := (by omega); simp [a, b])
      clear hop
      go_quiet (fail)
      all_goals go_wp2_with fail
      all_goals go_meet
      case rel => exact ⟨by rw [HI2.out], Lib.hid (HU2.out.fresh (Sep.framed RefP.framed Locs.framed) ((Only.refl _ _).drewN _))⟩
  case rest =>
    obtain ⟨rfl, HU3⟩ := hcut
    clear HU2 m0 m1 q0 q1 q2 q3 HIF hfl HB
    generalize hFF : isFull cap s.1 op key = fl at *
    have HFF := Lib.hid hFF
    clear hFF
    go_upto_if 48 with (fail)
    go_cut [11, 12] (fun _ _ wc => ∃ (x3 : Bool) (x4 x5 : Int) (ps1 : List (Int × Int)) (xs1 : List PairD), Hid ((x3, x4, x5, ps1, xs1) = if fl then (true, lastP s.2, oldP s.1 (lastP s.2), forgetP ps (lastP s.2), delP s.1 (lastP s.2)) else (false, 0, 0, ps, s.1)) ∧ Hid (Upd (Sep (RefP rg bx cap ps1 clk xs1) (Locs [(t10, resO 0 false 0 x3 x4 x5), (w.heap.size, resO 0 false 0 false 0 0)])) S w wc))
    case first =>
      cases fl
      · go_wp2_with fail
        go_meet
        case rel => exact ⟨false, 0, 0, ps, s.1, Lib.hid rfl, HU3⟩
      · have hF := HFF.out
        obtain ⟨hd1, h0, hlh, hd2, hg2, hnk, hnf, hd3⟩ := evict_do (v := val) HG.out hF
        have HD2 := Lib.hid (show doP cap s.1 3 (lastP s.2) 0 = ((0, true, oldP s.1 (lastP s.2), false, 0, 0), delP s.1 (lastP s.2)) from hd2)
        obtain ⟨hp0, hpl⟩ := HA.out.last h0
        have HPL := Lib.hid hpl
        have HMIN := Lib.hid HA.out.min
        have h16 : ps.length ≤ 16 := by have := HA.out.len; have := HG.out.len; have := HG.out.good.len; have := HG.out.good.hi; omega
        clear hd1 h0 hlh hd2 hg2 hnk hnf hd3 hF hpl
        go_wp2_with fail
        go_loopw [11, 12] (fun t11 t12 wr => ∃ i : Nat, i ≤ ps.length ∧ t12 = .int .i64 i ∧ t11 = .int .i64 0 ∧ Hid (Upd (Sep (RefP rg bx cap ps clk s.1) (Locs [(t10, resO 0 false 0 false 0 0), (w.heap.size, resO 0 false 0 false 0 0)])) S w wr)) (fun _ t12 _ => ps.length - (intOf t12).toNat)
        case atStart => exact ⟨0, Nat.zero_le _, rfl, rfl, HU3⟩
        case round =>
          clear HU3
          obtain ⟨i, hi, rfl, rfl, HQ⟩ := hrel
          obtain ⟨vk, vw, vl, ⟨_, hv⟩, m0, m1, ⟨la, lc, rfl⟩, hbl⟩ := (HQ.out.1.left RefP.framed).cells
          obtain ⟨q0, q1, q2, q3, qf, hgl2⟩ := hv.cells
          obtain ⟨_, ak, ck, rfl, _, _, hxk⟩ := hv.2.1.rd
          obtain ⟨_, aw, cw, rfl, _, _, hxw⟩ := hv.2.2.1.rd
          rw [map_len1] at q1 hxk
          rw [map_len2] at q2 hxw
          obtain ⟨wb, wo, rfl, hcw⟩ := hxw hp0
          obtain ⟨kb, ko, rfl, hck⟩ := hxk hp0
          have HKB := Lib.hid (fun (o : Array Value) (h : wr.heap[t10]? = some (.cells o 35 (0, 0))) => row_ne h hv.2.1.1 (by decide))
          clear hv qf hxk hxw m0 m1
          by_cases hil : i < ps.length
          · have f1 := hcw i _ (eI64_at _ i (by rw [map_len2]; exact hil))
            have f0 := hcw 0 _ (eI64_at _ 0 (by rw [map_len2]; exact hp0))
            rw [List.getElem_map] at f0 f1
            rw [Nat.add_zero] at f0
            have hlt := HMIN.out i hil
            have hm0 : (0 : Int) ≤ (i : Int) := by omega
            have hm1 : (i : Int) < (ps.length : Int) := by omega
            have hm2 : (0 : Int) < (ps.length : Int) := by omega
            have hm3 : 0 < ps.length := hp0
            clear hcw hck
            generalize ps[i].2 = pi at *
            generalize ps[0].2 = pz at *
            have hdl : decide (pi < pz) = false := decide_eq_false (by omega)
            clear hlt
            go_wp2_with fail
            go_quiet (fail)
            all_goals go_wp2_with fail
            go_roundw
            case rel => exact ⟨i + 1, by omega, by go_num, rfl, Lib.hid (HQ.out.fresh (Sep.framed RefP.framed Locs.framed) ((Only.refl _ _).drewN _))⟩
            case measure => simp [intOf]; omega
          · obtain rfl : i = ps.length := by omega
            have f0 := hck 0 _ (eU64_at _ 0 (by rw [map_len1]; exact hp0))
            rw [List.getElem_map, HPL.out, Nat.add_zero] at f0
            have h10 := HQ.out.get (g := t10) (List.mem_cons_self ..)
            obtain ⟨_, _, _, y3, y4, y5⟩ := res_cells h10
            have z3 := frozen_of_row wr t10 3 _ _ h10
            have z4 := frozen_of_row wr t10 4 _ _ h10
            have hm0 : (0 : Int) < (ps.length : Int) := by omega
            have hm1 : 0 < ps.length := hp0
            have ht1 : ¬ t10 = rg := by
              intro e
              subst e
              have := HQ.out
              obtain ⟨A, B, hd, hA, hB, hp, hq⟩ := this.1
              obtain ⟨vk, vw, hv⟩ := hp.left RefO.framed
              exact hd _ hv.2.2.2 (hq _ (List.mem_cons_self ..)).2
            have ht2 : ¬ rg = t10 := fun e => ht1 e.symm
            have hk1 : ¬ kb = t10 := fun e => HKB.out _ h10 (by simp [Value.ownBlock, e])
            have hk2 : ¬ t10 = kb := fun e => hk1 e.symm
            have H10 := Lib.hid h10
            clear hcw hck HKB h10
            go_upto_region 12 with (fail)
            have hs1 : ((wr.setCell ⟨t10, 3, none⟩ (.bool true)).setCell ⟨t10, 4, none⟩ (.int .u64 (lastP s.2))).heap[t10]? = some (resO 0 false 0 true (lastP s.2) 0) := blk_set (blk_set H10.out 3 (.bool true)) 4 (.int .u64 (lastP s.2))
            have hU5 := Upd.loc1 (A := []) (B := [_]) RefP.framed HQ.out ((Only.setCell (fun k => k = t10) wr t10 3 (.bool true) rfl).tr (Only.setCell _ _ t10 4 (.int .u64 (lastP s.2)) rfl)) hs1 (fun q hq => by simp at hq; subst hq; dsimp only; omega)
            clear hs1 HQ H10 q0 q1 q2 q3 y3 y4 y5 z3 z4 f0 hk1 hk2
            generalize World.setCell _ _ _ = W5 at *
            have HU5 := Lib.hid hU5
            obtain ⟨vk, vw, vl, ⟨_, hv⟩, _⟩ := (hU5.1.left RefP.framed).cells
            obtain ⟨q0, q1, q2, q3, qf, hgl3⟩ := hv.cells
            have h10 := hU5.get (g := t10) (List.mem_cons_self ..)
            obtain ⟨_, _, _, y3, y4, y5⟩ := res_cells h10
            have hfl := res_field2 0 (oldP s.1 (lastP s.2)) 0 0 true false
            clear hU5 hv qf h10
            go_wp2_with fail
            go_still_tail 6, (by kernel_rfl)
            go_wp2_with fail
            refine ((HU5.out.drewU (Sep.framed RefP.framed Locs.framed)).via Locs.framed RefP.framed fun A hA => hA.do_ HD2.out).mono ?_
            rintro e w6 ⟨rfl, hU6⟩
            have h10 := hU6.get (g := t10) (List.mem_cons_self ..)
            obtain ⟨_, _, _, y3, y4, y5⟩ := res_cells h10
            have z5 := frozen_of_row w6 t10 5 _ _ h10
            have hl10 := heap_lt h10
            have H10 := Lib.hid h10
            have HU6 := Lib.hid hU6
            clear hU6 h10 HU5
            dsimp only
            go_upto_region 13 with (fail)
            have hs1 : (w6.setCell ⟨t10, 5, none⟩ (.int .u64 (oldP s.1 (lastP s.2)))).heap[t10]? = some (resO 0 false 0 true (lastP s.2) (oldP s.1 (lastP s.2))) := blk_set H10.out 5 (.int .u64 _)
            have hU7 := Upd.loc1 (A := []) (B := [_]) RefP.framed HU6.out (Only.setCell (fun k => k = t10) w6 t10 5 (.int .u64 (oldP s.1 (lastP s.2))) rfl) hs1 (fun q hq => by simp at hq; subst hq; dsimp only; omega)
            clear hs1 HU6 H10 y3 y4 y5 z5
            generalize World.setCell _ _ _ = W7 at *
            have HU7 := Lib.hid hU7
            obtain ⟨_, _, _, y3, y4, y5⟩ := res_cells (hU7.get (g := t10) (List.mem_cons_self ..))
            clear hU7
            go_wp2_with fail
            refine (HU7.out.via Locs.framed RefP.framed fun A hA => hA.forget_ (by omega) (lastP s.2)).mono ?_
            rintro e w8 ⟨rfl, hU8⟩
            have HU8 := Lib.hid hU8
            clear hU8 HU7
            go_wp2_with fail
            go_meet
            case rel => exact ⟨true, lastP s.2, oldP s.1 (lastP s.2), forgetP ps (lastP s.2), delP s.1 (lastP s.2), Lib.hid rfl, HU8⟩
    case rest =>
      obtain ⟨x3, x4, x5, ps1, xs1, HX, HU4⟩ := hcut
      obtain ⟨r0, r1, r2, ys, od1, hd, hl, hra, ho16⟩ := ref_law (op := op) (key := key) (val := val) (x3 := x3) (x4 := x4) (x5 := x5) (ps1 := ps1) (xs1 := xs1) HG.out HA.out (by have h := HX.out; rwa [← HFF.out] at h)
      rw [HH.out] at hl
      have HD := Lib.hid hd
      have HL := Lib.hid hl
      have HR := Lib.hid hra
      have hp16 : ps1.length ≤ 16 := by rw [hra.len]; exact ho16
      obtain ⟨vk, vw, vl, ⟨_, hv⟩, _⟩ := (HU4.out.1.left RefP.framed).cells
      obtain ⟨q0, q1, q2, q3, qf, hgl3⟩ := hv.cells
      clear hd hl hra HU3 HX HFF hv qf ho16
      go_wp2_with fail
      refine (HU4.out.via Locs.framed RefP.framed fun A hA => hA.do_ HD.out).mono ?_
      rintro e w5 ⟨rfl, hU5⟩
      have HU5 := Lib.hid (hU5.loc RefP.framed (resO r0 r1 r2 x3 x4 x5))
      obtain ⟨t13, ht13⟩ : ∃ t13, t13 = w5.heap.size := ⟨_, rfl⟩
      have hl10 := heap_lt (hU5.get (g := t10) (List.mem_cons_self ..))
      have y0 := hU5.get (g := t10) (List.mem_cons_self ..)
      obtain ⟨_, _, _, y3, y4, y5⟩ := res_cells y0
      clear hU5 HU4 q0 q1 q2 q3 y0
      dsimp only
      go_upto_region 18 with (fail)
      rw [← ht13] at HU5 hl10 ⊢
      clear ht13 y3 y4 y5
      generalize World.alloc w5 _ = w6 at *
      go_cut [125] (fun t125 wc => t125 = .bool ((decide (op = 2) || decide (op = 4)) || (decide (op = 0) && had)) ∧ wc = w6)
      case first =>
        by_cases h2 : op = 2
        · subst h2
          go_wp2_with fail
          go_meet
          case rel => exact ⟨rfl, rfl⟩
        by_cases h4 : op = 4
        · subst h4
          go_wp2_with fail
          go_meet
          case rel => exact ⟨rfl, rfl⟩
        by_cases h0 : op = 0
        · subst h0
          cases had
          all_goals
            go_wp2_with fail
            go_meet
            case rel => exact ⟨rfl, rfl⟩
        · have b2 : (op == 2) = false := by simpa using h2
          have b4 : (op == 4) = false := by simpa using h4
          have b0 : (op == 0) = false := by simpa using h0
          go_wp2_with fail
          go_meet
          case rel => exact ⟨by simp [h0, h2, h4], rfl⟩
      case rest =>
        obtain ⟨rfl, rfl⟩ := hcut
        generalize htb : ((decide (op = 2) || decide (op = 4)) || (decide (op = 0) && had)) = tb at *
        have HB3 := Lib.hid (show tb = true → (op == 3) = false by
          rw [← htb]
          by_cases h3 : op = 3
          · subst h3; simp
          · intro _; simpa using h3)
        clear htb
        cases tb
        · by_cases h3 : op = 3
          · subst h3
            have HL2 := Lib.hid (show lruP cap s 3 key val = ((r0, r1, r2, x3, x4, x5), (ys, dropK od1 key)) from HL.out)
            clear HL
            go_wp2_with fail
            refine (HU5.out.via Locs.framed RefP.framed fun A hA => hA.forget_ (by omega) key).mono ?_
            rintro e w8 ⟨rfl, hU8⟩
            have H8 := Lib.hid (hU8.get (g := w.heap.size) (List.mem_cons_of_mem _ (List.mem_cons_of_mem _ (List.mem_singleton_self _))))
            obtain ⟨e0, e1, e2, e3, e4, e5⟩ := res_cells (hU8.get (g := t13) (List.mem_cons_self ..))
            have HU8 := Lib.hid hU8
            clear hU8 HU5
            go_wp2_with (refine wpList_store_row rfl 35 (.tmp 8) (.tmp 164) rfl w.heap.size _ rfl rfl 35 _ H8.out (by kernel_rfl) rfl (res_one _ _ _ _ _ _) ?_)
            try simp only [Exit.inBlock, Exit.then]
            refine bodyPost_ret (results_cell_row rfl _ _ w.heap.size _ _ _ _ rfl (setRow_heap _ _ _ _ _ _ H8.out) Try.underlying35 rfl (by kernel_rfl)) rfl ?_
            rw [HL2.out]
            exact ⟨rfl, forgetP ps1 key, clk, ⟨HR.out.forget key, hclk, by omega⟩, ref_fin HU8.out (List.mem_cons_of_mem _ (List.mem_cons_of_mem _ (List.mem_singleton_self _))) _⟩
          · have HL2 := Lib.hid (show lruP cap s op key val = ((r0, r1, r2, x3, x4, x5), (ys, od1)) by rw [HL.out]; simp [h3])
            have b3 : (op == 3) = false := by simpa using h3
            have H8 := Lib.hid (HU5.out.get (g := w.heap.size) (List.mem_cons_of_mem _ (List.mem_cons_of_mem _ (List.mem_singleton_self _))))
            obtain ⟨e0, e1, e2, e3, e4, e5⟩ := res_cells (HU5.out.get (g := t13) (List.mem_cons_self ..))
            clear HL h3
            go_wp2_with (refine wpList_store_row rfl 35 (.tmp 8) (.tmp 164) rfl w.heap.size _ rfl rfl 35 _ H8.out (by kernel_rfl) rfl (res_one _ _ _ _ _ _) ?_)
            try simp only [Exit.inBlock, Exit.then]
            refine bodyPost_ret (results_cell_row rfl _ _ w.heap.size _ _ _ _ rfl (setRow_heap _ _ _ _ _ _ H8.out) Try.underlying35 rfl (by kernel_rfl)) rfl ?_
            rw [HL2.out]
            exact ⟨rfl, ps1, clk, ⟨HR.out, hclk, by omega⟩, ref_fin HU5.out (List.mem_cons_of_mem _ (List.mem_cons_of_mem _ (List.mem_singleton_self _))) _⟩
        · have HL2 := Lib.hid (show lruP cap s op key val = ((r0, r1, r2, x3, x4, x5), (ys, key :: dropK od1 key)) from HL.out)
          clear HL
          go_wp2_with fail
          refine (HU5.out.via Locs.framed RefP.framed fun A hA => hA.forget_ (by omega) key).mono ?_
          rintro e w8 ⟨rfl, hU8⟩
          have hf16 : (forgetP ps1 key).length ≤ 16 := Nat.le_trans (List.length_filter_le _ _) hp16
          obtain ⟨A, vk, vw, hA, hback⟩ := RefP.hole Locs.framed hU8
          obtain ⟨q0, q1, q2, q3, qf, hgl8⟩ := hA.cells
          have z1 := qf 1
          have z2 := qf 2
          have z3 := qf 3
          have HBK := Lib.hid hback
          have HA8 := Lib.hid (Upd.refl RefOw.framed hA)
          have HA9 := Lib.hid (RefOw.tick HA8.out (clk + 1))
          clear hU8 HU5 hA hback qf HA8
          go_upto_region 21 with (fail)
          have HKL := Lib.hid (show ((forgetP ps1 key).map (·.1)).length ≤ 16 ∧ ((forgetP ps1 key).map (·.2)).length ≤ 16 from ⟨by rw [map_len1]; exact hf16, by rw [map_len2]; exact hf16⟩)
          generalize hks : (forgetP ps1 key).map (fun p : Int × Int => p.1) = ks at *
          generalize hws : (forgetP ps1 key).map (fun p : Int × Int => p.2) = ws at *
          have HKS := Lib.hid hks
          have HWS := Lib.hid hws
          clear hks hws q0 q1 q2 q3 z1 z2 z3
          generalize World.setCell _ _ _ = w9 at *
          have hk16 : ks.length ≤ 16 := HKL.out.1
          have hw16 : ws.length ≤ 16 := HKL.out.2
          have h9 := HA9.out.1
          obtain ⟨q0, q1, q2, q3, qf, hgl9⟩ := h9.cells
          have z1 := qf 1
          have HOK : Hid (OwS eU64 28 (fun k => vk.ownBlock = some k) (w9.alloc (.cells #[.int .u64 key] 28)) vk ks) := Lib.hid (OwS.framed.alloc ⟨h9.2.1.1, fun _ h => h⟩ _)
          have HRL := Lib.hid (Rd.lit (E := eU64) w9 #[.int .u64 key] 28 (0, 0) 1 1 [key] rfl rfl (by simp) (by simp [maxLen]))
          obtain ⟨ak, _, ck, rfl⟩ := h9.2.1.shape'
          clear h9 qf
          go_wp2_with (at_builtin; refine wl_appendS (E := eU64) rfl _ (.tmp 142) _ rfl 28 8 eU64_sl _ _ ks rfl HOK.out _ [key] rfl HRL.out (by simp only [List.length_cons, List.length_nil]; omega) (by unfold maxLen; simp only [List.length_cons, List.length_nil]; omega) ?_)
          intro v2 w10 hown2 hO2
          obtain ⟨hr2, hK⟩ := RefOw.keys (v2 := v2) (ks2 := ks ++ [key]) HA9.out (Only.alloc (fun _ => False) w9 (.cells #[.int .u64 key] 28)) (OwS.framed.mono _ _ _ hown2 fun k _ h => h.imp id fun h => by simpa using h) hO2
          have d1 := (blk_cell hr2 1).trans rfl
          have f1 := frozen_of_row w10 rg 1 _ _ hr2
          obtain ⟨a2, n2, c2, rfl⟩ := hown2.shape'
          have HK := Lib.hid hK
          clear hown2 hO2 hr2 hK HOK HRL q0 q1 q2 q3 z1
          go_upto_region 22 with (fail)
          generalize World.setCell _ _ _ = w11 at *
          clear d1 f1
          have h11 := HK.out.1
          obtain ⟨q0, q1, q2, q3, qf, hgl11⟩ := h11.cells
          have z2 := qf 2
          have hvg : vw.ownBlock ≠ some rg := row_ne h11.1 h11.2.2.1.1 (by decide)
          have HOW : Hid (OwS eI64 3 (fun k => vw.ownBlock = some k) w11 vw ws) := Lib.hid ⟨h11.2.2.1.1, fun _ h => h⟩
          have hoS := HOW.out
          have hrd : Rd eI64 (w11.alloc (.cells #[.int .i64 (clk + 1)] 3)) (.slice (some ⟨w11.heap.size, 0, none⟩) 1 1) [clk + 1] := Rd.lit w11 #[.int .i64 (clk + 1)] 3 (0, 0) 1 1 [clk + 1] rfl rfl (Nat.le_refl _) (by decide)
          have hga : rg < (w11.alloc (.cells #[.int .i64 (clk + 1)] 3)).drew.heap.size := by show rg < (w11.heap.push _).size; simp; omega
          have hb : (5 * (ws.length + 1) + 2816) * 8 ≤ 1125899906842624 := by omega
          have hm : ws.length + 1 ≤ maxLen := by unfold maxLen; omega
          obtain ⟨aw, nw, cw, rfl⟩ := hoS.shape'
          clear h11 qf
          go_region_law (refine step_appendS (E := eI64) (by rfl) (.tmp 150) (.tmp 155) _ (by rfl) 3 8 eI64_sl _ _ ws (by rfl) (OwS.framed.alloc hoS _) _ [clk + 1] (by rfl) hrd (ws.length + 1) (by simp) (by omega) hb hm rg hga hvg ?_; intro b3 off3 cap3 w3 hown3 hO3 hk3 hf3)
          all_goals
            obtain ⟨_, hF⟩ := RefOw.times (v2 := .slice (some ⟨b3, off3, none⟩) (ws.length + 1) cap3) (ws2 := ws ++ [clk + 1]) HK.out ((Only.alloc (fun _ => False) w11 (.cells #[.int .i64 (clk + 1)] 3)).drew_) hown3 hO3
            have HU12 := Lib.hid (HBK.out _ (forgetP ps1 key ++ [(key, clk + 1)]) (clk + 1) (.slice a2 n2 c2) (.slice (some ⟨b3, off3, none⟩) (ws.length + 1) cap3) (by rw [List.map_append, List.map_append, HKS.out, HWS.out]; exact hF))
            clear hF HBK hown3 hO3 hk3 hf3 HK HA9 HOW hoS hrd q0 q1 q2 q3 z2 hb hm hga hvg
            generalize World.setCell w3 _ _ = w12 at *
            have H8 := Lib.hid (HU12.out.get (g := w.heap.size) (List.mem_cons_of_mem _ (List.mem_cons_of_mem _ (List.mem_singleton_self _))))
            obtain ⟨e0, e1, e2, e3, e4, e5⟩ := res_cells (HU12.out.get (g := t13) (List.mem_cons_self ..))
            have b3 := HB3.out (by first | rfl | trivial)
            go_wp2_with (refine wpList_store_row rfl 35 (.tmp 8) (.tmp 164) rfl w.heap.size _ rfl rfl 35 _ H8.out (by kernel_rfl) rfl (res_one _ _ _ _ _ _) ?_)
            try simp only [Exit.inBlock, Exit.then]
            refine bodyPost_ret (results_cell_row rfl _ _ w.heap.size _ _ _ _ rfl (setRow_heap _ _ _ _ _ _ H8.out) Try.underlying35 rfl (by kernel_rfl)) rfl ?_
            rw [HL2.out]
            exact ⟨rfl, forgetP ps1 key ++ [(key, clk + 1)], clk + 1, ⟨HR.out.touch hclk key, by omega, by omega⟩, ref_fin HU12.out (List.mem_cons_of_mem _ (List.mem_cons_of_mem _ (List.mem_singleton_self _))) _⟩
end Go.Proofs.Ytodacnpbhlkoiaa
