/- The law LruBook: its walk. -/
import Derived.Test.YtodacnpbhlkoiaaLruBookP
import Derived.Test.YtodacnpbhlkoiaaBookKey
import Derived.Deep.RegionHeld3
namespace Go.Proofs.Ytodacnpbhlkoiaa
open Go.RowKit
set_option linter.unusedVariables false
set_option linter.unusedSimpArgs false

set_option maxRecDepth 100000 in
set_option maxHeartbeats 4000000 in
theorem lruBook_bad (cap : Int) (v : Value) (w : World) (h : cap < 1 ∨ 16 < cap) :
    Calls Try.prog 4 #[.int .i64 cap, v] w fun e w' => e = .returned (.bool true) ∧ Below w.heap.size w w' := by
  go_enter Try.func4, Try.ntmps4
  go_wp2_with fail
  refine (awake_any _).mono ?_
  rintro e w1 ⟨rfl, hb1⟩
  go_wp2_with fail
  refine (lruNew_bad cap _ h).mono ?_
  rintro e w2 ⟨rfl, ho⟩
  have HB := Lib.hid (hb1.trans (ho.below (B := w.heap.size) hb1.size (fun _ h => h.elim)))
  clear hb1 ho
  go_wp2_with fail
  refine (new_bad cap _ h).mono ?_
  rintro e w3 ⟨rfl, ho⟩
  have HB2 := Lib.hid (HB.out.trans (ho.below (B := w.heap.size) HB.out.size (fun _ h => h.elim)))
  clear HB ho
  go_wp2_with fail
  go_ret
  exact ⟨rfl, HB2.out⟩

abbrev lbO (op dk dv : Int) : Obj := .cells #[.int .i64 op, .int .u64 dk, .int .u64 dv] 30
theorem lbO_cells {w : World} {g : Nat} {op dk dv : Int} (h : w.heap[g]? = some (lbO op dk dv)) : w.cell? ⟨g, 0, none⟩ = some (.int .i64 op) ∧ w.cell? ⟨g, 1, none⟩ = some (.int .u64 dk) ∧ w.cell? ⟨g, 2, none⟩ = some (.int .u64 dv) := ⟨blk_cell h 0, blk_cell h 1, blk_cell h 2⟩
theorem res_neq_self (x0 : Int) (x1 : Bool) (x2 : Int) (x3 : Bool) (x4 x5 : Int) (w : World) : (binOp .neq 35 (.agg #[.int .i64 x0, .bool x1, .int .u64 x2, .bool x3, .int .u64 x4, .int .u64 x5]) (.agg #[.int .i64 x0, .bool x1, .int .u64 x2, .bool x3, .int .u64 x4, .int .u64 x5])).run Try.prog w = .ok (.bool false) w := by
  have := eRes_neq (x0, x1, x2, x3, x4, x5) (x0, x1, x2, x3, x4, x5) w
  simpa using this

set_option maxRecDepth 100000 in
set_option maxHeartbeats 8000000 in
theorem lruBook_yes (cap : Int) (h1 : 1 ≤ cap) (h2 : cap ≤ 16) (ds : List DoD) (v : Value) (w : World) (hv : Rd eDo w v ds) :
    Calls Try.prog 4 #[.int .i64 cap, v] w fun e w' => e = .returned (.bool true) ∧ Below w.heap.size w w' := by
  obtain ⟨hmx, ao, c, rfl, hcap, _, _⟩ := id hv
  unfold maxLen at hmx
  have HV := Lib.hid hv
  have HG0 := Lib.hid (lgood_nil h1 h2)
  clear hv
  go_enter Try.func4, Try.ntmps4
  go_wp2_with fail
  refine (awake_any _).mono ?_
  rintro e w1 ⟨rfl, hb1⟩
  go_wp2_with fail
  refine (lruNewU Emp.framed (St.start hb1) h1 h2).mono ?_
  rintro e w2 ⟨g, rfl, bi, hL2⟩
  have HL2 := Lib.hid hL2
  clear hb1 hL2
  go_wp2_with fail
  refine (HL2.out.callNew (Sep.framed LruS.framed Emp.framed) (Yx := fun b => BookS b cap []) (E := fun b e => e = .returned (.tuple #[.pointer (some ⟨b, 0, none⟩), .int .i64 0])) (fun _ => BookS.framed) (new_ok cap w2 h1 h2)).mono ?_
  rintro e w3 ⟨b, rfl, hL3⟩
  have HL3 := Lib.hid (show St (Sep (Sep (LruS g bi cap ([], [])) (BookS b cap [])) Emp) w w3 from hL3.imp fun _ h => Sep.nilE (h.imp (fun _ h => h.left LruS.framed) fun _ h => h))
  clear HL2 hL3 h1 h2
  go_wp2_with fail
  go_loopw [9, 10, 11] (fun t9 _ _ wr => ∃ (k : Nat) (s : List PairD × List Int), k ≤ ds.length ∧ k ≤ 3000 ∧ t9 = .int .i64 k ∧ Hid (LGood cap s) ∧ Hid (St (Sep (Sep (LruS g bi cap s) (BookS b cap s.1)) Emp) w wr)) (fun t9 _ _ _ => ds.length - (intOf t9).toNat)
  case atStart => exact ⟨0, ([], []), Nat.zero_le _, by decide, rfl, HG0, HL3⟩
  case round =>
    clear HL3 HG0
    obtain ⟨k, s, hk, hk3, rfl, HG, V⟩ := hrel
    by_cases hlt : k < ds.length ∧ k < 3000
    · obtain ⟨hlt, hl3⟩ := hlt
      obtain ⟨_, ao', cap', hao, _, _, hx⟩ := HV.out
      obtain ⟨rfl, -, rfl⟩ : ao = ao' ∧ ds.length = ds.length ∧ c = cap' := by simpa using hao
      obtain ⟨sb, off, rfl, hc⟩ := hx (by omega)
      obtain ⟨c0, c1, c2⟩ := do_cells hc k hlt
      have hlb := Rd.lt HV.out (by omega)
      have hi0 : (0 : Int) ≤ (k : Int) := by omega
      have hi1 : (k : Int) < (ds.length : Int) := by omega
      clear hc hx hao
      generalize ds[k].1 = op at *
      generalize ds[k].2.1 = dk at *
      generalize ds[k].2.2 = dv at *
      obtain ⟨d0, d1, d2⟩ := keepD (St.below V.out) hlb c0 c1 c2
      clear c0 c1 c2 hlb
      have HVa := Lib.hid ((V.out.loc' (Sep.framed LruS.framed BookS.framed) Emp.framed (lbO op dk dv)).rest (R' := Blk wr.heap.size (lbO op dk dv)) fun _ h => h.2)
      obtain ⟨t10, ht10⟩ : ∃ t10, t10 = wr.heap.size := ⟨_, rfl⟩
      by_cases hF : isFull cap s.1 op dk = true
      · obtain ⟨x2, x4, x5, s2, hd1, hd2, hln⟩ := lb_full (v := dv) HG.out hF
        have HD1 := Lib.hid hd1
        have HD2 := Lib.hid hd2
        have HG2 := Lib.hid HG.out.good
        have hle : ((s2.1.length : Int) == cap) = true := by simpa using hln
        clear hd1 hd2 hF hln V
        go_wp2_with fail
        rw [← ht10] at HVa ⊢
        refine (HVa.out.onB LruS.framed Blk.framed BookS.framed (E := fun e => e = .returned (.agg #[.int .i64 40, .bool false, .int .u64 0, .bool false, .int .u64 0, .int .u64 0])) fun A hA => bookDo_ hA HG2.out HD1.out).mono ?_
        rintro e w4 ⟨rfl, hV4⟩
        have HV4 := Lib.hid (hV4.loc' (Sep.framed LruS.framed BookS.framed) Blk.framed (resO 40 false 0 false 0 0))
        obtain ⟨_, hb⟩ := hV4.getR
        obtain ⟨d0, d1, d2⟩ := lbO_cells hb.1
        have hl4 := heap_lt hb.1
        clear hV4 HVa hb ht10
        go_wp2_with fail
        refine (HV4.out.onA BookS.framed (Framed.and Blk.framed Blk.framed) LruS.framed (E := fun e => e = .returned (.agg #[.int .i64 0, .bool false, .int .u64 x2, .bool true, .int .u64 x4, .int .u64 x5])) fun A hA => lruDo_ hA HG.out HD2.out).mono ?_
        rintro e w5 ⟨rfl, hV5⟩
        have HV5 := Lib.hid (hV5.fresh (Sep.framed (Sep.framed LruS.framed BookS.framed) (Framed.and Blk.framed Blk.framed)) (Only.alloc (fun _ => False) _ (resO 0 false x2 true x4 x5)))
        obtain ⟨_, hla⟩ := hV5.getA
        have cp0 := hla.ptr
        have hgl := World.block_lt_of_cell? w5 _ cp0
        clear hV5 hla HV4
        go_wp2_with fail
        obtain ⟨_, hla⟩ := HV5.out.getA
        refine (HV5.out.callRead (Sep.framed (Sep.framed LruS.framed BookS.framed) (Framed.and Blk.framed Blk.framed)) (E := fun e => e = .returned (.int .i64 s2.1.length)) (lruLen_ hla)).mono ?_
        rintro e w6 ⟨rfl, hV6⟩
        have HB := Lib.hid (St.below hV6)
        clear hV6 hla HV5
        go_wp2_with fail
        go_ret
        exact ⟨rfl, HB.out⟩
      · obtain ⟨⟨x0, x1, x2, x3, x4, x5⟩, s2, hd1, hd2, hne⟩ := lb_not (v := dv) (show isFull cap s.1 op dk = false by simpa using hF)
        have HD1 := Lib.hid hd1
        have HD2 := Lib.hid hd2
        have HGB := Lib.hid HG.out.good
        have HG2 := Lib.hid (show LGood cap s2 by have := lru_good (op := op) (k := dk) (v := dv) HG.out; rwa [hd2] at this)
        have hz := res_neq_self x0 x1 x2 x3 x4 x5
        have hb40 : (x0 == 40) = false := by simpa using hne
        clear hd1 hd2 hF hne V
        go_wp2_with fail
        rw [← ht10] at HVa ⊢
        refine (HVa.out.onB LruS.framed Blk.framed BookS.framed (E := fun e => e = .returned (.agg #[.int .i64 x0, .bool x1, .int .u64 x2, .bool x3, .int .u64 x4, .int .u64 x5])) fun A hA => bookDo_ hA HGB.out HD1.out).mono ?_
        rintro e w4 ⟨rfl, hV4⟩
        have HV4 := Lib.hid (hV4.loc' (Sep.framed LruS.framed BookS.framed) Blk.framed (resO x0 x1 x2 x3 x4 x5))
        obtain ⟨t11, ht11⟩ : ∃ t11, t11 = w4.heap.size := ⟨_, rfl⟩
        clear hV4 HVa ht10
        go_wp2_with fail
        rw [← ht11] at HV4 ⊢
        generalize World.alloc w4 _ = w5 at *
        obtain ⟨_, hb, hb2⟩ := HV4.out.getR
        obtain ⟨d0, d1, d2⟩ := lbO_cells hb.1
        obtain ⟨e0, e1, e2, e3, e4, e5⟩ := res_cells hb2.1
        have HKP := Lib.hid (fun (W : World) (h : St (Sep (Sep (LruS g bi cap s2) (BookS b cap s2.1)) (fun S w => Blk t10 (lbO op dk dv) S w ∧ Blk t11 (resO x0 x1 x2 x3 x4 x5) S w)) w W) => show (W.cell? ⟨t10, 0, none⟩ = some (.int .i64 op) ∧ W.cell? ⟨t10, 1, none⟩ = some (.int .u64 dk) ∧ W.cell? ⟨t10, 2, none⟩ = some (.int .u64 dv) ∧ W.cell? ⟨t11, 0, none⟩ = some (.int .i64 x0) ∧ W.cell? ⟨t11, 1, none⟩ = some (.bool x1) ∧ W.cell? ⟨t11, 2, none⟩ = some (.int .u64 x2) ∧ W.cell? ⟨t11, 3, none⟩ = some (.bool x3) ∧ W.cell? ⟨t11, 4, none⟩ = some (.int .u64 x4) ∧ W.cell? ⟨t11, 5, none⟩ = some (.int .u64 x5)) from by
          obtain ⟨_, hb, hb2⟩ := h.getR
          obtain ⟨d0, d1, d2⟩ := lbO_cells hb.1
          exact ⟨d0, d1, d2, res_cells hb2.1⟩)
        clear hb hb2 ht11
        go_region_held3 (fun W => W.cell? ⟨t10, 0, none⟩ = some (.int .i64 op) ∧ W.cell? ⟨t10, 1, none⟩ = some (.int .u64 dk) ∧ W.cell? ⟨t10, 2, none⟩ = some (.int .u64 dv) ∧ W.cell? ⟨t11, 0, none⟩ = some (.int .i64 x0) ∧ W.cell? ⟨t11, 1, none⟩ = some (.bool x1) ∧ W.cell? ⟨t11, 2, none⟩ = some (.int .u64 x2) ∧ W.cell? ⟨t11, 3, none⟩ = some (.bool x3) ∧ W.cell? ⟨t11, 4, none⟩ = some (.int .u64 x4) ∧ W.cell? ⟨t11, 5, none⟩ = some (.int .u64 x5))
          ((first | exact ⟨d0, d1, d2, e0, e1, e2, e3, e4, e5⟩ | exact HKP.out _ hVi))
          ((go_at_call 11; refine ((HV4.out.drewU (Sep.framed (Sep.framed LruS.framed BookS.framed) (Framed.and Blk.framed Blk.framed))).onA BookS.framed (Framed.and Blk.framed Blk.framed) LruS.framed (E := fun e => e = .returned (.agg #[.int .i64 x0, .bool x1, .int .u64 x2, .bool x3, .int .u64 x4, .int .u64 x5])) fun A hA => lruDo_ hA HG.out HD2.out).mono ?_; rintro e wi ⟨rfl, hVi⟩))
        all_goals
          have HVi := Lib.hid (hVi.rest (R' := Emp) fun _ _ => trivial)
          clear hVi HKP HV4 d0 d1 d2 e0 e1 e2 e3 e4 e5
          go_wp2_with fail
          go_roundw
          case rel => exact ⟨k + 1, s2, by omega, by omega, by go_num, HG2, HVi⟩
          case measure => simp [intOf]; omega
    · have hor : ¬ k < ds.length ∨ (k < ds.length ∧ ¬ k < 3000) := by omega
      have hi0 : (0 : Int) ≤ (k : Int) := by omega
      obtain ⟨_, hla⟩ := V.out.getA
      have cp0 := hla.ptr
      have hgl := World.block_lt_of_cell? wr _ cp0
      have HPA := Lib.hid (lruPairs_ hla HG.out)
      have heq : ((s.1.length : Int) == (s.1.length : Int)) = true := by simp
      have h16 : s.1.length ≤ 1000 := by have := HG.out.good.len; have := HG.out.good.hi; omega
      clear hla
      rcases hor with hno | ⟨hy, hno⟩
      all_goals
        clear hlt
        go_wp2_with fail
        refine (V.out.callKeep (Sep.framed LruS.framed BookS.framed) Emp.framed (Yx := fun v S w => OwS ePair 46 S w v s.1) (E := fun v e => e = .returned v) (fun _ => OwS.framed) HPA.out).mono ?_
        rintro e w3 ⟨v1, rfl, hV3⟩
        have HV3 := Lib.hid (hV3.rest (R' := fun S w => OwS ePair 46 S w v1 s.1) fun _ h => h.2)
        obtain ⟨_, hbb⟩ := HV3.out.getB
        clear hV3 V HPA cp0
        go_wp2_with fail
        refine (HV3.out.callKeep (Sep.framed LruS.framed BookS.framed) OwS.framed (Yx := fun v S w => OwS ePair 46 S w v s.1) (E := fun v e => e = .returned v) (fun _ => OwS.framed) (bpairs_any b cap s.1 _ w3 hbb h16)).mono ?_
        rintro e w4 ⟨v2, rfl, hV4⟩
        have HV4 := Lib.hid hV4
        obtain ⟨_, hr1, hr2⟩ := hV4.getR
        have HPC := Lib.hid (pairs_eq s.1 v1 v2 w4 hr1.rd hr2.rd)
        clear hV4 HV3 hr1 hr2 hbb
        go_wp2_with fail
        refine (HV4.out.callRead (Sep.framed (Sep.framed LruS.framed BookS.framed) (Framed.and OwS.framed OwS.framed)) (E := fun e => e = .returned (.bool true)) HPC.out).mono ?_
        rintro e w5 ⟨rfl, hV5⟩
        have HV5 := Lib.hid (hV5.rest (R' := Emp) fun _ _ => trivial)
        obtain ⟨_, hla⟩ := hV5.getA
        have cp0 := hla.ptr
        have hgl5 := World.block_lt_of_cell? w5 _ cp0
        have HLE := Lib.hid (lruLen_ hla)
        clear hV5 HV4 HPC hla
        go_wp2_with fail
        refine (HV5.out.callRead (Sep.framed (Sep.framed LruS.framed BookS.framed) Emp.framed) (E := fun e => e = .returned (.int .i64 s.1.length)) HLE.out).mono ?_
        rintro e w6 ⟨rfl, hV6⟩
        have HV6 := Lib.hid hV6
        obtain ⟨_, hbb⟩ := hV6.getB
        have HLB := Lib.hid (len_any b cap s.1 _ w6 hbb)
        clear hV6 HV5 HLE hbb
        go_wp2_with fail
        refine (HV6.out.callRead (Sep.framed (Sep.framed LruS.framed BookS.framed) Emp.framed) (E := fun e => e = .returned (.int .i64 s.1.length)) HLB.out).mono ?_
        rintro e w7 ⟨rfl, hV7⟩
        have HV7 := Lib.hid hV7
        obtain ⟨_, hla⟩ := hV7.getA
        have HOR := Lib.hid (lruOrder_ hla HG.out)
        clear hV7 HV6 HLB hla
        go_wp2_with fail
        refine (HV7.out.callKeep (Sep.framed LruS.framed BookS.framed) Emp.framed (Yx := fun v S w => OwS eU64 28 S w v s.2) (E := fun v e => e = .returned v) (fun _ => OwS.framed) HOR.out).mono ?_
        rintro e w8 ⟨v3, rfl, hV8⟩
        have HV8 := Lib.hid (hV8.rest (R' := Emp) fun _ _ => trivial)
        obtain ⟨_, _, ho⟩ := hV8.getR
        have hoL := HG.out.len
        obtain ⟨⟨_, ao3, cp3, rfl, _⟩, _⟩ := ho
        rw [hoL]
        obtain ⟨_, hbb⟩ := HV8.out.getB
        have HLB := Lib.hid (len_any b cap s.1 _ w8 hbb)
        clear hV8 HV7 HOR hbb hoL
        go_wp2_with fail
        refine (HV8.out.callRead (Sep.framed (Sep.framed LruS.framed BookS.framed) Emp.framed) (E := fun e => e = .returned (.int .i64 s.1.length)) HLB.out).mono ?_
        rintro e w9 ⟨rfl, hV9⟩
        have HB := Lib.hid (St.below hV9)
        clear hV9 HV8 HLB
        go_wp2_with fail
        go_ret
        exact ⟨rfl, HB.out⟩
theorem lruBook_any (cap : Int) (ds : List DoD) (v : Value) (w : World) (hcap : -9223372036854775808 ≤ cap ∧ cap ≤ 9223372036854775807) (hv : Rd eDo w v ds) (hl : ds.length * 24 ≤ 140737488351232) (hok : ∀ o ∈ ds, DoD.ok o) :
    Calls Try.prog 4 #[.int .i64 cap, v] w fun e w' => e = .returned (.bool true) ∧ Below w.heap.size w w' := by
  by_cases h : cap < 1 ∨ 16 < cap
  · exact lruBook_bad cap v w h
  · exact lruBook_yes cap (by omega) (by omega) ds v w hv
end Go.Proofs.Ytodacnpbhlkoiaa
