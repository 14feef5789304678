/- The law RingPlays: its walk. -/
import Derived.Test.YtdpklmaldjohkaaRingPS
import Derived.Deep.DeepCutAuto
import Derived.Deep.CutBlock
namespace Go.Proofs.Ytdpklmaldjohkaa
open Go.RowKit
set_option linter.unusedVariables false

set_option maxHeartbeats 1000000 in
theorem new_nil (w : World) :
    Calls Try.prog 8 #[.int .i64 1, .pointer none] w fun e w' => e = .returned (.tuple #[.pointer none, .int .i64 2]) ∧ w = w' := by
  go_enter Try.func8, Try.ntmps8
  go_wp2_with fail
  go_ret2
  exact ⟨rfl, rfl⟩

/-- New of both -/
theorem new_both (room : Int) (h : Nat) (w : World) :
    Calls Try.prog 8 #[.int .i64 room, .pointer (some ⟨h, 0, none⟩)] w fun e w' => ∃ pv : Option Addr, ∃ ev : Int, e = .returned (.tuple #[.pointer pv, .int .i64 ev]) ∧ Below w.heap.size w w' := by
  by_cases hr : room < 1 ∨ 16 < room
  · exact (new_not room h w hr).mono fun e w' ⟨he, hw⟩ => ⟨none, 2, he, by rw [hw]; exact Below.refl _ _⟩
  · exact (newS room h w (by omega) (by omega)).mono fun e w' ⟨g, he, _, ho⟩ => ⟨some ⟨g, 0, none⟩, 0, he, ho.below (Nat.le_refl _) (fun _ h => h.elim)⟩

def RInv (P : FP) (w : World) (k : Nat) (last : Int) (wr : World) : Prop :=
  ∃ p q : PS, FInv P.bare w last p p q wr ∧ p.good k ∧ q.good k ∧ 0 ≤ last ∧ last ≤ k

set_option maxRecDepth 100000 in
set_option maxHeartbeats 4000000 in
theorem ringPlays_not (room other : Int) (v : Value) (w : World) (hr : room < 1 ∨ 16 < room ∨ other < 1 ∨ 16 < other) :
    Calls Try.prog 4 #[.int .i64 room, .int .i64 other, v] w fun e w' => e = .returned (.bool true) ∧ Below w.heap.size w w' := by
  go_enter Try.func4, Try.ntmps4
  go_wp2_with fail
  refine (awake_any _).mono ?_
  rintro e w1 ⟨rfl, hb1⟩
  have hsz1 := hb1.size
  go_wp2_with fail
  by_cases h1 : room < 1 ∨ 16 < room
  · refine (new_not room _ _ h1).mono ?_
    rintro e w2 ⟨rfl, rfl⟩
    by_cases h2 : other < 1 ∨ 16 < other
    · go_wp2_with fail
      refine (new_not other _ _ h2).mono ?_
      rintro e w3 ⟨rfl, rfl⟩
      go_wp2_with fail
      refine (refNew_not room _ h1).mono ?_
      rintro e w3 ⟨rfl, rfl⟩
      go_wp2_with fail
      refine (refNew_not other _ h2).mono ?_
      rintro e w3 ⟨rfl, rfl⟩
      go_wp2_with fail
      refine (new_nil _).mono ?_
      rintro e w3 ⟨rfl, rfl⟩
      go_wp2_with fail
      go_ret
      exact ⟨rfl, hb1.alloc hsz1 _⟩
    · have h2a : 1 ≤ other := by omega
      have h2b : other ≤ 16 := by omega
      clear h2
      go_wp2_with fail
      refine (newS other _ _ h2a h2b).mono ?_
      rintro e w3 ⟨g, rfl, hR, hO⟩
      go_wp2_with fail
      refine (refNew_not room _ h1).mono ?_
      rintro e w4 ⟨rfl, rfl⟩
      go_wp2_with fail
      refine (refNew_any other _ h2a h2b).mono ?_
      rintro e w4 ⟨x, rfl, hX, hO2⟩
      go_wp2_with fail
      refine (new_nil _).mono ?_
      rintro e w5 ⟨rfl, rfl⟩
      go_wp2_with fail
      go_ret
      have b1 := hb1.alloc hsz1 (.cells #[.int .i64 0] 30)
      exact ⟨rfl, bthen (bthen b1 (hO.below (Nat.le_refl _) (fun _ h => h.elim))) (hO2.below (Nat.le_refl _) (fun _ h => h.elim))⟩
  · have h1a : 1 ≤ room := by omega
    have h1b : room ≤ 16 := by omega
    have h2 : other < 1 ∨ 16 < other := by omega
    clear h1 hr
    refine (newS room _ _ h1a h1b).mono ?_
    rintro e w3 ⟨g, rfl, hR, hO⟩
    go_wp2_with fail
    refine (new_not other _ _ h2).mono ?_
    rintro e w4 ⟨rfl, rfl⟩
    go_wp2_with fail
    refine (refNew_any room _ h1a h1b).mono ?_
    rintro e w4 ⟨x, rfl, hX, hO2⟩
    go_wp2_with fail
    refine (refNew_not other _ h2).mono ?_
    rintro e w5 ⟨rfl, rfl⟩
    go_wp2_with fail
    refine (new_nil _).mono ?_
    rintro e w5 ⟨rfl, rfl⟩
    go_wp2_with fail
    go_ret
    have b1 := hb1.alloc hsz1 (.cells #[.int .i64 0] 30)
    exact ⟨rfl, bthen (bthen b1 (hO.below (Nat.le_refl _) (fun _ h => h.elim))) (hO2.below (Nat.le_refl _) (fun _ h => h.elim))⟩

theorem tmod2 (on : Int) : ((on.tmod 2 != 0) = false ∧ on.tmod 2 = 0) ∨ ((on.tmod 2 != 0) = true ∧ on.tmod 2 ≠ 0) := by
  by_cases h : on.tmod 2 = 0
  · exact .inl ⟨by simp [h], h⟩
  · exact .inr ⟨by simp [h], h⟩
set_option maxRecDepth 100000 in
set_option maxHeartbeats 8000000 in
theorem ringPlays_yes (room other : Int) (ops : List OpD) (v : Value) (w : World) (h1a : 1 ≤ room) (h1b : room ≤ 16) (h2a : 1 ≤ other) (h2b : other ≤ 16) (hv : Rd eOp w v ops) (hl : ops.length * 32 ≤ 140737488351232) (hon : Hid (∀ o ∈ ops, OpD.ok o)) :
    Calls Try.prog 4 #[.int .i64 room, .int .i64 other, v] w fun e w' => e = .returned (.bool true) ∧ Below w.heap.size w w' := by
  obtain ⟨_, ao, cap, rfl, hcap, _, _⟩ := id hv
  go_enter Try.func4, Try.ntmps4
  go_wp2_with fail
  refine (awake_any _).mono ?_
  rintro e w1 ⟨rfl, hb1⟩
  go_wp2_with fail
  refine (newS room _ _ h1a h1b).mono ?_
  rintro e w2 ⟨ga, rfl, hRa, hO2⟩
  obtain ⟨tag1, A1, f1, n1, k1⟩ := (Arena.of_below hb1 (Nat.le_refl _)).step (Only.alloc (fun _ => False) w1 (.cells #[.int .i64 0] 30)) 5 (fun _ h => h.elim)
  have hN1 := n1 _ (NumS.framed (h := w1.heap.size) (last := 0)) ⟨⟨Nat.zero_le _, heap_alloc_new w1 _⟩, .inr (Nat.le_refl _)⟩
  obtain ⟨tag2, A2, f2, n2, k2⟩ := A1.step hO2 1 (fun _ h => h.elim)
  have hN2 := f2 _ NumS.framed _ hN1 (fun _ _ h => h)
  have hRa2 := n2 _ RingS.framed (RingS.framed.mono _ _ _ hRa (fun k _ h => .inr h))
  clear hRa hN1 f1 n1 k1 f2 n2 k2 A1 hO2
  generalize w1.heap.size = h at *
  go_wp2_with fail
  refine (newS other _ _ h2a h2b).mono ?_
  rintro e w3 ⟨gb, rfl, hRb, hO3⟩
  obtain ⟨tag3, A3, f3, n3, k3⟩ := A2.step hO3 2 (fun _ h => h.elim)
  have hN3 := f3 _ NumS.framed _ hN2 (fun _ _ h => h)
  have hRa3 := f3 _ RingS.framed _ hRa2 (fun _ _ h => h)
  have hRb3 := n3 _ RingS.framed (RingS.framed.mono _ _ _ hRb (fun k _ h => .inr h))
  clear hRb hN2 hRa2 f3 n3 k3 A2 hO3
  go_wp2_with fail
  refine (refNew_any room _ h1a h1b).mono ?_
  rintro e w4 ⟨xa, rfl, hXa, hO4⟩
  obtain ⟨tag4, A4, f4, n4, k4⟩ := A3.step hO4 3 (fun _ h => h.elim)
  have hN4 := f4 _ NumS.framed _ hN3 (fun _ _ h => h)
  have hRa4 := f4 _ RingS.framed _ hRa3 (fun _ _ h => h)
  have hRb4 := f4 _ RingS.framed _ hRb3 (fun _ _ h => h)
  have hXa4 := n4 _ Obj1.framed (Obj1.framed.mono _ _ _ hXa (fun k _ h => .inr h))
  clear hN3 hRa3 hRb3 hXa f4 n4 k4 A3 hO4
  go_wp2_with fail
  refine (refNew_any other _ h2a h2b).mono ?_
  rintro e w5 ⟨xb, rfl, hXb, hO5⟩
  obtain ⟨tag5, A5, f5, n5, k5⟩ := A4.step hO5 4 (fun _ h => h.elim)
  have hN5 := f5 _ NumS.framed _ hN4 (fun _ _ h => h)
  have hRa5 := f5 _ RingS.framed _ hRa4 (fun _ _ h => h)
  have hRb5 := f5 _ RingS.framed _ hRb4 (fun _ _ h => h)
  have hXa5 := f5 _ Obj1.framed _ hXa4 (fun _ _ h => h)
  have hXb5 := n5 _ Obj1.framed (Obj1.framed.mono _ _ _ hXb (fun k _ h => .inr h))
  clear hN4 hRa4 hRb4 hXa4 hXb f5 n5 k5 A4 hO5
  go_wp2_with fail
  refine (new_nil _).mono ?_
  rintro e w6 ⟨rfl, rfl⟩
  obtain ⟨o1, ho1⟩ : ∃ o, o = Obj.cells #[.pointer (some ⟨ga, 0, none⟩), .pointer (some ⟨gb, 0, none⟩)] 24 := ⟨_, rfl⟩
  obtain ⟨o2, ho2⟩ : ∃ o, o = Obj.cells #[.pointer (some ⟨xa, 0, none⟩), .pointer (some ⟨xb, 0, none⟩)] 46 := ⟨_, rfl⟩
  obtain ⟨tag6, A6, f6, n6, k6⟩ := A5.step ((Only.alloc (fun _ => False) w5 o1).tr (Only.alloc (fun _ => False) _ o2)) 6 (fun _ h => h.elim)
  have hN6 := f6 _ NumS.framed _ hN5 (fun _ _ h => h)
  have hRa6 := f6 _ RingS.framed _ hRa5 (fun _ _ h => h)
  have hRb6 := f6 _ RingS.framed _ hRb5 (fun _ _ h => h)
  have hXa6 := f6 _ Obj1.framed _ hXa5 (fun _ _ h => h)
  have hXb6 := f6 _ Obj1.framed _ hXb5 (fun _ _ h => h)
  have hB1 := n6 _ (Blk.framed (g := w5.heap.size) (o := o1)) ⟨heap_alloc (heap_alloc_new w5 o1), .inr (Nat.le_refl _)⟩
  have hB2 := n6 _ (Blk.framed (g := w5.heap.size + 1) (o := o2)) ⟨by have := heap_alloc_new (w5.alloc o1) o2; simpa using this, .inr (by omega)⟩
  clear hN5 hRa5 hRb5 hXa5 hXb5 f6 n6 k6 A5
  obtain ⟨P, hP⟩ : ∃ P : FP, P = ⟨h, ga, xa, gb, xb, w5.heap.size, w5.heap.size + 1, 1, 3, 2, 4, o1, o2, fun _ _ => True, Framed.pure True⟩ := ⟨_, rfl⟩
  have hF : FInv P w 0 ⟨room, 0, 0, false, []⟩ ⟨room, 0, 0, false, []⟩ ⟨other, 0, 0, false, []⟩ ((w5.alloc o1).alloc o2) := by
    subst hP
    exact ⟨tag6, A6, hRa6, hXa6, hRb6, hXb6, hN6, hB1, hB2, trivial⟩
  have hok : P.ok := by subst hP; unfold FP.ok; simp
  have hI : RInv P w 0 0 ((w5.alloc o1).alloc o2) := ⟨_, _, hF.bare, by unfold PS.good; simp; omega, by unfold PS.good; simp; omega, by omega, by omega⟩
  have hPg : P.gs = ga ∧ P.xs = xa ∧ P.go = gb ∧ P.xo = xb ∧ P.rb = w5.heap.size ∧ P.mb = w5.heap.size + 1 ∧ P.rbo = o1 ∧ P.mbo = o2 := by subst hP; simp
  have HPG := Lib.hid hPg
  have HO1 := Lib.hid ho1
  have HO2 := Lib.hid ho2
  have HI := Lib.hid hI
  clear hF hN6 hRa6 hRb6 hXa6 hXb6 hB1 hB2 A6 hPg hP hI
  rw [ho1, ho2] at HI
  clear ho1 ho2
  go_wp2_with fail
  go_loopw [20, 21, 22, 23, 24, 25, 26, 27, 28, 29, 30, 31, 32, 33, 34] (fun last i _ _ _ _ _ _ _ _ _ _ _ _ _ wr => ∃ (k : Nat) (lv : Int), k ≤ ops.length ∧ i = .int .i64 k ∧ last = .int .i64 lv ∧ RInv P w k lv wr) (fun _ i _ _ _ _ _ _ _ _ _ _ _ _ _ _ => ops.length - (intOf i).toNat)
  case atStart => exact ⟨0, 0, Nat.zero_le _, rfl, rfl, HI.out⟩
  case round =>
    clear HI
    obtain ⟨k, lv, hk, rfl, rfl, p0, q0, F0, hgp, hgq, hl0, hlk⟩ := hrel
    generalize w5.heap.size = rb at *
    by_cases hlt : k < ops.length
    · have HV := Lib.hid hv
      obtain ⟨_, ao', cap', hao, _, _, hx⟩ := hv.grow F0.below
      obtain ⟨rfl, _, rfl⟩ : ao = ao' ∧ ops.length = ops.length ∧ cap = cap' := by simpa using hao
      obtain ⟨b, off, rfl, hc⟩ := hx (by omega)
      have hwf := (hon.out ops[k] (List.getElem_mem hlt)).2.1
      have c0 : wr.cell? ⟨b, off + k * 4, none⟩ = some (.int .i64 ops[k].1) := hc (k * 4) _ ((eOp.all_at ops k 0 hlt (by decide)).trans rfl)
      have c1 : wr.cell? ⟨b, off + k * 4 + 1, none⟩ = some (.int .i64 ops[k].2.1) := by have := hc (k * 4 + 1) _ ((eOp.all_at ops k 1 hlt (by decide)).trans rfl); rw [← Nat.add_assoc] at this; exact this
      have c2 : wr.cell? ⟨b, off + k * 4 + 2, none⟩ = some (.int .u64 ops[k].2.2.1) := by have := hc (k * 4 + 2) _ ((eOp.all_at ops k 2 hlt (by decide)).trans rfl); rw [← Nat.add_assoc] at this; exact this
      have c3 : wr.cell? ⟨b, off + k * 4 + 3, none⟩ = some (.int .u64 ops[k].2.2.2) := by have := hc (k * 4 + 3) _ ((eOp.all_at ops k 3 hlt (by decide)).trans rfl); rw [← Nat.add_assoc] at this; exact this
      clear hc hx hao
      generalize ops[k].1 = kind at c0
      generalize ops[k].2.1 = on at c1 hwf
      generalize ops[k].2.2.1 = e0 at c2
      generalize ops[k].2.2.2 = e1 at c3
      obtain ⟨idx, hidx⟩ : ∃ idx : Nat, ((on.tmod 2 != 0) = false ∧ idx = 0) ∨ ((on.tmod 2 != 0) = true ∧ idx = 1) := by
        rcases tmod2 on with h | h
        · exact ⟨0, .inl ⟨h.1, rfl⟩⟩
        · exact ⟨1, .inr ⟨h.1, rfl⟩⟩
      have HIDX := Lib.hid hidx
      clear hidx
      go_upto_if 120 with (fail)
      go_cut [23] (fun s23 wc => s23 = .int .i64 (idx : Int) ∧ wc = wr.alloc (.cells #[.int .i64 kind, .int .i64 on, .int .u64 e0, .int .u64 e1] 37))
      case first =>
        have hwb := bounds_i64 hwf
        rcases HIDX.out with ⟨hb, rfl⟩ | ⟨hb, rfl⟩
        · go_wp2_with fail
          go_meet
          exact ⟨rfl, rfl⟩
        · go_wp2_with fail
          go_meet
          exact ⟨rfl, rfl⟩
      case rest =>
        obtain ⟨rfl, rfl⟩ := hcut
        have G0 := F0.blk (.cells #[.int .i64 kind, .int .i64 on, .int .u64 e0, .int .u64 e1] 37)
        obtain ⟨P', p, q, hok', F, hgp', hgq', hrbp, hmbp, hclose, hix⟩ : ∃ (P' : FP) (p q : PS), P'.ok ∧ FInv (P'.blk wr.heap.size (.cells #[.int .i64 kind, .int .i64 on, .int .u64 e0, .int .u64 e1] 37)) w lv p p q (wr.alloc (.cells #[.int .i64 kind, .int .i64 on, .int .u64 e0, .int .u64 e1] 37)) ∧ p.good k ∧ q.good k ∧
            (∀ W, FInv (P'.blk wr.heap.size (.cells #[.int .i64 kind, .int .i64 on, .int .u64 e0, .int .u64 e1] 37)) w lv p p q W → W.cell? ⟨rb, idx, none⟩ = some (.pointer (some ⟨P'.gs, 0, none⟩))) ∧
            (∀ W, FInv (P'.blk wr.heap.size (.cells #[.int .i64 kind, .int .i64 on, .int .u64 e0, .int .u64 e1] 37)) w lv p p q W → W.cell? ⟨rb + 1, idx, none⟩ = some (.pointer (some ⟨P'.xs, 0, none⟩))) ∧
            (∀ lv' p' W, FInv P'.bare w lv' p' p' q W → p'.good (k + 1) → 0 ≤ lv' → lv' ≤ ((k + 1 : Nat) : Int) → RInv P w (k + 1) lv' W) ∧ idx < 2 := by
          obtain ⟨hg1, hg2, hg3, hg4, hg5, hg6, hg7, hg8⟩ := HPG.out
          rcases HIDX.out with ⟨_, rfl⟩ | ⟨_, rfl⟩
          · refine ⟨P, p0, q0, hok, G0, hgp, hgq, fun W h => ?_, fun W h => ?_, fun lv' p' W h1 h2 h3 h4 => ⟨p', q0, h1, h2, hgq.up, h3, h4⟩, by omega⟩
            · have := h.rbm.1; simp only [hg5, hg7, HO1.out] at this; rw [hg1]; exact blk_cell this 0
            · have := h.rbm.2; simp only [hg6, hg8, HO2.out] at this; rw [hg2]; exact blk_cell this 0
          · refine ⟨P.swap, q0, p0, hok.swap, G0.swap, hgq, hgp, fun W h => ?_, fun W h => ?_, fun lv' p' W h1 h2 h3 h4 => ⟨p0, p', h1.swap, hgp.up, h2, h3, h4⟩, by omega⟩
            · have := h.rbm.1; simp only [hg5, hg7, HO1.out] at this; show World.cell? _ _ = some (Value.pointer (some ⟨P.go, 0, none⟩)); rw [hg3]; exact blk_cell this 1
            · have := h.rbm.2; simp only [hg6, hg8, HO2.out] at this; show World.cell? _ _ = some (Value.pointer (some ⟨P.xo, 0, none⟩)); rw [hg4]; exact blk_cell this 1
        have HRB := Lib.hid hrbp
        have HMB := Lib.hid hmbp
        have HCL := Lib.hid hclose
        clear G0 F0 hgp hgq hrbp hmbp hclose c0 c1 c2 c3 HIDX hwf hok
        generalize hwq : wr.heap.size = ob at *
        clear hwq
        generalize World.alloc wr _ = wq at *
        have r0 := HRB.out wq F
        have m0 := HMB.out wq F
        have hi0 : (0 : Int) ≤ (idx : Int) := by omega
        have hi1 : (idx : Int) < 2 := by omega
        go_wp2_with fail
        go_quiet (fail)
        have F1 := F.fresh ((Only.refl _ wq).drewN nq)
        have hob1 := F1.X_blk
        clear F r0 m0 HRB HMB
        generalize World.drewN wq nq = w2 at *
        have b0 : w2.cell? ⟨ob, 0, none⟩ = some (.int .i64 kind) := blk_cell hob1 0
        have b2 : w2.cell? ⟨ob, 2, none⟩ = some (.int .u64 e0) := blk_cell hob1 2
        have b3 : w2.cell? ⟨ob, 3, none⟩ = some (.int .u64 e1) := blk_cell hob1 3
        have HOB := Lib.hid hob1
        clear hob1
        go_upto_block 2 with (fail)
        go_cut [20, 26] (fun last same wc => ∃ (lv' : Int) (p' : PS), last = .int .i64 lv' ∧ same = .bool true ∧ FInv P'.bare w lv' p' p' q wc ∧ p'.good (k + 1) ∧ 0 ≤ lv' ∧ lv' ≤ ((k + 1 : Nat) : Int))
        case first =>
          have hk8 : k ≤ 7000000000000 := by omega
          by_cases hk0 : kind = 0
          · subst hk0
            cases hcl : p.closed with
            | true =>
              have HC := Lib.hid hcl
              clear hcl
              go_wp2_with fail
              refine (acceptF_shut (hok'.blk _ _) F1 HC.out e0 e1).mono ?_
              rintro e w3 ⟨rfl, F3⟩
              have hob := F3.X_blk
              have b2 : w3.cell? ⟨ob, 2, none⟩ = some (.int .u64 e0) := blk_cell hob 2
              have b3 : w3.cell? ⟨ob, 3, none⟩ = some (.int .u64 e1) := blk_cell hob 3
              clear b0 F1 hob
              go_wp2_with fail
              refine (refAcceptF_shut (hok'.blk _ _) F3 HC.out e0 e1 _).mono ?_
              rintro e w4 ⟨rfl, F4⟩
              clear b2 b3 F3
              go_wp2_with fail
              go_meet
              exact ⟨lv, p, rfl, rfl, F4.bare, hgp'.up, hl0, by omega⟩
            | false =>
              have HC := Lib.hid hcl
              clear hcl
              have hgg := Lib.hid hgp'
              have hle : (p.all.length : Int) - p.T ≤ p.room := hgp'.2.2.2.1
              by_cases hf : (p.all.length : Int) - p.T = p.room
              · have HF := Lib.hid hf
                clear hf hle hgp'
                go_wp2_with fail
                refine (acceptF_full (hok'.blk _ _) F1 hgg.out (by omega) HC.out HF.out e0 e1).mono ?_
                rintro e w3 ⟨rfl, F3⟩
                have hob := F3.X_blk
                have b2 : w3.cell? ⟨ob, 2, none⟩ = some (.int .u64 e0) := blk_cell hob 2
                have b3 : w3.cell? ⟨ob, 3, none⟩ = some (.int .u64 e1) := blk_cell hob 3
                clear b0 F1 hob
                go_wp2_with fail
                refine (refAcceptF_full (hok'.blk _ _) F3 hgg.out (by omega) HC.out HF.out e0 e1 _).mono ?_
                rintro e w4 ⟨rfl, F4⟩
                clear b2 b3 F3
                go_wp2_with fail
                go_meet
                exact ⟨lv, _, rfl, rfl, F4.bare, by have := hgg.out; unfold PS.good at this ⊢; simp; omega, hl0, by omega⟩
              · have HF : Hid ((p.all.length : Int) - p.T < p.room) := by show _ < _; omega
                clear hf hle hgp'
                go_wp2_with fail
                refine (acceptF_ok (hok'.blk _ _) F1 hgg.out (by omega) HC.out HF.out hl0 hlk e0 e1).mono ?_
                rintro e w3 ⟨rfl, F3⟩
                have hob := F3.X_blk
                have b2 : w3.cell? ⟨ob, 2, none⟩ = some (.int .u64 e0) := blk_cell hob 2
                have b3 : w3.cell? ⟨ob, 3, none⟩ = some (.int .u64 e1) := blk_cell hob 3
                clear b0 F1 hob
                go_wp2_with fail
                refine (refAcceptF_ok (hok'.blk _ _) F3 hgg.out hk8 HC.out HF.out e0 e1 _).mono ?_
                rintro e w4 ⟨rfl, F4⟩
                have hgt : decide (0 < lv + 1) = true := by simp; omega
                clear b2 b3 F3
                go_wp2_with fail
                go_meet
                exact ⟨lv + 1, _, rfl, rfl, F4.bare, by have := hgg.out; have := HF.out; unfold PS.good at *; simp; omega, by omega, by omega⟩
          · have hk0b : (kind == 0) = false := by simpa using hk0
            clear hk0 b2 b3
            by_cases hk1 : kind = 1
            · subst hk1
              clear hk0b
              by_cases hw : waitsOf p.closed p.T p.all = []
              · have HW := Lib.hid hw
                clear hw
                go_wp2_with fail
                refine (takeF_nil (hok'.blk _ _) F1 HW.out).mono ?_
                rintro e w3 ⟨rfl, F3⟩
                have F3' := F3.blk (.cells #[.int .i64 0, .int .u64 0, .int .u64 0] 39)
                clear b0 F1 F3
                unfold qV
                go_wp2_with fail
                refine (refTakeF_nil ((hok'.blk _ _).blk _ _) F3' hgp' HW.out).mono ?_
                rintro e w4 ⟨rfl, F4⟩
                have F4' := F4.fresh (Only.alloc _ w4 (.cells #[.int .i64 0, .int .u64 0, .int .u64 0] 39))
                have hz : ∀ w, _ := fun w => (eQ_eql (0, 0, 0) (0, 0, 0) w).trans (by simp; rfl)
                have hq := F4.X_blk
                have q0' : w4.cell? ⟨w3.heap.size, 0, none⟩ = some (.int .i64 0) := blk_cell hq 0
                have q1' : w4.cell? ⟨w3.heap.size, 1, none⟩ = some (.int .u64 0) := blk_cell hq 1
                have q2' : w4.cell? ⟨w3.heap.size, 2, none⟩ = some (.int .u64 0) := blk_cell hq 2
                have hq3 := heap_lt hq
                clear F3' F4 hq
                unfold qV
                go_wp2_with fail
                go_meet
                exact ⟨lv, p, rfl, rfl, F4'.bare, hgp'.up, hl0, by omega⟩
              · have hct : p.closed = false ∧ p.T < p.all.length := by
                  cases hcl : p.closed with
                  | true => rw [hcl] at hw; exact absurd rfl hw
                  | false =>
                    refine ⟨rfl, ?_⟩
                    by_cases h : p.T < p.all.length
                    · exact h
                    · rw [hcl] at hw; exact absurd (by unfold waitsOf; rw [if_neg (by simp)]; exact List.drop_eq_nil_of_le (by omega)) hw
                have HC := Lib.hid hct.1
                have hlt2 := hct.2
                clear hct hw
                go_wp2_with fail
                refine (takeF_cons (hok'.blk _ _) F1 hgp' (by omega) HC.out hlt2).mono ?_
                rintro e w3 ⟨rfl, F3⟩
                have hz : ∀ w, _ := fun w => (eQ_eql p.all[p.T] p.all[p.T] w).trans (by simp; rfl)
                generalize hqq : p.all[p.T] = qq at *
                have HQQ := Lib.hid hqq
                clear hqq
                have F3' := F3.blk (.cells #[.int .i64 qq.1, .int .u64 qq.2.1, .int .u64 qq.2.2] 39)
                clear b0 F1 F3
                unfold qV
                go_wp2_with fail
                refine (refTakeF_cons ((hok'.blk _ _).blk _ _) F3' hgp' (by omega) HC.out hlt2).mono ?_
                rintro e w4 ⟨rfl, F4⟩
                rw [HQQ.out]
                have hbk := F4.fresh (Only.alloc _ w4 (.cells #[.int .i64 qq.1, .int .u64 qq.2.1, .int .u64 qq.2.2] 39))
                have hq := F4.X_blk
                have q0' : w4.cell? ⟨w3.heap.size, 0, none⟩ = some (.int .i64 qq.1) := blk_cell hq 0
                have q1' : w4.cell? ⟨w3.heap.size, 1, none⟩ = some (.int .u64 qq.2.1) := blk_cell hq 1
                have q2' : w4.cell? ⟨w3.heap.size, 2, none⟩ = some (.int .u64 qq.2.2) := blk_cell hq 2
                have hq3 := heap_lt hq
                clear F3' F4 hq
                unfold qV
                go_wp2_with fail
                go_meet
                exact ⟨lv, _, rfl, rfl, hbk.bare, by have := hgp'; unfold PS.good at *; simp; omega, hl0, by omega⟩
            · have hk1b : (kind == 1) = false := by simpa using hk1
              clear hk1
              by_cases hk2 : kind = 2
              · subst hk2
                clear hk0b hk1b
                go_wp2_with fail
                refine (shutF (hok'.blk _ _) F1 hgp' (by omega)).mono ?_
                rintro e w3 ⟨v3, rfl, F3⟩
                clear b0 F1
                go_wp2_with fail
                refine (refShutF ((hok'.blk _ _).with _ _) F3 hgp').mono ?_
                rintro e w4 ⟨v4, rfl, hr4, F4⟩
                clear F3
                go_wp2_with fail
                refine (queuedF F4 hr4).mono ?_
                rintro e w5 ⟨rfl, F5⟩
                clear F4 hr4
                go_wp2_with fail
                go_meet
                exact ⟨lv, _, rfl, rfl, F5.bare, by have := hgp'; unfold PS.good at *; simp; omega, hl0, by omega⟩
              · have hk2b : (kind == 2) = false := by simpa using hk2
                clear hk2
                by_cases hk3 : kind = 3
                · subst hk3
                  clear hk0b hk1b hk2b
                  go_wp2_with fail
                  refine (waitingF (hok'.blk _ _) F1 hgp').mono ?_
                  rintro e w3 ⟨v3, rfl, F3⟩
                  clear b0 F1
                  go_wp2_with fail
                  refine (refWaitsF F3 hgp').mono ?_
                  rintro e w4 ⟨v4, rfl, hr4, F4⟩
                  clear F3
                  go_wp2_with fail
                  refine (queuedF F4 hr4).mono ?_
                  rintro e w5 ⟨rfl, F5⟩
                  clear F4 hr4
                  go_wp2_with fail
                  go_meet
                  exact ⟨lv, p, rfl, rfl, F5.bare, hgp'.up, hl0, by omega⟩
                · have hk3b : (kind == 3) = false := by simpa using hk3
                  clear hk3
                  go_wp2_with fail
                  go_meet
                  exact ⟨lv, p, rfl, rfl, F1.bare, hgp'.up, hl0, by omega⟩
        case rest =>
          clear F1 hgp' hl0 hlk b0 b2 b3
          obtain ⟨lv', p', rfl, rfl, F5, hg5, hl0, hlk⟩ := hcut
          go_wp2_with fail
          refine (countsF F5 hg5).mono ?_
          rintro e w6 ⟨rfl, F6⟩
          clear F5
          generalize hcc : refCts p'.T p'.rf p'.closed p'.all = cc
          have HCC := Lib.hid hcc
          clear hcc
          unfold Cts.v
          go_wp2_with fail
          refine (refCountsF F6 hg5 (by omega)).mono ?_
          rintro e w7 ⟨rfl, F7⟩
          clear F6
          rw [HCC.out]
          have hz : ∀ w, _ := fun w => (eC_neq cc cc w).trans (by simp; rfl)
          unfold Cts.v
          go_wp2_with fail
          go_roundw
          case rel => exact ⟨k + 1, lv', by omega, by go_num, rfl, HCL.out lv' p' _ F7 hg5 hl0 hlk⟩
          case measure => simp [intOf]; omega
    · have F1 : FInv P.bare w lv p0 p0 q0 wr := F0
      have hokb : P.bare.ok := hok
      have hk8 : k ≤ 8000000000000 := by omega
      obtain ⟨hg1, hg2, hg3, hg4, _⟩ := HPG.out
      subst hg1 hg2 hg3 hg4
      clear F0 HPG HO1 HO2
      go_wp2_with fail
      refine (waitingF hokb F1 hgp).mono ?_
      rintro e w3 ⟨v3, rfl, F3⟩
      clear F1
      go_wp2_with fail
      refine (refWaitsF F3 hgp).mono ?_
      rintro e w4 ⟨v4, rfl, hr4, F4⟩
      clear F3
      go_wp2_with fail
      refine (queuedF F4 hr4).mono ?_
      rintro e w5 ⟨rfl, F5⟩
      have F5' := F5.swap
      clear F4 hr4
      go_wp2_with fail
      refine (waitingF hokb.swap F5' hgq).mono ?_
      rintro e w6 ⟨v6, rfl, F6⟩
      clear F5 F5'
      go_wp2_with fail
      refine (refWaitsF F6 hgq).mono ?_
      rintro e w7 ⟨v7, rfl, hr7, F7⟩
      clear F6
      go_wp2_with fail
      refine (queuedF F7 hr7).mono ?_
      rintro e w8 ⟨rfl, F8⟩
      have F8' := F8.swap
      clear F7 hr7 F8
      go_wp2_with fail
      refine (countsF F8' hgp).mono ?_
      rintro e w9 ⟨rfl, F9⟩
      clear F8'
      generalize hcc : refCts p0.T p0.rf p0.closed p0.all = cc
      have HCC := Lib.hid hcc
      clear hcc
      unfold Cts.v
      go_wp2_with fail
      refine (refCountsF F9 hgp hk8).mono ?_
      rintro e w10 ⟨rfl, F10⟩
      clear F9
      rw [HCC.out]
      have hz : ∀ w, _ := fun w => (eC_eql cc cc w).trans (by simp; rfl)
      have F10' := F10.swap
      clear F10
      unfold Cts.v
      go_wp2_with fail
      refine (countsF F10' hgq).mono ?_
      rintro e w11 ⟨rfl, F11⟩
      clear F10' HCC hz
      generalize hcc2 : refCts q0.T q0.rf q0.closed q0.all = cc2
      have HCC2 := Lib.hid hcc2
      clear hcc2
      unfold Cts.v
      go_wp2_with fail
      refine (refCountsF F11 hgq hk8).mono ?_
      rintro e w12 ⟨rfl, F12⟩
      clear F11
      rw [HCC2.out]
      have hz2 : ∀ w, _ := fun w => (eC_eql cc2 cc2 w).trans (by simp; rfl)
      unfold Cts.v
      go_wp2_with fail
      go_ret
      exact ⟨rfl, F12.below⟩

theorem ringPlays_any (room other : Int) (ops : List OpD) (v : Value) (w : World) (hroom : -9223372036854775808 ≤ room ∧ room ≤ 9223372036854775807) (hother : -9223372036854775808 ≤ other ∧ other ≤ 9223372036854775807) (hv : Rd eOp w v ops) (hl : ops.length * 32 ≤ 140737488351232) (hok : ∀ o ∈ ops, OpD.ok o) :
    Calls Try.prog 4 #[.int .i64 room, .int .i64 other, v] w fun e w' => e = .returned (.bool true) ∧ Below w.heap.size w w' := by
  by_cases hr : room < 1 ∨ 16 < room ∨ other < 1 ∨ 16 < other
  · exact ringPlays_not room other v w hr
  · exact ringPlays_yes room other ops v w (by omega) (by omega) (by omega) (by omega) hv hl (Lib.hid hok)
end Go.Proofs.Ytdpklmaldjohkaa