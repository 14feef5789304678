/- The law RingCounts: its walk. -/
import Derived.Test.YtdpklmaldjohkaaRingAwake
import Derived.Test.YtdpklmaldjohkaaRing5
import Derived.Test.YtdpklmaldjohkaaRingDec
import Derived.Deep.DeepCutAuto
import Derived.Deep.CutBlock
namespace Go.Proofs.Ytdpklmaldjohkaa
open Go.RowKit
set_option linter.unusedVariables false

def CInv (h g : Nat) (room : Int) (w : World) (k : Nat) (nx vl sh : Value) (wr : World) : Prop :=
  ∃ (line : List Qd) (shut : Bool) (r t d : Int) (tag : Nat → Nat), nx = .int .i64 (t + d + line.length + 1) ∧ sh = .bool shut ∧ Arena w.heap.size w wr tag ∧
    NumS h (t + d + line.length) (fun k => tag k = 3) wr ∧ RingS g h room shut line (t + d + line.length) r t d (fun k => tag k = 1) wr ∧
    OwS eQ 39 (fun k => tag k = 2) wr vl line ∧ (line.length : Int) ≤ room ∧ 0 ≤ r ∧ r ≤ k ∧ 0 ≤ t ∧ 0 ≤ d ∧ t + d + line.length ≤ k

theorem CInv.drewN {h g : Nat} {room : Int} {w wr : World} {k : Nat} {nx vl sh : Value} (H : CInv h g room w k nx vl sh wr) (n : Nat) : CInv h g room w k nx vl sh (wr.drewN n) := by
  obtain ⟨line, shut, r, t, d, tag, h1, h2, A, hN, hR, hL, hh⟩ := H
  exact ⟨line, shut, r, t, d, tag, h1, h2, A.drewN n, NumS.framed.drewN hN n, RingS.framed.drewN hR n, OwS.framed.drewN hL n, hh⟩
set_option maxRecDepth 100000 in
set_option maxHeartbeats 4000000 in
theorem ringCounts_any (room : Int) (ops : List OpD) (v : Value) (w : World) (hroom : -9223372036854775808 ≤ room ∧ room ≤ 9223372036854775807) (hv : Rd eOp w v ops) (hl : ops.length * 32 ≤ 140737488351232) (hok : ∀ o ∈ ops, OpD.ok o) :
    Calls Try.prog 5 #[.int .i64 room, v] w fun e w' => e = .returned (.bool true) ∧ Below w.heap.size w w' := by
  clear hok hroom
  obtain ⟨_, ao, cap, rfl, hcap, _, _⟩ := id hv
  go_enter Try.func5, Try.ntmps5
  go_wp2_with fail
  refine (awake_any _).mono ?_
  rintro e w1 ⟨rfl, hb1⟩
  have hsz1 := hb1.size
  by_cases hr : room < 1 ∨ 16 < room
  · go_wp2_with fail
    refine (new_not room _ _ hr).mono ?_
    rintro e w2 ⟨rfl, rfl⟩
    go_wp2_with fail
    go_ret
    exact ⟨rfl, hb1.alloc hsz1 _⟩
  · have hr1 : 1 ≤ room := by omega
    have hr2 : room ≤ 16 := by omega
    clear hr
    go_wp2_with fail
    refine (newS room _ _ hr1 hr2).mono ?_
    rintro e w2 ⟨g, rfl, hR, hO⟩
    obtain ⟨tag1, A1, f1, n1, k1⟩ := (Arena.of_below hb1 (Nat.le_refl _)).step (Only.alloc (fun _ => False) w1 (.cells #[.int .i64 0] 30)) 3 (fun _ h => h.elim)
    have hN1 := n1 _ (NumS.framed (h := w1.heap.size) (last := 0)) ⟨⟨Nat.zero_le _, heap_alloc_new w1 _⟩, .inr (Nat.le_refl _)⟩
    obtain ⟨tag2, A2, f2, n2, k2⟩ := A1.step hO 1 (fun _ h => h.elim)
    have hN2 := f2 _ NumS.framed _ hN1 (fun _ _ h => h)
    have hR2 := n2 _ RingS.framed (RingS.framed.mono _ _ _ hR (fun k _ h => .inr h))
    have hI : CInv w1.heap.size g room w 0 (.int .i64 1) (.slice none 0 0) (.bool false) w2 :=
      ⟨[], false, 0, 0, 0, tag2, rfl, rfl, A2, hN2, hR2, OwS.nil _ _, by simp; omega, by omega, by omega, by omega, by omega, by simp⟩
    clear hR hO hN1 hN2 hR2 f1 f2 n1 n2 k1 k2 A1 A2
    generalize w1.heap.size = h at *
    clear hb1 hsz1
    go_wp2_with fail
    go_loopw [7, 8, 9, 10, 11, 12, 13, 14, 15, 16, 17] (fun nx vl sh i _ _ _ _ _ _ _ wr => ∃ k : Nat, k ≤ ops.length ∧ i = .int .i64 k ∧ CInv h g room w k nx vl sh wr) (fun _ _ _ i _ _ _ _ _ _ _ _ => ops.length - (intOf i).toNat)
    case atStart => exact ⟨0, Nat.zero_le _, rfl, hI⟩
    case round =>
      clear hI
      obtain ⟨k, hk, rfl, line, shut, r, t, d, tag, rfl, rfl, A, hN, hR, hL, hlr, hr0, hrk, ht0, hd0, htd⟩ := hrel
      by_cases hlt : k < ops.length
      · have HV := Lib.hid hv
        obtain ⟨_, ao', cap', hao, _, _, hx⟩ := hv.grow A.below
        obtain ⟨rfl, _, rfl⟩ : ao = ao' ∧ ops.length = ops.length ∧ cap = cap' := by simpa using hao
        obtain ⟨b, off, rfl, hc⟩ := hx (by omega)
        have c0 : wr.cell? ⟨b, off + k * 4, none⟩ = some (.int .i64 ops[k].1) := hc (k * 4) _ ((eOp.all_at ops k 0 hlt (by decide)).trans rfl)
        have c1 : wr.cell? ⟨b, off + k * 4 + 1, none⟩ = some (.int .i64 ops[k].2.1) := by have := hc (k * 4 + 1) _ ((eOp.all_at ops k 1 hlt (by decide)).trans rfl); rw [← Nat.add_assoc] at this; exact this
        have c2 : wr.cell? ⟨b, off + k * 4 + 2, none⟩ = some (.int .u64 ops[k].2.2.1) := by have := hc (k * 4 + 2) _ ((eOp.all_at ops k 2 hlt (by decide)).trans rfl); rw [← Nat.add_assoc] at this; exact this
        have c3 : wr.cell? ⟨b, off + k * 4 + 3, none⟩ = some (.int .u64 ops[k].2.2.2) := by have := hc (k * 4 + 3) _ ((eOp.all_at ops k 3 hlt (by decide)).trans rfl); rw [← Nat.add_assoc] at this; exact this
        clear hc hx hao
        generalize ops[k].1 = kind at c0
        generalize ops[k].2.1 = on at c1
        generalize ops[k].2.2.1 = e0 at c2
        generalize ops[k].2.2.2 = e1 at c3
        go_wp2_with fail
        refine (countsS g h room shut line _ _ _ _ _ _ (RingS.framed.alloc hR _)).mono ?_
        rintro e w3 ⟨rfl, hO3⟩
        obtain ⟨tag3, A3, f3, n3, k3⟩ := A.step ((Only.alloc (fun _ => False) wr (.cells #[.int .i64 kind, .int .i64 on, .int .u64 e0, .int .u64 e1] 37)).tr hO3) 9 (fun _ h => h.elim)
        have hN3 := f3 _ NumS.framed _ hN (fun _ _ h => h)
        have hR3 := f3 _ RingS.framed _ hR (fun _ _ h => h)
        have hL3 := f3 _ OwS.framed _ hL (fun _ _ h => h)
        have hB3 := n3 _ (Blk.framed (g := wr.heap.size)) ⟨hO3.heap (heap_alloc_new wr (.cells #[.int .i64 kind, .int .i64 on, .int .u64 e0, .int .u64 e1] 37)) (fun h => h), .inr (Nat.le_refl _)⟩
        generalize wr.heap.size = ob at *
        clear hN hR hL f3 n3 k3 A c0 c1 c2 c3 hO3
        unfold Cts.v
        have b0 : w3.cell? ⟨ob, 0, none⟩ = some (.int .i64 kind) := blk_cell hB3.1 0
        have b2 : w3.cell? ⟨ob, 2, none⟩ = some (.int .u64 e0) := blk_cell hB3.1 2
        have b3 : w3.cell? ⟨ob, 3, none⟩ = some (.int .u64 e1) := blk_cell hB3.1 3
        have hob := heap_lt hB3.1
        go_upto_block 2 with (fail)
        obtain ⟨tag4, A4, f4, n4, k4⟩ := A3.step (Only.alloc (fun _ => False) w3 (.cells #[.int .i64 (t + d + line.length), .int .i64 r, .int .i64 t, .int .i64 d, .int .i64 line.length] 55)) 9 (fun _ h => h.elim)
        have hN4 := f4 _ NumS.framed _ hN3 (fun _ _ h => h)
        have hR4 := f4 _ RingS.framed _ hR3 (fun _ _ h => h)
        have hL4 := f4 _ OwS.framed _ hL3 (fun _ _ h => h)
        have hB4 := f4 _ Blk.framed _ hB3 (fun _ _ h => h)
        have hC4 := n4 _ (Blk.framed (g := w3.heap.size)) ⟨heap_alloc_new w3 _, .inr (Nat.le_refl _)⟩
        clear hN3 hR3 hL3 hB3 f4 n4 k4 A3 b0 b2 b3 hob
        generalize w3.heap.size = cb at *
        generalize World.alloc w3 _ = w4 at *
        have b0 : w4.cell? ⟨ob, 0, none⟩ = some (.int .i64 kind) := blk_cell hB4.1 0
        have b2 : w4.cell? ⟨ob, 2, none⟩ = some (.int .u64 e0) := blk_cell hB4.1 2
        have b3 : w4.cell? ⟨ob, 3, none⟩ = some (.int .u64 e1) := blk_cell hB4.1 3
        have hob := heap_lt hB4.1
        go_cut [7, 8, 9] (fun nx vl sh wc => CInv h g room w (k + 1) nx vl sh wc)
        case first =>
          by_cases hk1 : kind = 1
          · subst hk1
            cases line with
            | nil =>
              go_wp2_with fail
              refine (take_nilS g h room shut _ _ _ _ _ _ hR4).mono ?_
              rintro e w5 ⟨rfl, hO5⟩
              obtain ⟨tag5, A5, f5, n5, k5⟩ := A4.step (hO5.tr (Only.alloc _ w5 (.cells #[.int .i64 0, .int .u64 0, .int .u64 0] 39))) 9 (fun _ h => h.elim)
              have hN5 := f5 _ NumS.framed _ hN4 (fun _ _ h => h)
              have hR5 := f5 _ RingS.framed _ hR4 (fun _ _ h => h)
              have hL5 := f5 _ OwS.framed _ hL4 (fun _ _ h => h)
              obtain ⟨_, lo, lc, rfl, _⟩ := id hL5.1
              clear hN4 hR4 hL4 hB4 f5 n5 k5 A4 b0 b2 b3 hob
              unfold qV
              go_wp2_with fail
              go_quiet (fail)
              go_wp2_with fail
              go_meet
              exact CInv.drewN ⟨[], shut, r, t, d, tag5, by simp, rfl, A5, hN5, hR5, hL5, hlr, hr0, by omega, ht0, hd0, by simp; simp at htd; omega⟩ nq
            | cons q line =>
              have hq1 : ((q :: line).length : Int) = line.length + 1 := by simp
              rw [hq1] at hlr htd hN4 hR4
              go_wp2_with fail
              refine (take_consS g h room shut q line _ _ _ _ _ _ hR4 (by omega) (by omega)).mono ?_
              rintro e w5 ⟨rfl, hR5, hO5⟩
              obtain ⟨tag5, A5, f5, n5, k5⟩ := A4.step (F := fun k => tag4 k = 1) (hO5.tr (Only.alloc _ w5 (.cells #[.int .i64 q.1, .int .u64 q.2.1, .int .u64 q.2.2] 39))) 1 (fun _ h => by omega)
              have hN5 := f5 _ NumS.framed _ hN4 (fun _ _ h => by omega)
              have hR5 := n5 _ RingS.framed (RingS.framed.alloc hR5 _)
              have hL5 := f5 _ OwS.framed _ hL4 (fun _ _ h => by omega)
              obtain ⟨hmx, lo, lc, rfl, hlc, _⟩ := id hL5.1
              obtain ⟨lb, lf, rfl, _, hat⟩ := hL5.1.at_ 0 (by simp)
              have x0 : (w5.alloc (.cells #[.int .i64 q.1, .int .u64 q.2.1, .int .u64 q.2.2] 39)).cell? ⟨lb, lf, none⟩ = some (.int .i64 q.1) := (hat 0 (by decide)).1
              have x1 : (w5.alloc (.cells #[.int .i64 q.1, .int .u64 q.2.1, .int .u64 q.2.2] 39)).cell? ⟨lb, lf + 1, none⟩ = some (.int .u64 q.2.1) := (hat 1 (by decide)).1
              have x2 : (w5.alloc (.cells #[.int .i64 q.1, .int .u64 q.2.1, .int .u64 q.2.2] 39)).cell? ⟨lb, lf + 2, none⟩ = some (.int .u64 q.2.2) := (hat 2 (by decide)).1
              have hz : ∀ w, _ := fun w => (eQ_neq q q w).trans (by simp; rfl)
              obtain ⟨n, hn⟩ : ∃ n, n = (q :: line).length := ⟨_, rfl⟩
              have hT5 := hL5.tail
              rw [← hn] at hlc hT5 hmx
              rw [← hn]
              have hn1 : 1 ≤ n := by rw [hn]; simp
              unfold maxLen at hmx
              have HN := Lib.hid hn
              have HT := Lib.hid hT5
              clear hN4 hR4 hL4 hB4 f5 n5 k5 A4 b0 b2 b3 hob hat hn hL5 hT5 hO5
              have hfin : ∀ vl, OwS eQ 39 (fun k => tag5 k = 2) (w5.alloc (.cells #[.int .i64 q.1, .int .u64 q.2.1, .int .u64 q.2.2] 39)) vl line → CInv h g room w (k + 1) (.int .i64 (t + d + ((n : Nat) : Int) + 1)) vl (.bool shut) (w5.alloc (.cells #[.int .i64 q.1, .int .u64 q.2.1, .int .u64 q.2.2] 39)) := fun vl hvl => by
                have e1 : t + d + ((line.length : Int) + 1) = t + 1 + d + line.length := by omega
                rw [e1] at hN5 hR5
                have e2 : (n : Int) = line.length + 1 := by rw [HN.out]; exact hq1
                exact ⟨line, shut, r, t + 1, d, tag5, by rw [e2]; congr 1; omega, rfl, A5, hN5, hR5, hvl, by omega, hr0, by omega, by omega, hd0, by omega⟩
              have HF := Lib.hid hfin
              clear hfin hN5 hR5
              by_cases hc : lc = 1
              · obtain rfl : n = 1 := by omega
                subst hc
                have hs := HT.out
                rw [if_pos rfl] at hs
                have HS := Lib.hid hs
                clear hs HT
                unfold qV
                go_wp2_with fail
                go_quiet (fail)
                go_wp2_with fail
                go_meet
                exact (HF.out _ HS.out).drewN nq
              · have hs := HT.out
                rw [if_neg hc] at hs
                have HS := Lib.hid hs
                have hgt : decide ((0 : Int) < (n : Int)) = true := by simp; omega
                have hgt2 : (0 : Int) < (n : Int) := by omega
                have hgt3 : 0 < n := by omega
                have hgt4 : decide (0 < n) = true := by simpa using hgt3
                clear hs HT
                unfold qV
                go_wp2_with fail
                go_quiet (fail)
                go_wp2_with fail
                go_meet
                exact (HF.out _ HS.out).drewN nq
          · have hk1b : (kind == 1) = false := by simpa using hk1
            by_cases hk2 : kind = 2
            · subst hk2
              clear hk1 hk1b
              have hl16 : line.length ≤ 1000 := by omega
              go_wp2_with fail
              refine (shutS g h room shut line _ _ _ _ _ _ hR4 hl16 hd0 (by omega)).mono ?_
              rintro e w5 ⟨v5, rfl, hv5, hR5, hO5⟩
              obtain ⟨tag5, A5, f5, n5, k5⟩ := A4.step hO5 9 (fun _ h => by omega)
              have hN5 := f5 _ NumS.framed _ hN4 (fun _ _ h => by omega)
              have hR5 := k5 _ RingS.framed _ hR5
              have hL5 := f5 _ OwS.framed _ hL4 (fun _ _ h => by omega)
              have hrd1 := hv5.rd
              have hrd2 := hL5.rd
              clear hN4 hR4 hL4 hB4 f5 n5 k5 A4 b0 b2 b3 hob hO5 hL5 hv5
              go_wp2_with fail
              refine (queued_eq line v5 u8 _ hrd1 hrd2).mono ?_
              rintro e w6 ⟨rfl, hO6⟩
              obtain ⟨tag6, A6, f6, n6, k6⟩ := A5.step hO6 9 (fun _ h => h.elim)
              have hN6 := f6 _ NumS.framed _ hN5 (fun _ _ h => h)
              have hR6 := f6 _ RingS.framed _ hR5 (fun _ _ h => h)
              clear hN5 hR5 f6 n6 k6 A5 hO6 hrd1 hrd2
              go_wp2_with fail
              go_meet
              have e1 : t + d + (line.length : Int) = t + (d + line.length) + (([] : List Qd).length : Nat) := by simp; omega
              rw [e1] at hN6 hR6
              exact ⟨[], true, r, t, d + line.length, tag6, by simp; omega, rfl, A6, hN6, hR6, OwS.nil _ _, by simp; omega, hr0, by omega, ht0, by omega, by simp; omega⟩
            · have hk2b : (kind == 2) = false := by simpa using hk2
              clear hk1 hk2
              cases shut
              · by_cases hf : room = line.length
                · have hfb : ((line.length : Int) == room) = true := by simp [hf]
                  have HF := Lib.hid hf
                  clear hf
                  go_wp2_with fail
                  refine (accept_fullS g h room line _ _ _ _ _ _ hR4 e0 e1 HF.out hr0 (by omega)).mono ?_
                  rintro e w5 ⟨rfl, hR5, hO5⟩
                  obtain ⟨tag5, A5, f5, n5, k5⟩ := A4.step hO5 1 (fun _ h => by omega)
                  have hN5 := f5 _ NumS.framed _ hN4 (fun _ _ h => by omega)
                  have hR5 := n5 _ RingS.framed hR5
                  have hL5 := f5 _ OwS.framed _ hL4 (fun _ _ h => by omega)
                  have hC5 := f5 _ Blk.framed _ hC4 (fun _ _ h => by omega)
                  have d4 : w5.cell? ⟨cb, 4, none⟩ = some (.int .i64 line.length) := blk_cell hC5.1 4
                  clear hN4 hR4 hL4 hB4 hC4 f5 n5 k5 A4 b0 b2 b3 hob hO5 hC5
                  go_wp2_with fail
                  go_meet
                  exact ⟨line, false, r + 1, t, d, tag5, rfl, rfl, A5, hN5, hR5, hL5, hlr, by omega, by omega, ht0, hd0, by omega⟩
                · have hfb : ((line.length : Int) == room) = false := by simp; omega
                  go_wp2_with fail
                  refine (accept_okS g h room _ line _ _ _ _ _ _ _ hR4 hN4 e0 e1 hf (by omega) (by omega) (by omega) (by omega) (by omega)).mono ?_
                  rintro e w5 ⟨rfl, hR5, hN5, hO5⟩
                  obtain ⟨tag5, A5, f5, n5, k5⟩ := A4.step hO5 1 (fun _ h => by omega)
                  have hN5 := k5 _ NumS.framed _ hN5
                  have hR5 := n5 _ RingS.framed hR5
                  have hL5 := f5 _ OwS.framed _ hL4 (fun _ _ h => by omega)
                  have hB5 := f5 _ Blk.framed _ hB4 (fun _ _ h => by omega)
                  have hC5 := f5 _ Blk.framed _ hC4 (fun _ _ h => by omega)
                  have d4 : w5.cell? ⟨cb, 4, none⟩ = some (.int .i64 line.length) := blk_cell hC5.1 4
                  have b2 : w5.cell? ⟨ob, 2, none⟩ = some (.int .u64 e0) := blk_cell hB5.1 2
                  have b3 : w5.cell? ⟨ob, 3, none⟩ = some (.int .u64 e1) := blk_cell hB5.1 3
                  have hob := heap_lt hB5.1
                  clear hN4 hR4 hL4 hB4 hC4 f5 n5 k5 A4 b0 hO5 hC5 hB5
                  have hn0 : (t + d + (line.length : Int) + 1 == 0) = false := by simp; omega
                  have hrd : Rd eQ (w5.alloc (.cells #[.int .i64 (t + d + line.length + 1), .int .u64 e0, .int .u64 e1] 39)) _ [(t + d + line.length + 1, e0, e1)] := Rd.lit w5 #[.int .i64 (t + d + line.length + 1), .int .u64 e0, .int .u64 e1] 39 (0, 0) 1 1 [(t + d + line.length + 1, e0, e1)] (by simp [Enc.all]) rfl (Nat.le_refl _) (by decide)
                  have hLa := OwS.framed.alloc hL5 (.cells #[.int .i64 (t + d + line.length + 1), .int .u64 e0, .int .u64 e1] 39)
                  go_wp2_with (at_builtin; refine wl_appendS (E := eQ) rfl _ (.tmp 89) _ rfl 39 24 eQ_slice _ _ line rfl hLa _ [(t + d + line.length + 1, e0, e1)] rfl hrd (by simp; omega) (by unfold maxLen; simp; omega) ?_)
                  intro v6 w6 hL6 hO6
                  obtain ⟨tag6, A6, f6, n6, k6⟩ := A5.step ((Only.alloc _ _ _).tr hO6) 2 (fun _ h => by omega)
                  have hN6 := f6 _ NumS.framed _ hN5 (fun _ _ h => by omega)
                  have hR6 := f6 _ RingS.framed _ hR5 (fun _ _ h => by omega)
                  have hL6 := n6 _ OwS.framed (OwS.framed.widen hL6 (by omega))
                  clear hN5 hR5 hL5 f6 n6 k6 A5 hO6 hLa hrd b2 b3 d4 hob
                  go_wp2_with fail
                  go_meet
                  have e1' : t + d + (line.length : Int) + 1 = t + d + ((line ++ [(t + d + (line.length : Int) + 1, e0, e1)]).length : Nat) := by simp; omega
                  exact ⟨_, false, r, t, d, tag6, by rw [← e1'], rfl, A6, by rw [← e1']; exact hN6, by rw [← e1']; exact hR6, hL6, by simp; omega, hr0, by omega, ht0, hd0, by simp; omega⟩
              · go_wp2_with fail
                refine (accept_shutS g h room line _ _ _ _ _ _ hR4 e0 e1).mono ?_
                rintro e w5 ⟨rfl, hO5⟩
                obtain ⟨tag5, A5, f5, n5, k5⟩ := A4.step hO5 9 (fun _ h => h.elim)
                have hN5 := f5 _ NumS.framed _ hN4 (fun _ _ h => h)
                have hR5 := f5 _ RingS.framed _ hR4 (fun _ _ h => h)
                have hL5 := f5 _ OwS.framed _ hL4 (fun _ _ h => h)
                clear hN4 hR4 hL4 hB4 f5 n5 k5 A4 b0 b2 b3 hob hO5
                go_wp2_with fail
                go_meet
                exact ⟨line, true, r, t, d, tag5, rfl, rfl, A5, hN5, hR5, hL5, hlr, hr0, by omega, ht0, hd0, by omega⟩
        case rest =>
          obtain ⟨line, shut, r, t, d, tag, rfl, rfl, A, hN, hR, hL, hlr, hr0, hrk, ht0, hd0, htd⟩ := hcut
          go_wp2_with fail
          refine (countsS g h room shut line _ _ _ _ _ _ hR).mono ?_
          rintro e w9 ⟨rfl, hO9⟩
          obtain ⟨_, lo, lc, rfl, _⟩ := id hL.1
          obtain ⟨tag9, A9, f9, n9, k9⟩ := A.step (hO9.tr (Only.alloc _ w9 (.cells #[.int .i64 (t + d + line.length), .int .i64 r, .int .i64 t, .int .i64 d, .int .i64 line.length] 55))) 9 (fun _ h => h.elim)
          have hN9 := f9 _ NumS.framed _ hN (fun _ _ h => h)
          have hR9 := f9 _ RingS.framed _ hR (fun _ _ h => h)
          have hL9 := f9 _ OwS.framed _ hL (fun _ _ h => h)
          clear hN hR hL f9 n9 k9 A hO9
          unfold Cts.v
          go_wp2_with fail
          go_roundw
          case rel => exact ⟨k + 1, by omega, by go_num, line, shut, r, t, d, tag9, rfl, rfl, A9, hN9, hR9, hL9, hlr, hr0, hrk, ht0, hd0, htd⟩
          case measure => simp [intOf]; omega
      · go_wp2_with fail
        refine (waitingS g h room shut line _ _ _ _ _ _ hR (by omega)).mono ?_
        rintro e w3 ⟨v3, rfl, hs3, hO3⟩
        obtain ⟨tag3, A3, f3, n3, k3⟩ := A.step hO3 5 (fun _ h => h.elim)
        have hL3 := f3 _ OwS.framed _ hL (fun _ _ h => h)
        go_wp2_with fail
        refine (queued_eq line v3 u8 _ hs3.rd hL3.rd).mono ?_
        rintro e w6 ⟨rfl, hO6⟩
        obtain ⟨tag6, A6, f6, n6, k6⟩ := A3.step hO6 9 (fun _ h => h.elim)
        go_wp2_with fail
        go_ret
        exact ⟨rfl, A6.below⟩
end Go.Proofs.Ytdpklmaldjohkaa
