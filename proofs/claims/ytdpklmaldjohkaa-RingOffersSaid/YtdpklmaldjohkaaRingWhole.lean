/- The law RingWhole: its walk. -/
import Derived.Test.YtdpklmaldjohkaaRingAwake
import Derived.Test.YtdpklmaldjohkaaQueued
import Derived.Test.YtdpklmaldjohkaaRingDec
namespace Go.Proofs.Ytdpklmaldjohkaa
open Go.RowKit
set_option linter.unusedVariables false

/-- the events, numbered from 1 -/
def numbered (ins : List Ev) : List Qd := ins.mapIdx fun i e => ((i : Int) + 1, e.1, e.2)
theorem numbered_snoc (ins : List Ev) (e : Ev) : numbered (ins ++ [e]) = numbered ins ++ [((ins.length : Int) + 1, e.1, e.2)] := by
  simp [numbered, List.mapIdx_append]

theorem numbered_len (ins : List Ev) : (numbered ins).length = ins.length := by simp [numbered]
theorem numbered_at (ins : List Ev) (k : Nat) (h : k < ins.length) : (numbered ins)[k]'(by rw [numbered_len]; exact h) = ((k : Int) + 1, ins[k].1, ins[k].2) := by simp [numbered]
def WInv (n : Nat) (h g : Nat) (room : Int) (w : World) (k : Nat) (vin vout : Value) (wr : World) : Prop :=
  ∃ (ins : List Ev) (outs line : List Qd) (rf : Int) (tag : Nat → Nat), Arena w.heap.size w wr tag ∧
    NumS h ins.length (fun k => tag k = 3) wr ∧ RingS g h room false line ins.length rf outs.length 0 (fun k => tag k = 1) wr ∧
    OwS eE 35 (fun k => tag k = 2) wr vin ins ∧ OwS eQ 39 (fun k => tag k = 4) wr vout outs ∧
    outs ++ line = numbered ins ∧ (line.length : Int) ≤ room ∧ ins.length ≤ k ∧ outs.length ≤ k ∧ 0 ≤ rf ∧ rf ≤ k

theorem new_notS (room : Int) (h : Nat) (w : World) (h1 : room < 1 ∨ 16 < room) :
    Calls Try.prog 8 #[.int .i64 room, .pointer (some ⟨h, 0, none⟩)] w fun e w' => e = .returned (.tuple #[.pointer none, .int .i64 2]) ∧ w = w' := new_not room h w h1

set_option maxRecDepth 100000 in
set_option maxHeartbeats 4000000 in
theorem ringWhole_any (room : Int) (ops : List OpD) (v : Value) (w : World) (hroom : -9223372036854775808 ≤ room ∧ room ≤ 9223372036854775807) (hv : Rd eOp w v ops) (hl : ops.length * 32 ≤ 140737488351232) (hok : ∀ o ∈ ops, OpD.ok o) :
    Calls Try.prog 3 #[.int .i64 room, v] w fun e w' => e = .returned (.bool true) ∧ Below w.heap.size w w' := by
  clear hok hroom
  obtain ⟨_, ao, cap, rfl, hcap, _, _⟩ := id hv
  go_enter Try.func3, Try.ntmps3
  go_wp2_with fail
  refine (awake_any _).mono ?_
  rintro e w1 ⟨rfl, hb1⟩
  have hsz1 := hb1.size
  by_cases hr : room < 1 ∨ 16 < room
  · go_wp2_with fail
    refine (new_notS room _ _ hr).mono ?_
    rintro e w2 ⟨rfl, rfl⟩
    go_wp2_with fail
    go_ret
    exact ⟨rfl, hb1.alloc hsz1 _⟩
  · have hr1 : 1 ≤ room := by omega
    have hr2 : room ≤ 16 := by omega
    clear hr
    go_wp2_with fail
    refine (newS room _ _ hr1 hr2).mono ?_
    rintro e w2 ⟨g, rfl, hR, hO⟩
    obtain ⟨tag1, A1, f1, n1, k1⟩ := (Arena.of_below hb1 (Nat.le_refl _)).step (Only.alloc (fun _ => False) w1 (.cells #[.int .i64 0] 30)) 3 (fun _ h => h.elim)
    have hN1 := n1 _ (NumS.framed (h := w1.heap.size) (last := 0)) ⟨⟨Nat.zero_le _, heap_alloc_new w1 _⟩, .inr (Nat.le_refl _)⟩
    obtain ⟨tag2, A2, f2, n2, k2⟩ := A1.step hO 1 (fun _ h => h.elim)
    have hN2 := f2 _ NumS.framed _ hN1 (fun _ _ h => h)
    have hR2 := n2 _ RingS.framed (RingS.framed.mono _ _ _ hR (fun k _ h => .inr h))
    have hI : WInv ops.length w1.heap.size g room w 0 (.slice none 0 0) (.slice none 0 0) w2 :=
      ⟨[], [], [], 0, tag2, A2, hN2, hR2, OwS.nil _ _, OwS.nil _ _, rfl, by simp; omega, Nat.le_refl _, Nat.le_refl _, by omega, by omega⟩
    clear hR hO hN1 hN2 hR2 f1 f2 n1 n2 k1 k2 A1 A2
    generalize w1.heap.size = h at *
    have hsz2 : w.heap.size ≤ w2.heap.size := by obtain ⟨_, _, _, _, _, A, _⟩ := hI; exact A.size
    clear hb1 hsz1
    go_wp2_with fail
    go_loopw [7, 8, 9, 10, 11, 12, 13] (fun vin vout i _ _ _ _ wr => ∃ k : Nat, k ≤ ops.length ∧ i = .int .i64 k ∧ WInv ops.length h g room w k vin vout wr) (fun _ _ i _ _ _ _ _ => ops.length - (intOf i).toNat)
    case atStart => exact ⟨0, Nat.zero_le _, rfl, hI⟩
    case round =>
      clear hI hsz2
      obtain ⟨k, hk, rfl, ins, outs, line, rf, tag, A, hN, hR, hin, hout, hnum, hlr, hik, hok, hrf0, hrf1⟩ := hrel
      have HNUM := Lib.hid hnum
      clear hnum
      by_cases hlt : k < ops.length
      · have HV := Lib.hid hv
        obtain ⟨_, ao', cap', hao, _, _, hx⟩ := hv
        obtain ⟨rfl, _, rfl⟩ : ao = ao' ∧ ops.length = ops.length ∧ cap = cap' := by simpa using hao
        obtain ⟨b, off, rfl, hc⟩ := hx (by omega)
        have hlb : b < w.heap.size := Rd.lt HV.out (by omega)
        have C0 : w.cell? ⟨b, off + k * 4, none⟩ = some (.int .i64 ops[k].1) := hc (k * 4) _ ((eOp.all_at ops k 0 hlt (by decide)).trans rfl)
        have C2 : w.cell? ⟨b, off + k * 4 + 2, none⟩ = some (.int .u64 ops[k].2.2.1) := by have := hc (k * 4 + 2) _ ((eOp.all_at ops k 2 hlt (by decide)).trans rfl); rw [← Nat.add_assoc] at this; exact this
        have C3 : w.cell? ⟨b, off + k * 4 + 3, none⟩ = some (.int .u64 ops[k].2.2.2) := by have := hc (k * 4 + 3) _ ((eOp.all_at ops k 3 hlt (by decide)).trans rfl); rw [← Nat.add_assoc] at this; exact this
        clear hc hx hao
        generalize ops[k].1 = kind at C0
        generalize ops[k].2.2.1 = e0 at C2
        generalize ops[k].2.2.2 = e1 at C3
        have HC2 := Lib.hid C2
        have HC3 := Lib.hid C3
        have c0 := (A.below.cell (p := ⟨b, off + k * 4, none⟩) hlb).trans C0
        have c2 := (A.below.cell (p := ⟨b, off + k * 4 + 2, none⟩) hlb).trans C2
        have c3 := (A.below.cell (p := ⟨b, off + k * 4 + 3, none⟩) hlb).trans C3
        clear C0 C2 C3
        by_cases hkind : kind = 1
        · subst hkind
          cases line with
          | nil =>
            go_wp2_with fail
            refine (take_nilS g h room false _ _ _ _ _ _ hR).mono ?_
            rintro e w3 ⟨rfl, hO3⟩
            obtain ⟨tag3, A3, f3, n3, k3⟩ := A.step (hO3.tr (Only.alloc _ _ (.cells #[.int .i64 0, .int .u64 0, .int .u64 0] 39))) 9 (fun _ h => h.elim)
            have hN3 := f3 _ NumS.framed _ hN (fun _ _ h => h)
            have hR3 := f3 _ RingS.framed _ hR (fun _ _ h => h)
            have hin3 := f3 _ OwS.framed _ hin (fun _ _ h => h)
            have hout3 := f3 _ OwS.framed _ hout (fun _ _ h => h)
            clear hN hR hin hout f3 n3 k3 A c0 c2 c3
            unfold qV
            go_wp2_with fail
            go_roundw
            case rel => exact ⟨k + 1, by omega, by go_num, ins, outs, [], rf, tag3, A3, hN3, hR3, hin3, hout3, HNUM.out, hlr, by omega, by omega, hrf0, by omega⟩
            case measure => simp [intOf]; omega
          | cons q line =>
            simp only [List.length_cons] at hlr
            go_wp2_with fail
            refine (take_consS g h room false q line _ _ _ _ _ _ hR (by omega) (by omega)).mono ?_
            rintro e w3 ⟨rfl, hR3, hO3⟩
            obtain ⟨tag3, A3, f3, n3, k3⟩ := A.step hO3 1 (fun _ h => by omega)
            have hN3 := f3 _ NumS.framed _ hN (fun _ _ h => by omega)
            have hR3 := n3 _ RingS.framed hR3
            have hin3 := f3 _ OwS.framed _ hin (fun _ _ h => by omega)
            have hout3 := f3 _ OwS.framed _ hout (fun _ _ h => by omega)
            clear hN hR hin hout f3 n3 k3 A c0 c2 c3
            have hob := OwS.framed.alloc (OwS.framed.alloc hout3 (.cells #[.int .i64 q.1, .int .u64 q.2.1, .int .u64 q.2.2] 39)) (.cells #[.int .i64 q.1, .int .u64 q.2.1, .int .u64 q.2.2] 39)
            have hrd : Rd eQ ((w3.alloc (.cells #[.int .i64 q.1, .int .u64 q.2.1, .int .u64 q.2.2] 39)).alloc (.cells #[.int .i64 q.1, .int .u64 q.2.1, .int .u64 q.2.2] 39)) _ [q] := Rd.lit2 w3 _ #[.int .i64 q.1, .int .u64 q.2.1, .int .u64 q.2.2] 39 (0, 0) 1 1 [q] (by simp [Enc.all]) rfl (Nat.le_refl _) (by decide)
            unfold qV
            go_wp2_with (at_builtin; refine wl_appendS (E := eQ) rfl _ (.tmp 56) _ rfl 39 24 eQ_slice _ _ outs rfl hob _ [q] rfl hrd (by simp; omega) (by unfold maxLen; simp; omega) ?_)
            intro v4 w4 hout4 hO4
            have hO34 : Only (fun k => tag3 k = 4) w3 w4 := ((Only.alloc _ _ _).tr (Only.alloc _ _ _)).tr hO4
            obtain ⟨tag4, A4, f4, n4, k4⟩ := A3.step hO34 4 (fun _ h => by omega)
            have hN4 := f4 _ NumS.framed _ hN3 (fun _ _ h => by omega)
            have hR4 := f4 _ RingS.framed _ hR3 (fun _ _ h => by omega)
            have hin4 := f4 _ OwS.framed _ hin3 (fun _ _ h => by omega)
            have hout4 := n4 _ OwS.framed (OwS.framed.widen hout4 (by omega))
            clear hN3 hR3 hin3 hout3 f4 n4 k4 A3 hO3 hO4 hO34 hob hrd
            go_wp2_with fail
            go_roundw
            case rel => exact ⟨k + 1, by omega, by go_num, ins, outs ++ [q], line, rf, tag4, A4, hN4, by simpa using hR4, hin4, hout4, by rw [List.append_assoc]; exact HNUM.out, by omega, by omega, by simp; omega, hrf0, by omega⟩
            case measure => simp [intOf]; omega
        · have hk1 : (kind == 1) = false := by simpa using hkind
          clear hkind
          by_cases hfull : (line.length : Int) = room
          · have HF := Lib.hid hfull
            clear hfull
            go_wp2_with fail
            refine (accept_fullS g h room line _ _ _ _ _ _ hR e0 e1 HF.out.symm hrf0 (by omega)).mono ?_
            rintro e w3 ⟨rfl, hR3, hO3⟩
            obtain ⟨tag3, A3, f3, n3, k3⟩ := A.step hO3 1 (fun _ h => by omega)
            have hN3 := f3 _ NumS.framed _ hN (fun _ _ h => by omega)
            have hR3 := n3 _ RingS.framed hR3
            have hin3 := f3 _ OwS.framed _ hin (fun _ _ h => by omega)
            have hout3 := f3 _ OwS.framed _ hout (fun _ _ h => by omega)
            clear hN hR hin hout f3 n3 k3 A c0 c2 c3
            go_wp2_with fail
            go_roundw
            case rel => exact ⟨k + 1, by omega, by go_num, ins, outs, line, rf + 1, tag3, A3, hN3, hR3, hin3, hout3, HNUM.out, hlr, by omega, by omega, by omega, by omega⟩
            case measure => simp [intOf]; omega
          · go_wp2_with fail
            refine (accept_okS g h room _ line _ _ _ _ _ _ _ hR hN e0 e1 (fun h => hfull h.symm) (by omega) (by omega) (by omega) (by omega) (by omega)).mono ?_
            rintro e w3 ⟨rfl, hR3, hN3, hO3⟩
            obtain ⟨tag3, A3, f3, n3, k3⟩ := A.step hO3 1 (fun _ h => by omega)
            have hN3 := k3 _ NumS.framed _ hN3
            have hR3 := n3 _ RingS.framed (RingS.framed.mono _ _ _ hR3 (fun _ _ h => h))
            have hin3 := f3 _ OwS.framed _ hin (fun _ _ h => by omega)
            have hout3 := f3 _ OwS.framed _ hout (fun _ _ h => by omega)
            have c2' := (A3.below.cell (p := ⟨b, off + k * 4 + 2, none⟩) hlb).trans HC2.out
            have c3' := (A3.below.cell (p := ⟨b, off + k * 4 + 3, none⟩) hlb).trans HC3.out
            clear hN hR hin hout f3 n3 k3 A c0 c2 c3
            have hob := OwS.framed.alloc hin3 (.cells #[.int .u64 e0, .int .u64 e1] 35)
            have hrd : Rd eE (w3.alloc (.cells #[.int .u64 e0, .int .u64 e1] 35)) _ [(e0, e1)] := Rd.lit w3 #[.int .u64 e0, .int .u64 e1] 35 (0, 0) 1 1 [(e0, e1)] (by simp [Enc.all]) rfl (Nat.le_refl _) (by decide)
            go_wp2_with (at_builtin; refine wl_appendS (E := eE) rfl _ (.tmp 76) _ rfl 35 16 eE_slice _ _ ins rfl hob _ [(e0, e1)] rfl hrd (by simp; omega) (by unfold maxLen; simp; omega) ?_)
            intro v4 w4 hin4 hO4
            have hO34 : Only (fun k => tag3 k = 2) w3 w4 := (Only.alloc _ _ _).tr hO4
            obtain ⟨tag4, A4, f4, n4, k4⟩ := A3.step hO34 2 (fun _ h => by omega)
            have hN4 := f4 _ NumS.framed _ hN3 (fun _ _ h => by omega)
            have hR4 := f4 _ RingS.framed _ hR3 (fun _ _ h => by omega)
            have hout4 := f4 _ OwS.framed _ hout3 (fun _ _ h => by omega)
            have hin4 := n4 _ OwS.framed (OwS.framed.widen hin4 (by omega))
            clear hN3 hR3 hin3 hout3 f4 n4 k4 A3 hO3 hO4 hO34 hob hrd c2' c3'
            go_wp2_with fail
            go_roundw
            case rel =>
              have hln : ((ins ++ [(e0, e1)]).length : Int) = ins.length + 1 := by simp
              refine ⟨k + 1, by omega, by go_num, ins ++ [(e0, e1)], outs, line ++ [((ins.length : Int) + 1, e0, e1)], rf, tag4, A4, by rw [hln]; exact hN4, by rw [hln]; exact hR4, hin4, hout4, ?_, by simp; omega, by simp; omega, by omega, by omega, by omega⟩
              rw [numbered_snoc, ← List.append_assoc, HNUM.out]
            case measure => simp [intOf]; omega
      · go_wp2_with fail
        refine (shutS g h room false line _ _ _ _ _ _ hR (by omega) (by decide) (by decide)).mono ?_
        rintro e w3 ⟨v3, rfl, hs3, hR3, hO3⟩
        obtain ⟨tag3, A3, f3, n3, k3⟩ := A.step hO3 5 (fun _ h => by omega)
        have hR3 := k3 _ RingS.framed _ hR3
        have hin3 := f3 _ OwS.framed _ hin (fun _ _ h => by omega)
        have hout3 := f3 _ OwS.framed _ hout (fun _ _ h => by omega)
        have hlen : outs.length + line.length = ins.length := by have := congrArg List.length HNUM.out; rw [numbered_len] at this; simpa using this
        have hrd := hs3.rd
        clear hN hR hin hout f3 n3 k3 A
        go_wp2_with (at_builtin; refine wl_appendS (E := eQ) rfl _ (.tmp 80) _ rfl 39 24 eQ_slice _ _ outs rfl hout3 _ line rfl hrd (by omega) (by unfold maxLen; omega) ?_)
        intro v4 w4 hout4 hO4
        obtain ⟨tag4, A4, f4, n4, k4⟩ := A3.step hO4 4 (fun _ h => by omega)
        have hR4 := f4 _ RingS.framed _ hR3 (fun _ _ h => by omega)
        have hin4 := f4 _ OwS.framed _ hin3 (fun _ _ h => by omega)
        have hout4 := n4 _ OwS.framed hout4
        rw [HNUM.out] at hout4
        have rin := hin4.rd
        have rout := hout4.rd
        clear hout3 hin3 hin4 hout4 hR3 hO3 hO4 f4 n4 k4 A3 hs3 hrd
        obtain ⟨mi, ai, ci, rfl, hci, _, xi⟩ := rin
        obtain ⟨mo, ao2, co, rfl, hco, _, xo⟩ := rout
        rw [numbered_len] at hco xo mo
        rw [numbered_len]
        obtain ⟨n, hn⟩ : ∃ n, n = ins.length := ⟨_, rfl⟩
        have HN := Lib.hid hn
        rw [← hn] at hco xo mo hci xi mi hlen hik
        rw [← hn]
        clear hn
        unfold maxLen at mi
        go_wp2_with fail
        go_loopw [14] (fun i wq => ∃ k m : Nat, k ≤ n ∧ i = .int .i64 k ∧ wq = w4.drewN m) (fun i _ => n - (intOf i).toNat)
        case atStart => exact ⟨0, 0, Nat.zero_le _, rfl, rfl⟩
        case round =>
          obtain ⟨j, m, hj, rfl, rfl⟩ := hrel
          by_cases hjn : j < n
          · obtain ⟨bi, oi, rfl, hi⟩ := xi (by omega)
            obtain ⟨bo, oo, rfl, ho⟩ := xo (by omega)
            have hji : j < ins.length := by have := HN.out; omega
            have hjo : j < (numbered ins).length := by rw [numbered_len]; exact hji
            have hat := numbered_at ins j hji
            have i0 : w4.cell? ⟨bi, oi + j * 2, none⟩ = some (.int .u64 ins[j].1) := hi (j * 2) _ ((eE.all_at ins j 0 hji (by decide)).trans rfl)
            have i1 : w4.cell? ⟨bi, oi + j * 2 + 1, none⟩ = some (.int .u64 ins[j].2) := by have := hi (j * 2 + 1) _ ((eE.all_at ins j 1 hji (by decide)).trans rfl); rw [← Nat.add_assoc] at this; exact this
            have p0 : w4.cell? ⟨bo, oo + j * 3, none⟩ = some (.int .i64 (numbered ins)[j].1) := ho (j * 3) _ ((eQ.all_at (numbered ins) j 0 hjo (by decide)).trans rfl)
            have p1 : w4.cell? ⟨bo, oo + j * 3 + 1, none⟩ = some (.int .u64 (numbered ins)[j].2.1) := by have := ho (j * 3 + 1) _ ((eQ.all_at (numbered ins) j 1 hjo (by decide)).trans rfl); rw [← Nat.add_assoc] at this; exact this
            have p2 : w4.cell? ⟨bo, oo + j * 3 + 2, none⟩ = some (.int .u64 (numbered ins)[j].2.2) := by have := ho (j * 3 + 2) _ ((eQ.all_at (numbered ins) j 2 hjo (by decide)).trans rfl); rw [← Nat.add_assoc] at this; exact this
            rw [hat] at p0 p1 p2
            have hz : ∀ w, _ := fun w => (eE_neq ins[j] ins[j] w).trans (by simp; rfl)
            clear hat hi ho
            generalize ins[j].1 = e0 at *
            generalize ins[j].2 = e1 at *
            clear hji hjo
            go_wp2
            go_quiet (fail)
            go_wp2
            go_roundw
            case rel => exact ⟨j + 1, m + nq, by omega, by go_num, rfl⟩
            case measure => simp [intOf]; omega
          · go_wp2_with fail
            refine (waitingS g h room true [] _ _ _ _ _ _ (RingS.framed.drewN hR4 m) (by simp)).mono ?_
            rintro e w5 ⟨v5, rfl, h5, hO5⟩
            obtain ⟨_, a5, c5, rfl, _⟩ := h5.rd
            have hb := (A4.step ((Only.refl (fun _ => False) w4).drewN m |>.tr hO5) 9 (fun _ h => h.elim))
            obtain ⟨_, A5, _⟩ := hb
            go_wp2_with fail
            go_ret
            exact ⟨rfl, A5.below⟩
end Go.Proofs.Ytdpklmaldjohkaa
