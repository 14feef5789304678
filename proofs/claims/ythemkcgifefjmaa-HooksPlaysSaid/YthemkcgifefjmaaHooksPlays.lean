/- The law HooksPlays: its walk. -/
import Derived.Test.YthemkcgifefjmaaHooksPlay2
import Derived.Deep.RegionHeld3
namespace Go.Proofs.Ythemkcgifefjmaa
open Go.RowKit
set_option linter.unusedVariables false
set_option linter.unusedSimpArgs false

theorem plays_any {g x : Nat} {n : Int} {B : Nat} {w wr : World} {last : Int} {hs : List Pub} {kind hook prog : Int} {so : Option Addr} {sn sc : Nat} {ls : List Int} (V : TSt (RX x n last hs B) No g w last hs wr) (hn : (hs.length : Int) = n) (h4 : hs.length ≤ 4) (hB : B ≤ 80000) (hl0 : 0 ≤ last) (hl1 : last ≤ 90000) (hro : Rd (eInt .i64) w (.slice so sn sc) ls) (hls : ls.length * 8 ≤ 140737488351232) :
    Calls Try.prog 15 #[.pointer (some ⟨g, 0, none⟩), .pointer (some ⟨x, 0, none⟩), .agg #[.int .i64 kind, .int .i64 hook, .int .i64 prog, .slice so sn sc]] wr fun e w' => e = .returned (.bool true) ∧ After g x n B w last hs w' := by
  by_cases k0 : kind = 0
  · subst k0; exact plays_attach V hn h4 hB hl0 hl1 hro hls
  by_cases k1 : kind = 1
  · subst k1; exact plays_swap V hn h4 hB hl0 hl1 hro hls
  by_cases k2 : kind = 2
  · subst k2; exact plays_one V hn h4 hB hl0 hl1 hro hls
  by_cases k3 : kind = 3
  · subst k3; exact plays_list V hn h4 hB hl0 hl1 hro hls
  by_cases k4 : kind = 4
  · subst k4; exact plays_fresh V hn h4 hB hl0 hl1 hro hls
  exact plays_where V hn h4 hB hl0 hl1 hro hls k0 k1 k2 k3 k4

/-- the lists of the operations can be read -/
def Lists (w : World) (ops : List OpD) : Prop := ∀ o ∈ ops, ∃ ls, Rd (eInt .i64) w (.slice o.2.2.2.1 o.2.2.2.2.1 o.2.2.2.2.2) ls ∧ ls.length * 8 ≤ 140737488351232

theorem wpAnyH_weak {P : Program} {ops : Array Oper} {Q : Exit → Act → World → Prop} {md : Region.Mode} {S S' : World → Prop} (h : ∀ w, S' w → S w) : ∀ (fuel : Nat) (listed : Array Bool) (a : Act) (w : World), wpAnyH P md ops Q S' fuel listed a w → wpAnyH P md ops Q S fuel listed a w
  | 0, _, _, _, h0 => h0
  | fuel + 1, _, _, _, h0 => ⟨h0.1, fun i hi => wpOp_mono (fun a' w' h' => ⟨h _ h'.1, wpAnyH_weak h fuel _ a' w' h'.2⟩) (h0.2 i hi)⟩

set_option maxRecDepth 100000 in
set_option maxHeartbeats 8000000 in
theorem hooksPlays_yes (n : Nat) (ops : List OpD) (v : Value) (w : World) (h1 : 1 ≤ n) (h4 : n ≤ 4) (hv : Rd eOp w v ops) (hl : ops.length * 48 ≤ 140737488351232) (hli : Hid (Lists w ops)) :
    Calls Try.prog 6 #[.int .i64 (n : Int), v] w fun e w' => e = .returned (.bool true) ∧ Below w.heap.size w w' := by
  obtain ⟨_, ao, cap, rfl, hcap, _, _⟩ := id hv
  go_enter Try.func6, Try.ntmps6
  go_wp2_with fail
  refine (awake_any _).mono ?_
  rintro e w1 ⟨rfl, hb1⟩
  go_wp2_with fail
  refine (new_any n _ h1 h4).mono ?_
  rintro e w2 ⟨g, rfl, hT, hO2⟩
  obtain ⟨tag2, A2, f2, n2, k2⟩ := (Arena.of_below hb1 (Nat.le_refl _)).step hO2 1 (fun _ h => h.elim)
  have hT2 := n2 _ TabS.framed (TabS.framed.mono _ _ _ hT (fun k _ h => .inr h))
  have hI0 : TSt No No g w 0 (List.replicate n (0, 0)) w2 := ⟨tag2, A2, hT2, trivial, trivial⟩
  have hm0 : Match (List.replicate n (0, 0)) [] := fun h => by
    have e : currentOf (List.replicate n (0, 0)) h = (0, 0, false) := by
      unfold currentOf
      by_cases hb : bad (List.replicate n (0, 0)) h
      · rw [if_pos hb]
      · have : getH (List.replicate n (0, 0)) h = (0, 0) := by
          unfold getH
          rw [List.getElem?_replicate]
          split <;> rfl
        rw [if_neg hb, this]; simp
    rw [e]; rfl
  have hI : TSt (RX w2.heap.size n 0 (List.replicate n (0, 0)) 0) No g w 0 (List.replicate n (0, 0)) (w2.alloc (.cells #[.int .i64 (n : Int), .int .i64 0, .slice none 0 0] 49)) :=
    hI0.newX noF RX.framed ⟨[], ⟨_, ⟨heap_alloc_new w2 _, Ow.nil _ _ _, Nat.le_refl _, fun k hk => by simp [Value.ownBlock] at hk⟩⟩, hm0, by simp⟩ (Only.alloc _ _ _)
  clear hT hT2 f2 n2 k2 hO2 A2 hb1 hI0 hm0
  go_wp2_with fail
  generalize w2.heap.size = x at *
  go_loopw [8, 9, 10, 11, 12, 13, 14, 15] (fun iv _ _ _ _ _ _ _ wr => ∃ (k : Nat) (last : Int) (hs : List Pub), k ≤ ops.length ∧ k ≤ 300 ∧ iv = .int .i64 k ∧ TSt (RX x n last hs (4 * k)) No g w last hs wr ∧ hs.length = n ∧ 0 ≤ last ∧ last ≤ k) (fun iv _ _ _ _ _ _ _ _ => ops.length - (intOf iv).toNat)
  case atStart => exact ⟨0, 0, _, Nat.zero_le _, by omega, rfl, hI, by simp, by omega, by omega⟩
  case round =>
    clear hI
    obtain ⟨k, last, hs, hk, hk3, rfl, V, hln, hl0, hlk⟩ := hrel
    by_cases hlt : k < ops.length ∧ k < 300
    · obtain ⟨hlt, hlt3⟩ := hlt
      have HV := Lib.hid hv
      obtain ⟨_, ao', cap', hao, _, _, hx⟩ := hv.grow V.below
      obtain ⟨rfl, _, rfl⟩ : ao = ao' ∧ ops.length = ops.length ∧ cap = cap' := by simpa using hao
      obtain ⟨b, off, rfl, hc⟩ := hx (by omega)
      obtain ⟨ls, hrl, hll⟩ := hli.out ops[k] (List.getElem_mem hlt)
      have c0 : wr.cell? ⟨b, off + k * 4, none⟩ = some (.int .i64 ops[k].1) := hc (k * 4) _ ((eOp.all_at ops k 0 hlt (by decide)).trans rfl)
      have c1 : wr.cell? ⟨b, off + k * 4 + 1, none⟩ = some (.int .i64 ops[k].2.1) := by have := hc (k * 4 + 1) _ ((eOp.all_at ops k 1 hlt (by decide)).trans rfl); rw [← Nat.add_assoc] at this; exact this
      have c2 : wr.cell? ⟨b, off + k * 4 + 2, none⟩ = some (.int .i64 ops[k].2.2.1) := by have := hc (k * 4 + 2) _ ((eOp.all_at ops k 2 hlt (by decide)).trans rfl); rw [← Nat.add_assoc] at this; exact this
      have c3 : wr.cell? ⟨b, off + k * 4 + 3, none⟩ = some (.slice ops[k].2.2.2.1 ops[k].2.2.2.2.1 ops[k].2.2.2.2.2) := by have := hc (k * 4 + 3) _ ((eOp.all_at ops k 3 hlt (by decide)).trans rfl); rw [← Nat.add_assoc] at this; exact this
      clear hc hx hao
      generalize ops[k].1 = kind at *
      generalize ops[k].2.1 = hook at *
      generalize ops[k].2.2.1 = prog at *
      generalize ops[k].2.2.2.1 = so at *
      generalize ops[k].2.2.2.2.1 = sn at *
      generalize ops[k].2.2.2.2.2 = sc at *
      have hlb : b < w.heap.size := Rd.lt HV.out (by omega)
      have cw := fun i => World.cell?_of_block (w := w) (w' := wr) (a := ⟨b, i, none⟩) (V.below.block b hlb)
      have C0 := Lib.hid ((cw _).symm.trans c0)
      have C1 := Lib.hid ((cw _).symm.trans c1)
      have C2 := Lib.hid ((cw _).symm.trans c2)
      have C3 := Lib.hid ((cw _).symm.trans c3)
      clear cw
      have HRL := Lib.hid hrl
      have hplays := plays_any (kind := kind) (hook := hook) (prog := prog) (TSt.drew RX.framed noF V) (by omega) (by omega) (by omega) hl0 (by omega) hrl hll
      have HPL := Lib.hid hplays
      have hi0 : (0 : Int) ≤ (k : Int) := by omega
      have hi1 : (k : Int) < (ops.length : Int) := by omega
      have hi3 : (k : Int) < 300 := by omega
      clear hrl hplays
      go_wp2_with fail
      refine wp_region_noPanic ?_
      refine wp_region_held_drew (S := fun w' => w'.cell? ⟨b, off + k * 4, none⟩ = some (.int .i64 kind) ∧ w'.cell? ⟨b, off + k * 4 + 1, none⟩ = some (.int .i64 hook) ∧ w'.cell? ⟨b, off + k * 4 + 2, none⟩ = some (.int .i64 prog) ∧ w'.cell? ⟨b, off + k * 4 + 3, none⟩ = some (.slice so sn sc)) (by kernel_rfl) ?_ (fun hHeld => ?_)
      · go_keep
      refine wpAnyH_take (i := 0) (v := ?v0) rfl (by kernel_rfl) (by kernel_rfl) (by kernel_rfl) (fun _ _ _ h => h) (Or.inl ⟨by rfl, ?hy0⟩) (by assumption) ?rest0
      case hy0 =>
        intro w hSw
        try dsimp only at hSw
        go_simp
        all_goals with_reducible rfl
      simp only [Act.put, List.getElem_toArray, List.getElem_cons_succ, List.getElem_cons_zero, List.setIfInBounds_toArray, List.set_cons_zero, List.set_cons_succ]
      refine wpAnyH_take (i := 1) (v := ?v1) rfl (by kernel_rfl) (by kernel_rfl) (by kernel_rfl) (fun _ _ _ h => h) (Or.inl ⟨by rfl, ?hy1⟩) (by assumption) ?rest1
      case hy1 =>
        intro w hSw
        try dsimp only at hSw
        go_simp
        all_goals with_reducible rfl
      simp only [Act.put, List.getElem_toArray, List.getElem_cons_succ, List.getElem_cons_zero, List.setIfInBounds_toArray, List.set_cons_zero, List.set_cons_succ]
      refine wpAnyH_take (i := 2) (v := ?v2) rfl (by kernel_rfl) (by kernel_rfl) (by kernel_rfl) (fun _ _ _ h => h) (Or.inl ⟨by rfl, ?hy2⟩) (by assumption) ?rest2
      case hy2 =>
        intro w hSw
        try dsimp only at hSw
        go_simp
        all_goals with_reducible rfl
      simp only [Act.put, List.getElem_toArray, List.getElem_cons_succ, List.getElem_cons_zero, List.setIfInBounds_toArray, List.set_cons_zero, List.set_cons_succ]
      refine wpAnyH_take (i := 3) (v := ?v3) rfl (by kernel_rfl) (by kernel_rfl) (by kernel_rfl) (fun _ _ _ h => h) (Or.inl ⟨by rfl, ?hy3⟩) (by assumption) ?rest3
      case hy3 =>
        intro w hSw
        try dsimp only at hSw
        go_simp
        all_goals with_reducible rfl
      simp only [Act.put, List.getElem_toArray, List.getElem_cons_succ, List.getElem_cons_zero, List.setIfInBounds_toArray, List.set_cons_zero, List.set_cons_succ]
      refine wpAnyH_take (i := 4) (v := ?v4) rfl (by kernel_rfl) (by kernel_rfl) (by kernel_rfl) (fun _ _ _ h => h) (Or.inl ⟨by rfl, ?hy4⟩) (by assumption) ?rest4
      case hy4 =>
        intro w hSw
        try dsimp only at hSw
        go_simp
        all_goals with_reducible rfl
      simp only [Act.put, List.getElem_toArray, List.getElem_cons_succ, List.getElem_cons_zero, List.setIfInBounds_toArray, List.set_cons_zero, List.set_cons_succ]
      refine wpAnyH_take (i := 5) (v := ?v5) rfl (by kernel_rfl) (by kernel_rfl) (by kernel_rfl) (fun _ _ _ h => h) (Or.inl ⟨by rfl, ?hy5⟩) (by assumption) ?rest5
      case hy5 =>
        intro w hSw
        try dsimp only at hSw
        go_simp
        all_goals with_reducible rfl
      simp only [Act.put, List.getElem_toArray, List.getElem_cons_succ, List.getElem_cons_zero, List.setIfInBounds_toArray, List.set_cons_zero, List.set_cons_succ]
      refine wpAnyH_ready (rs := [6]) (by kernel_rfl) (by simp) ?_
      refine AllReadyH.cons rfl (fun K hK => ?_) AllReadyH.nil
      go_simp
      refine HPL.out.mono ?_
      rintro e w6 ⟨rfl, last', hs', V6, hq1, hq2, hq3⟩
      have c6g : w6.cell? ⟨g, 0, none⟩ = some (.int .i64 last') := by obtain ⟨_, _, ⟨v6, t6⟩, _⟩ := V6; exact blk_cell t6.1 0
      have c6x : w6.cell? ⟨x, 1, none⟩ = some (.int .i64 last') := by obtain ⟨_, _, ⟨_, H⟩, _⟩ := V6.getX; exact blk_cell H.1 1
      have d0 := (V6.below.cell (p := ⟨b, off + k * 4, none⟩) hlb).trans C0.out
      have d1 := (V6.below.cell (p := ⟨b, off + k * 4 + 1, none⟩) hlb).trans C1.out
      have d2 := (V6.below.cell (p := ⟨b, off + k * 4 + 2, none⟩) hlb).trans C2.out
      have d3 := (V6.below.cell (p := ⟨b, off + k * 4 + 3, none⟩) hlb).trans C3.out
      try go_wp2_with fail
      refine hK.out _ _ ?_ (fun hHeld => ?_)
      · exact ⟨d0, d1, d2, d3⟩
      clear hK K
      try simp only [Act.put, List.getElem_toArray, List.getElem_cons_succ, List.getElem_cons_zero, List.setIfInBounds_toArray, List.set_cons_zero, List.set_cons_succ]
      have hSt := And.intro hHeld c6x
      refine wpAnyH_weak (S' := fun w' => (w'.cell? ⟨b, off + k * 4, none⟩ = some (.int .i64 kind) ∧ w'.cell? ⟨b, off + k * 4 + 1, none⟩ = some (.int .i64 hook) ∧ w'.cell? ⟨b, off + k * 4 + 2, none⟩ = some (.int .i64 prog) ∧ w'.cell? ⟨b, off + k * 4 + 3, none⟩ = some (.slice so sn sc)) ∧ w'.cell? ⟨x, 1, none⟩ = some (.int .i64 last')) (fun _ h => h.1) _ _ _ _ ?_
      clear hHeld
      refine wpAnyH_take (i := 7) (v := ?v7) rfl (by kernel_rfl) (by kernel_rfl) (by kernel_rfl) (fun _ _ _ h => h) (Or.inl ⟨by rfl, ?hy7⟩) (by assumption) ?rest7
      case hy7 =>
        intro w hSw
        try dsimp only at hSw
        go_simp
        all_goals with_reducible rfl
      simp only [Act.put, List.getElem_toArray, List.getElem_cons_succ, List.getElem_cons_zero, List.setIfInBounds_toArray, List.set_cons_zero, List.set_cons_succ]
      refine wpAnyH_take (i := 8) (v := ?v8) rfl (by kernel_rfl) (by kernel_rfl) (by kernel_rfl) (fun _ _ _ h => h) (Or.inl ⟨by rfl, ?hy8⟩) (by assumption) ?rest8
      case hy8 =>
        intro w hSw
        try dsimp only at hSw
        go_simp
        all_goals with_reducible rfl
      simp only [Act.put, List.getElem_toArray, List.getElem_cons_succ, List.getElem_cons_zero, List.setIfInBounds_toArray, List.set_cons_zero, List.set_cons_succ]
      refine wpAnyH_take (i := 9) (v := ?v9) rfl (by kernel_rfl) (by kernel_rfl) (by kernel_rfl) (fun _ _ _ h => h) (Or.inl ⟨by rfl, ?hy9⟩) (by assumption) ?rest9
      case hy9 =>
        intro w hSw
        try dsimp only at hSw
        go_simp
        all_goals with_reducible rfl
      simp only [Act.put, List.getElem_toArray, List.getElem_cons_succ, List.getElem_cons_zero, List.setIfInBounds_toArray, List.set_cons_zero, List.set_cons_succ]
      refine wpAnyH_take (i := 10) (v := ?v10) rfl (by kernel_rfl) (by kernel_rfl) (by kernel_rfl) (fun _ _ _ h => h) (Or.inl ⟨by rfl, ?hy10⟩) (by assumption) ?rest10
      case hy10 =>
        intro w hSw
        try dsimp only at hSw
        go_simp
        all_goals with_reducible rfl
      simp only [Act.put, List.getElem_toArray, List.getElem_cons_succ, List.getElem_cons_zero, List.setIfInBounds_toArray, List.set_cons_zero, List.set_cons_succ]
      refine wpAnyH_take (i := 11) (v := ?v11) rfl (by kernel_rfl) (by kernel_rfl) (by kernel_rfl) (fun _ _ _ h => h) (Or.inl ⟨by rfl, ?hy11⟩) (by assumption) ?rest11
      case hy11 =>
        intro w hSw
        try dsimp only at hSw
        go_simp
        all_goals with_reducible rfl
      simp only [Act.put, List.getElem_toArray, List.getElem_cons_succ, List.getElem_cons_zero, List.setIfInBounds_toArray, List.set_cons_zero, List.set_cons_succ]
      refine wpAnyH_take (i := 13) (v := ?v13) rfl (by kernel_rfl) (by kernel_rfl) (by kernel_rfl) (fun _ _ _ h => h) (Or.inl ⟨by rfl, ?hy13⟩) (by assumption) ?rest13
      case hy13 =>
        intro w hSw
        try dsimp only at hSw
        go_simp
        all_goals with_reducible rfl
      simp only [Act.put, List.getElem_toArray, List.getElem_cons_succ, List.getElem_cons_zero, List.setIfInBounds_toArray, List.set_cons_zero, List.set_cons_succ]
      refine wpAnyH_take (i := 14) (v := ?v14) rfl (by kernel_rfl) (by kernel_rfl) (by kernel_rfl) (fun _ _ _ h => h) (Or.inl ⟨by rfl, ?hy14⟩) (by assumption) ?rest14
      case hy14 =>
        intro w hSw
        try dsimp only at hSw
        go_simp
        all_goals with_reducible rfl
      simp only [Act.put, List.getElem_toArray, List.getElem_cons_succ, List.getElem_cons_zero, List.setIfInBounds_toArray, List.set_cons_zero, List.set_cons_succ]
      refine wpAnyH_take (i := 15) (v := ?v15) rfl (by kernel_rfl) (by kernel_rfl) (by kernel_rfl) (fun _ _ _ h => h) (Or.inl ⟨by rfl, ?hy15⟩) (by assumption) ?rest15
      case hy15 =>
        intro w hSw
        try dsimp only at hSw
        go_simp
        all_goals with_reducible rfl
      simp only [Act.put, List.getElem_toArray, List.getElem_cons_succ, List.getElem_cons_zero, List.setIfInBounds_toArray, List.set_cons_zero, List.set_cons_succ]
      refine wpAnyH_take (i := 16) (v := ?v16) rfl (by kernel_rfl) (by kernel_rfl) (by kernel_rfl) (fun _ _ _ h => h) (Or.inl ⟨by rfl, ?hy16⟩) (by assumption) ?rest16
      case hy16 =>
        intro w hSw
        try dsimp only at hSw
        go_simp
        all_goals with_reducible rfl
      simp only [Act.put, List.getElem_toArray, List.getElem_cons_succ, List.getElem_cons_zero, List.setIfInBounds_toArray, List.set_cons_zero, List.set_cons_succ]
      refine wpAnyH_ready (rs := [12]) (by kernel_rfl) (by simp) ?_
      refine AllReadyH.cons rfl (fun K hK => ?_) AllReadyH.nil
      go_simp
      refine (last_any g last' _ c6g).mono ?_
      rintro e w7 ⟨rfl, rfl⟩
      try go_wp2_with fail
      refine hK.out _ _ ?_ (fun hHeld => ?_)
      · exact hSt
      clear hK K
      try simp only [Act.put, List.getElem_toArray, List.getElem_cons_succ, List.getElem_cons_zero, List.setIfInBounds_toArray, List.set_cons_zero, List.set_cons_succ]
      clear hHeld
      refine wpAnyH_take (i := 17) (v := ?v17) rfl (by kernel_rfl) (by kernel_rfl) (by kernel_rfl) (fun _ _ _ h => h) (Or.inl ⟨by rfl, ?hy17⟩) (by assumption) ?rest17
      case hy17 =>
        intro w hSw
        try dsimp only at hSw
        go_simp
        all_goals with_reducible rfl
      simp only [Act.put, List.getElem_toArray, List.getElem_cons_succ, List.getElem_cons_zero, List.setIfInBounds_toArray, List.set_cons_zero, List.set_cons_succ]
      refine wpAnyH_take (i := 18) (v := ?v18) rfl (by kernel_rfl) (by kernel_rfl) (by kernel_rfl) (fun _ _ _ h => h) (Or.inl ⟨by rfl, ?hy18⟩) (by assumption) ?rest18
      case hy18 =>
        intro w hSw
        try dsimp only at hSw
        go_simp
        all_goals with_reducible rfl
      simp only [Act.put, List.getElem_toArray, List.getElem_cons_succ, List.getElem_cons_zero, List.setIfInBounds_toArray, List.set_cons_zero, List.set_cons_succ]
      refine wpAnyH_take (i := 19) (v := ?v19) rfl (by kernel_rfl) (by kernel_rfl) (by kernel_rfl) (fun _ _ _ h => h) (Or.inl ⟨by rfl, ?hy19⟩) (by assumption) ?rest19
      case hy19 =>
        intro w hSw
        try dsimp only at hSw
        go_simp
        all_goals with_reducible rfl
      simp only [Act.put, List.getElem_toArray, List.getElem_cons_succ, List.getElem_cons_zero, List.setIfInBounds_toArray, List.set_cons_zero, List.set_cons_succ]
      refine wpAnyH_take (i := 20) (v := ?v20) rfl (by kernel_rfl) (by kernel_rfl) (by kernel_rfl) (fun _ _ _ h => h) (Or.inl ⟨by rfl, ?hy20⟩) (by assumption) ?rest20
      case hy20 =>
        intro w hSw
        try dsimp only at hSw
        go_simp
        all_goals with_reducible rfl
      simp only [Act.put, List.getElem_toArray, List.getElem_cons_succ, List.getElem_cons_zero, List.setIfInBounds_toArray, List.set_cons_zero, List.set_cons_succ]
      refine wpAnyH_take (i := 21) (v := ?v21) rfl (by kernel_rfl) (by kernel_rfl) (by kernel_rfl) (fun _ _ _ h => h) (Or.inl ⟨by rfl, ?hy21⟩) (by assumption) ?rest21
      case hy21 =>
        intro w hSw
        try dsimp only at hSw
        go_simp
        all_goals with_reducible rfl
      simp only [Act.put, List.getElem_toArray, List.getElem_cons_succ, List.getElem_cons_zero, List.setIfInBounds_toArray, List.set_cons_zero, List.set_cons_succ]
      refine wpAnyH_take (i := 22) (v := ?v22) rfl (by kernel_rfl) (by kernel_rfl) (by kernel_rfl) (fun _ _ _ h => h) (Or.inl ⟨by rfl, ?hy22⟩) (by assumption) ?rest22
      case hy22 =>
        intro w hSw
        try dsimp only at hSw
        go_simp
        all_goals with_reducible rfl
      simp only [Act.put, List.getElem_toArray, List.getElem_cons_succ, List.getElem_cons_zero, List.setIfInBounds_toArray, List.set_cons_zero, List.set_cons_succ]
      refine wpAnyH_take (i := 24) (v := ?v24) rfl (by kernel_rfl) (by kernel_rfl) (by kernel_rfl) (fun _ _ _ h => h) (Or.inl ⟨by rfl, ?hy24⟩) (by assumption) ?rest24
      case hy24 =>
        intro w hSw
        try dsimp only at hSw
        go_simp
        all_goals with_reducible rfl
      simp only [Act.put, List.getElem_toArray, List.getElem_cons_succ, List.getElem_cons_zero, List.setIfInBounds_toArray, List.set_cons_zero, List.set_cons_succ]
      refine wpAnyH_take (i := 25) (v := ?v25) rfl (by kernel_rfl) (by kernel_rfl) (by kernel_rfl) (fun _ _ _ h => h) (Or.inl ⟨by rfl, ?hy25⟩) (by assumption) ?rest25
      case hy25 =>
        intro w hSw
        try dsimp only at hSw
        go_simp
        all_goals with_reducible rfl
      simp only [Act.put, List.getElem_toArray, List.getElem_cons_succ, List.getElem_cons_zero, List.setIfInBounds_toArray, List.set_cons_zero, List.set_cons_succ]
      refine wpAnyH_take (i := 26) (v := ?v26) rfl (by kernel_rfl) (by kernel_rfl) (by kernel_rfl) (fun _ _ _ h => h) (Or.inl ⟨by rfl, ?hy26⟩) (by assumption) ?rest26
      case hy26 =>
        intro w hSw
        try dsimp only at hSw
        go_simp
        all_goals with_reducible rfl
      simp only [Act.put, List.getElem_toArray, List.getElem_cons_succ, List.getElem_cons_zero, List.setIfInBounds_toArray, List.set_cons_zero, List.set_cons_succ]
      refine wpAnyH_take (i := 27) (v := ?v27) rfl (by kernel_rfl) (by kernel_rfl) (by kernel_rfl) (fun _ _ _ h => h) (Or.inl ⟨by rfl, ?hy27⟩) (by assumption) ?rest27
      case hy27 =>
        intro w hSw
        try dsimp only at hSw
        go_simp
        all_goals with_reducible rfl
      simp only [Act.put, List.getElem_toArray, List.getElem_cons_succ, List.getElem_cons_zero, List.setIfInBounds_toArray, List.set_cons_zero, List.set_cons_succ]
      refine wpAnyH_ready (rs := [23]) (by kernel_rfl) (by simp) ?_
      refine AllReadyH.cons rfl (fun K hK => ?_) AllReadyH.nil
      go_simp
      refine (last_any g last' _ c6g).mono ?_
      rintro e w7 ⟨rfl, rfl⟩
      try go_wp2_with fail
      refine hK.out _ _ ?_ (fun hHeld => ?_)
      · exact hSt
      clear hK K
      try simp only [Act.put, List.getElem_toArray, List.getElem_cons_succ, List.getElem_cons_zero, List.setIfInBounds_toArray, List.set_cons_zero, List.set_cons_succ]
      clear hHeld
      refine wpAnyH_take (i := 28) (v := ?v28) rfl (by kernel_rfl) (by kernel_rfl) (by kernel_rfl) (fun _ _ _ h => h) (Or.inl ⟨by rfl, ?hy28⟩) (by assumption) ?rest28
      case hy28 =>
        intro w hSw
        try dsimp only at hSw
        go_simp
        all_goals with_reducible rfl
      simp only [Act.put, List.getElem_toArray, List.getElem_cons_succ, List.getElem_cons_zero, List.setIfInBounds_toArray, List.set_cons_zero, List.set_cons_succ]
      refine wpAnyH_take (i := 29) (v := ?v29) rfl (by kernel_rfl) (by kernel_rfl) (by kernel_rfl) (fun _ _ _ h => h) (Or.inl ⟨by rfl, ?hy29⟩) (by assumption) ?rest29
      case hy29 =>
        intro w hSw
        try dsimp only at hSw
        go_simp
        all_goals with_reducible rfl
      simp only [Act.put, List.getElem_toArray, List.getElem_cons_succ, List.getElem_cons_zero, List.setIfInBounds_toArray, List.set_cons_zero, List.set_cons_succ]
      refine wpAnyH_done (by kernel_rfl) ?_ _
      refine NoPanic.normal ?_
      all_goals go_wp2_with fail
      all_goals clear hSt c6g c6x d0 d1 d2 d3 c0 c1 c2 c3 C0 C1 C2 C3 HRL HPL hv HV hli V
      all_goals (
        go_loopw [9, 10, 11, 12, 13, 14, 15] (fun iv _ _ _ _ _ _ wq => ∃ j : Nat, j ≤ 6 ∧ iv = .int .i64 ((j : Int) - 1) ∧ TSt (RX x n last' hs' (4 * k + 4)) No g w last' hs' wq) (fun iv _ _ _ _ _ _ _ => (5 - intOf iv).toNat)
        case atStart => exact ⟨0, by omega, rfl, V6⟩
        case round =>
          clear V6
          obtain ⟨j, hj, rfl, V⟩ := hrel
          by_cases hj6 : j < 6
          · have hj5 : (j : Int) - 1 < 5 := by omega
            go_wp2_with fail
            refine (currentT RX.framed noF V (by omega) _).mono ?_
            rintro e w7 ⟨rfl, V7⟩
            go_wp2_with fail
            refine (refCurrentP noF V7 (by omega) _).mono ?_
            rintro e w8 ⟨rfl, V8⟩
            clear V V7
            generalize (currentOf hs' ((j : Int) - 1)).1 = q1 at *
            generalize (currentOf hs' ((j : Int) - 1)).2.1 = q2 at *
            generalize (currentOf hs' ((j : Int) - 1)).2.2 = q3 at *
            cases q3
            all_goals (
              go_wp2_with fail
              go_roundw
              case rel => exact ⟨j + 1, by omega, by congr 1; omega, V8⟩
              case measure => simp [intOf]; omega)
          · obtain rfl : j = 6 := by omega
            go_wp2_with fail
            go_roundw
            case rel => exact ⟨k + 1, last', hs', by omega, by omega, by go_num, V, by omega, by omega, by omega⟩
            case measure => simp [intOf]; omega)
    · by_cases hkl : k < ops.length
      · obtain rfl : k = 300 := by omega
        have hi1 : (300 : Int) < (ops.length : Int) := by omega
        go_wp2_with fail
        go_ret
        exact ⟨rfl, V.below⟩
      · obtain rfl : k = ops.length := by omega
        go_wp2_with fail
        go_ret
        exact ⟨rfl, V.below⟩

set_option maxRecDepth 100000 in
set_option maxHeartbeats 1000000 in
theorem hooksPlays_any (n : Int) (ops : List OpD) (v : Value) (w : World) (hn : -9223372036854775808 ≤ n ∧ n ≤ 9223372036854775807) (hv : Rd eOp w v ops) (hl : ops.length * 48 ≤ 140737488351232) (hli : Lists w ops) :
    Calls Try.prog 6 #[.int .i64 n, v] w fun e w' => e = .returned (.bool true) ∧ Below w.heap.size w w' := by
  by_cases hr : n < 1 ∨ 4 < n
  · clear hli
    go_enter Try.func6, Try.ntmps6
    go_wp2_with fail
    refine (awake_any _).mono ?_
    rintro e w1 ⟨rfl, hb1⟩
    go_wp2_with fail
    refine (new_not n _ hr).mono ?_
    rintro e w2 ⟨rfl, rfl⟩
    rcases hr with hr | hr
    · go_wp2_with fail
      go_ret
      exact ⟨rfl, hb1⟩
    · have hr1 : ¬ n < 1 := by omega
      go_wp2_with fail
      go_ret
      exact ⟨rfl, hb1⟩
  · obtain ⟨m, rfl⟩ : ∃ m : Nat, n = (m : Int) := ⟨n.toNat, by omega⟩
    exact hooksPlays_yes m ops v w (by omega) (by omega) hv hl (Lib.hid hli)
end Go.Proofs.Ythemkcgifefjmaa
