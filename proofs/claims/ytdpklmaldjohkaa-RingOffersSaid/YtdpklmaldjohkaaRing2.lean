/- Layer 16: Accept, Shut, Waiting. -/
import Derived.Test.YtdpklmaldjohkaaRing
import Derived.Test.YtdpklmaldjohkaaTool
namespace Go.Proofs.Ytdpklmaldjohkaa
open Go.RowKit
set_option linter.unusedVariables false

set_option maxHeartbeats 1000000 in
theorem clone_any (xs : List Qd) (v : Value) (w : World) (hv : Rd eQ w v xs) (hl : xs.length ≤ 1000000000000) :
    Calls Try.prog 23 #[v] w fun e w' => ∃ v', e = .returned v' ∧ Ow eQ w.heap.size 39 w' v' xs ∧ Only (fun _ => False) w w' := by
  obtain ⟨hm, ao, cap, rfl, hc1, hc2, _⟩ := id hv
  cases ao with
  | none =>
    have hcap : cap = 0 := hc2 rfl
    subst hcap
    obtain rfl : xs = [] := List.eq_nil_of_length_eq_zero (by omega)
    have he : ∀ w : World, (binOp .eql 32 (.slice none 0 0) (.slice none 0 0)).run Try.prog w = .ok (.bool true) w := fun _ => rfl
    have he2 : ∀ w : World, (binOp .eql 32 (.slice none ([] : List Qd).length 0) (.slice none 0 0)).run Try.prog w = .ok (.bool true) w := fun _ => rfl
    go_enter Try.func23, Try.ntmps23
    go_wp2_with fail
    go_ret
    exact ⟨_, rfl, Ow.nil _ _ _, Only.refl _ _⟩
  | some a0 =>
    have he : ∀ w : World, (binOp .eql 32 (.slice (some a0) xs.length cap) (.slice none 0 0)).run Try.prog w = .ok (.bool false) w := fun _ => rfl
    go_enter Try.func23, Try.ntmps23
    go_wp2_with (at_builtin; refine wl_append (E := eQ) rfl _ (.tmp 6) _ rfl w.heap.size 39 24 eQ_slice _ [] rfl (Ow.lit w _ _ _ _ _ (by simp [Enc.all]) rfl (by simp) (Nat.le_refl _)) _ xs rfl (hv.alloc _) (by simp; omega) (by unfold maxLen; simp; omega) (by simp) ?_)
    intro v' w' hown hgrow _ _
    go_wp2_with fail
    go_ret
    refine ⟨_, rfl, hown, ?_⟩
    have o1 := Only.of_grown (F := fun k => w.heap.size ≤ k) hgrow (by intro k hk; simp [Value.ownBlock] at hk; omega)
    have o0 := Only.alloc (fun _ => False) w (.cells #[] 39)
    exact o0.trans o1 (fun j hj h => by omega)

set_option maxHeartbeats 1000000 in
theorem accept_shut (base g h : Nat) (room : Int) (wv : Value) (line : List Qd) (a r t d : Int) (w : World) (H : Ring base g h w room true wv line a r t d) (e0 e1 : Int) :
    Calls Try.prog 10 #[.pointer (some ⟨g, 0, none⟩), .agg #[.int .u64 e0, .int .u64 e1]] w fun e w' => e = .returned (.tuple #[.int .i64 0, .int .i64 43]) ∧ Only (fun _ => False) w w' := by
  obtain ⟨c0, c1, c2, c3, c4, c5, c6, c7, c8, f, hlg⟩ := H.cells
  go_enter Try.func10, Try.ntmps10
  go_wp2_with fail
  go_ret2
  exact ⟨rfl, Only.alloc _ _ _⟩

set_option maxHeartbeats 1000000 in
theorem accept_full (base g h : Nat) (room : Int) (wv : Value) (line : List Qd) (a r t d : Int) (w : World) (H : Ring base g h w room false wv line a r t d) (e0 e1 : Int) (hr : room = line.length) (hr0 : 0 ≤ r) (hr1 : r < 9223372036854775807) :
    Calls Try.prog 10 #[.pointer (some ⟨g, 0, none⟩), .agg #[.int .u64 e0, .int .u64 e1]] w fun e w' => e = .returned (.tuple #[.int .i64 0, .int .i64 40]) ∧ Ring base g h w' room false wv line a (r + 1) t d ∧ Only (fun k => k = g) w w' := by
  obtain ⟨c0, c1, c2, c3, c4, c5, c6, c7, c8, f, hlg⟩ := H.cells
  obtain ⟨hm, ao, cap, rfl, hc1, hc2, _⟩ := H.2.2
  have hrow := H.row
  have HH := Lib.hid H
  subst hr
  unfold maxLen at hm
  have hq : (((line.length : Nat) : Int) == ((line.length : Nat) : Int)) = true := by simp
  clear H
  go_enter Try.func10, Try.ntmps10
  go_wp2_with fail
  go_quiet (fail)
  go_wp2_with fail
  go_ret2
  have hg := HH.out.2.1
  have o1 := (Only.alloc (fun k => k = g) w (.cells #[.int .u64 e0, .int .u64 e1] 35)).drewN nq
  have o2 := o1.trans (Only.setCell (fun k => k = g) _ g 5 (.int .i64 (r + 1)) rfl) (fun _ _ h => h)
  have h1 : ((w.alloc (.cells #[.int .u64 e0, .int .u64 e1] 35)).drewN nq).heap[g]? = _ := heap_alloc hg
  exact ⟨rfl, ⟨HH.out.1, heap_setCell_same _ g 5 _ _ _ h1, HH.out.2.2.only o2 (by rintro k hk rfl; exact hrow hk)⟩, o2⟩

theorem keepO {F : Nat → Prop} {w w' : World} {g eb : Nat} {v u0 u1 : Value} (lg : g < w.heap.size) (le : eb < w.heap.size) (ng : ¬ F g) (ne : ¬ F eb)
    (c : w.cell? ⟨g, 3, none⟩ = some v) (f : w.frozen? ⟨g, 3, none⟩ = false) (x0 : w.cell? ⟨eb, 0, none⟩ = some u0) (x1 : w.cell? ⟨eb, 1, none⟩ = some u1) (ho : Only F w w') :
    Only F w w' ∧ w'.cell? ⟨g, 3, none⟩ = some v ∧ w'.frozen? ⟨g, 3, none⟩ = false ∧ w'.cell? ⟨eb, 0, none⟩ = some u0 ∧ w'.cell? ⟨eb, 1, none⟩ = some u1 :=
  ⟨ho, (World.cell?_of_block (ho.block g lg ng)).trans c, (World.frozen?_of_block (ho.block g lg ng)).trans f, (World.cell?_of_block (ho.block eb le ne)).trans x0, (World.cell?_of_block (ho.block eb le ne)).trans x1⟩

set_option maxRecDepth 100000 in
set_option maxHeartbeats 1000000 in
theorem accept_ok (base g h : Nat) (room last : Int) (wv : Value) (line : List Qd) (a r t d : Int) (w : World) (H : Ring base g h w room false wv line a r t d) (N : Num base h w last) (hbase : base ≤ w.heap.size) (e0 e1 : Int) (hr : room ≠ line.length) (hll : line.length ≤ 1000) (hr0 : 0 ≤ last) (hr1 : last < 9223372036854775807) (ha0 : 0 ≤ a) (ha1 : a < 9223372036854775807) :
    Calls Try.prog 10 #[.pointer (some ⟨g, 0, none⟩), .agg #[.int .u64 e0, .int .u64 e1]] w fun e w' => e = .returned (.tuple #[.int .i64 (last + 1), .int .i64 0]) ∧ ∃ wv', Ring base g h w' room false wv' (line ++ [(last + 1, e0, e1)]) (a + 1) r t d ∧ Num base h w' (last + 1) ∧ (∀ k, wv'.ownBlock = some k → wv.ownBlock = some k ∨ w.heap.size ≤ k) ∧ Only (fun k => k = g ∨ k = h ∨ wv.ownBlock = some k) w w' := by
  obtain ⟨c0, c1, c2, c3, c4, c5, c6, c7, c8, f, hlg⟩ := H.cells
  obtain ⟨hm, ao, cap, rfl, hc1, hc2, _⟩ := H.2.2
  have hrow := Num.row H N
  have hrow2 := H.row
  have HH := Lib.hid H
  have HN := Lib.hid N
  unfold maxLen at hm
  have hq : (((line.length : Nat) : Int) == room) = false := by simpa using fun h => hr h.symm
  clear H
  go_enter Try.func10, Try.ntmps10
  go_wp2_with fail
  go_quiet (fail)
  go_wp2_with fail
  have hA1 := (Only.alloc (fun _ => False) w (.cells #[.int .u64 e0, .int .u64 e1] 35)).drewN nq
  have hN0 := HN.out.only hA1 (fun h => h)
  have hR0 := HH.out.only hA1 (fun h => h) (fun _ _ h => h)
  have hlh := heap_lt HN.out.2
  refine (next_any base h last _ hN0 hr0 hr1).mono ?_
  rintro e w1 ⟨rfl, hN1, ho1, hs1⟩
  have hR1 := hR0.only ho1 (fun e => hrow.2 e) (by rintro k hk rfl; exact hrow.1 hk)
  have hsz1 : w1.heap.size = w.heap.size + 1 := by rw [hs1]; simp
  have x0 : w1.cell? ⟨w.heap.size, 0, none⟩ = some (.int .u64 e0) := by
    rw [World.cell?_of_block (ho1.block w.heap.size (by simp) (by omega))]; simp
  have x1 : w1.cell? ⟨w.heap.size, 1, none⟩ = some (.int .u64 e1) := by
    rw [World.cell?_of_block (ho1.block w.heap.size (by simp) (by omega))]; simp
  obtain ⟨k0, k1, k2, k3, k4, k5, k6, k7, k8, kf, klg⟩ := hR1.cells
  have kf3 := kf 3
  have hoW1 : Only (fun k => k = h) w w1 := (hA1.mono (fun _ _ h => h.elim)).trans ho1 (fun _ _ h => h)
  have hng : ¬ (Value.slice ao line.length cap).ownBlock = some g := hrow2
  have hne : ¬ (Value.slice ao line.length cap).ownBlock = some w.heap.size := fun e => by
    have := (HH.out.2.2.lt e).2; omega
  have hle : w.heap.size < w1.heap.size := by omega
  have hbase1 : base ≤ w1.heap.size := by omega
  have hown1 := hR1.2.2
  have HR1 := Lib.hid hR1
  have HN1 := Lib.hid hN1
  clear hsz1 hR1 hN1 hR0 hN0 hA1 hs1 ho1 N c0 c1 c2 c3 c4 c5 c6 c7 c8 f k0 k1 k2 k5 k6 k7 k8
  go_wp2_with fail
  have hbd : (5 * (line.length + [(last + 1, e0, e1)].length) + 2816) * 24 ≤ 1125899906842624 := by simp; omega
  have hmx : line.length + [(last + 1, e0, e1)].length ≤ maxLen := by unfold maxLen; simp; omega
  have hrd : Rd eQ (w1.alloc (.cells #[.int .i64 (last + 1), .int .u64 e0, .int .u64 e1] 39)) (.slice (some ⟨w1.heap.size, 0, none⟩) 1 1) [(last + 1, e0, e1)] := Rd.lit w1 #[.int .i64 (last + 1), .int .u64 e0, .int .u64 e1] 39 (0, 0) 1 1 [(last + 1, e0, e1)] (by simp [Enc.all]) rfl (Nat.le_refl _) (by decide)
  have hbs : base ≤ (w1.alloc (.cells #[.int .i64 (last + 1), .int .u64 e0, .int .u64 e1] 39)).heap.size := by simp; omega
  have kf4 := kf 4
  go_region_law (refine step_append (E := eQ) (by rfl) (.tmp 41) (.tmp 45) _ (by rfl) base 39 24 eQ_slice _ line (by rfl) ((hown1.alloc _).drew) _ [(last + 1, e0, e1)] (by rfl) (hrd.drew) hbd hmx hbs ?_; intro v3 w3 hown3 hgr3 hfr3 _; obtain ⟨g3, off3, cap3, rfl⟩ := hown3.some_ (by simp); have ho3 : Only (fun k => (Value.slice ao line.length cap).ownBlock = some k) w1 w3 := (Only.drew_ (Only.alloc _ w1 _)).trans (Only.of_grown hgr3 (fun k hk => hk)) (fun _ _ h => h); have kc3 := (World.cell?_of_block (ho3.block g klg hng)).trans k3; have kc4 := (World.cell?_of_block (ho3.block g klg hng)).trans k4; have kff3 := (World.frozen?_of_block (ho3.block g klg hng)).trans kf3; have kff4 := (World.frozen?_of_block (ho3.block g klg hng)).trans kf4)
  all_goals go_wp2_with fail
  all_goals
    go_ret2
    have hl3 : (line ++ [(last + 1, e0, e1)]).length = line.length + 1 := by simp
    rw [hl3] at hown3 hfr3
    have hg3 := ho3.heap HR1.out.2.1 hng
    have q1 := heap_setCell_same w3 g 3 _ _ (.slice (some ⟨g3, off3, none⟩) (line.length + 1) cap3) hg3
    have q2 := heap_setCell_same _ g 4 _ _ (.int .i64 (a + 1)) q1
    have oG : Only (fun k => k = g) w3 ((w3.setCell ⟨g, 3, none⟩ (.slice (some ⟨g3, off3, none⟩) (line.length + 1) cap3)).setCell ⟨g, 4, none⟩ (.int .i64 (a + 1))) :=
      (Only.setCell (fun k => k = g) w3 g 3 _ rfl).trans (Only.setCell (fun k => k = g) _ g 4 _ rfl) (fun _ _ h => h)
    have oF : Only (fun k => k = g ∨ k = h ∨ (Value.slice ao line.length cap).ownBlock = some k) w w3 :=
      (hoW1.mono (fun _ _ h => .inr (.inl h))).trans (ho3.mono (G := fun k => k = g ∨ k = h ∨ (Value.slice ao line.length cap).ownBlock = some k) (fun _ _ h => .inr (.inr h))) (fun _ _ h => h)
    have hfresh : ∀ k, (Value.slice (some ⟨g3, off3, none⟩) (line.length + 1) cap3).ownBlock = some k → (Value.slice ao line.length cap).ownBlock = some k ∨ w1.heap.size < k + 1 := by
      intro k hk
      rcases hfr3 with h | h
      · left; rw [← h.1]; exact hk
      · right; have := h k hk; simp at this; omega
    have hn3 : ∀ k, (Value.slice (some ⟨g3, off3, none⟩) (line.length + 1) cap3).ownBlock = some k → ¬ k = g := by
      rintro k hk rfl
      rcases hfresh _ hk with h | h
      · exact hng h
      · omega
    have hN3 := (HN1.out.only ho3 hrow.1).only oG (fun e => hrow.2 e.symm)
    exact ⟨rfl, _, ⟨HR1.out.1, q2, hown3.only oG hn3⟩, hN3, fun k hk => (hfresh k hk).elim .inl (fun h => .inr (by omega)), oF.trans (oG.mono (G := fun k => k = g ∨ k = h ∨ (Value.slice ao line.length cap).ownBlock = some k) (fun _ _ h => .inl h)) (fun _ _ h => h)⟩
end Go.Proofs.Ytdpklmaldjohkaa
