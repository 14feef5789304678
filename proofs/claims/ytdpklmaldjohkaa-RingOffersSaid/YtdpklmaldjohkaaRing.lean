/- Layer 16: the ring's methods. -/
import Derived.Test.YtdpklmaldjohkaaRingEnc
import Derived.Deep.RegionHeld3
namespace Go.Proofs.Ytdpklmaldjohkaa
open Go.RowKit
set_option linter.unusedVariables false

def qV (q : Qd) : Value := .agg #[.int .i64 q.1, .int .u64 q.2.1, .int .u64 q.2.2]

def Ring (base g h : Nat) (w : World) (room : Int) (shut : Bool) (wv : Value) (line : List Qd) (a r t d : Int) : Prop :=
  base ≤ g ∧ w.heap[g]? = some (.cells #[.pointer (some ⟨h, 0, none⟩), .int .i64 room, .bool shut, wv, .int .i64 a, .int .i64 r, .int .i64 t, .int .i64 d, .int .i64 0] 62 (0, 0)) ∧ Ow eQ base 39 w wv line
def Num (base h : Nat) (w : World) (last : Int) : Prop := base ≤ h ∧ w.heap[h]? = some (.cells #[.int .i64 last] 30 (0, 0))

theorem Ring.cells {base g h : Nat} {w : World} {room : Int} {shut : Bool} {wv : Value} {line : List Qd} {a r t d : Int} (H : Ring base g h w room shut wv line a r t d) :
    w.cell? ⟨g, 0, none⟩ = some (.pointer (some ⟨h, 0, none⟩)) ∧ w.cell? ⟨g, 1, none⟩ = some (.int .i64 room) ∧ w.cell? ⟨g, 2, none⟩ = some (.bool shut) ∧ w.cell? ⟨g, 3, none⟩ = some wv ∧ w.cell? ⟨g, 4, none⟩ = some (.int .i64 a) ∧ w.cell? ⟨g, 5, none⟩ = some (.int .i64 r) ∧ w.cell? ⟨g, 6, none⟩ = some (.int .i64 t) ∧ w.cell? ⟨g, 7, none⟩ = some (.int .i64 d) ∧ w.cell? ⟨g, 8, none⟩ = some (.int .i64 0) ∧ (∀ i, w.frozen? ⟨g, i, none⟩ = false) ∧ g < w.heap.size := by
  obtain ⟨_, hg, _⟩ := H
  refine ⟨?_, ?_, ?_, ?_, ?_, ?_, ?_, ?_, ?_, fun i => ?_, heap_lt hg⟩ <;> simp [World.cell?, World.frozen?, hg]
/-- the row is not the ring's own block, nor the numbers' -/
theorem Ring.row {base g h : Nat} {w : World} {room : Int} {shut : Bool} {wv : Value} {line : List Qd} {a r t d : Int} (H : Ring base g h w room shut wv line a r t d) : wv.ownBlock ≠ some g := by
  obtain ⟨_, hg, hown⟩ := H
  intro e
  obtain ⟨cur, hc⟩ := hown.type e
  rw [hg] at hc
  simp at hc
theorem Num.row {base g h : Nat} {w : World} {room last : Int} {shut : Bool} {wv : Value} {line : List Qd} {a r t d : Int} (H : Ring base g h w room shut wv line a r t d) {b2 : Nat} (K : Num b2 h w last) : wv.ownBlock ≠ some h ∧ g ≠ h := by
  obtain ⟨_, hg, hown⟩ := H
  constructor
  · intro e
    obtain ⟨cur, hc⟩ := hown.type e
    rw [K.2] at hc
    simp at hc
  · rintro rfl
    have := K.2
    rw [hg] at this
    simp at this
theorem Ring.only {F : Nat → Prop} {base g h : Nat} {w w' : World} {room : Int} {shut : Bool} {wv : Value} {line : List Qd} {a r t d : Int} (H : Ring base g h w room shut wv line a r t d) (ho : Only F w w') (hg : ¬ F g) (hr : ∀ k, wv.ownBlock = some k → ¬ F k) : Ring base g h w' room shut wv line a r t d :=
  ⟨H.1, ho.heap H.2.1 hg, H.2.2.only ho hr⟩
theorem Num.only {F : Nat → Prop} {base h : Nat} {w w' : World} {last : Int} (H : Num base h w last) (ho : Only F w w') (hg : ¬ F h) : Num base h w' last := ⟨H.1, ho.heap H.2 hg⟩

set_option maxHeartbeats 1000000 in
theorem new_any (room : Int) (h : Nat) (w : World) (h1 : 1 ≤ room) (h2 : room ≤ 16) :
    Calls Try.prog 8 #[.int .i64 room, .pointer (some ⟨h, 0, none⟩)] w fun e w' => e = .returned (.tuple #[.pointer (some ⟨w.heap.size, 0, none⟩), .int .i64 0]) ∧ Ring w.heap.size w.heap.size h w' room false (.slice none 0 0) [] 0 0 0 0 ∧ Only (fun _ => False) w w' ∧ w'.heap.size = w.heap.size + 1 := by
  go_enter Try.func8, Try.ntmps8
  go_wp2_with fail
  go_ret2
  exact ⟨rfl, ⟨Nat.le_refl _, heap_alloc_new w _, Ow.nil _ _ _⟩, Only.alloc _ _ _, by simp⟩
set_option maxHeartbeats 1000000 in
theorem new_not (room : Int) (h : Nat) (w : World) (h1 : room < 1 ∨ 16 < room) :
    Calls Try.prog 8 #[.int .i64 room, .pointer (some ⟨h, 0, none⟩)] w fun e w' => e = .returned (.tuple #[.pointer none, .int .i64 2]) ∧ w = w' := by
  go_enter Try.func8, Try.ntmps8
  rcases h1 with h1 | h1
  · go_wp2_with fail
    go_ret2
    exact ⟨rfl, rfl⟩
  · go_wp2_with fail
    go_ret2
    exact ⟨rfl, rfl⟩
set_option maxHeartbeats 1000000 in
theorem next_any (base h : Nat) (last : Int) (w : World) (H : Num base h w last) (h0 : 0 ≤ last) (h1 : last < 9223372036854775807) :
    Calls Try.prog 22 #[.pointer (some ⟨h, 0, none⟩)] w fun e w' => e = .returned (.int .i64 (last + 1)) ∧ Num base h w' (last + 1) ∧ Only (fun k => k = h) w w' ∧ w'.heap.size = w.heap.size := by
  obtain ⟨hb, hh⟩ := H
  have c0 : w.cell? ⟨h, 0, none⟩ = some (.int .i64 last) := by simp [World.cell?, hh]
  have f0 : w.frozen? ⟨h, 0, none⟩ = false := by simp [World.frozen?, hh]
  have HH := Lib.hid hh
  clear hh
  go_enter Try.func22, Try.ntmps22
  go_wp2_with fail
  go_ret
  exact ⟨rfl, ⟨hb, heap_setCell_same _ _ _ _ _ _ HH.out⟩, Only.setCell _ _ _ _ _ rfl, by simp [World.setCell]⟩
theorem results_cell_row_tmp {P : Program} {fn : Func} {p u : Tmp} {ty : TypeId} (h : fn.results = #[.cell p ty, .tmp u]) (tmps : Array Value) (w : World) (g : Nat) (t : TypeId) (cs : Array Value) (fr : Nat × Nat) (d : TypeDesc)
    (hp : tmps.getD p undef = .pointer (some ⟨g, 0, none⟩)) (hg : w.heap[g]? = some (.cells cs t fr))
    (hu : P.underlying ty = some d) (hd : (match d with | .struct _ | .array _ _ => true | _ => false) = true) (hi : (P.info? ty).map (·.size) = some cs.size) :
    (results fn tmps).run P w = .ok (.tuple #[.agg cs, tmps.getD u undef]) w := by
  rw [results_cell_tmp h, hp]
  simp [asAddr, run_loadVar_row w g t ty cs fr d hg hu hd hi, Result.andThen]

set_option maxHeartbeats 2000000 in
theorem take_nil (base g h : Nat) (room : Int) (shut : Bool) (wv : Value) (a r t d : Int) (w : World) (H : Ring base g h w room shut wv [] a r t d) :
    Calls Try.prog 9 #[.pointer (some ⟨g, 0, none⟩)] w fun e w' => e = .returned (.tuple #[qV (0, 0, 0), .bool false]) ∧ Only (fun _ => False) w w' := by
  obtain ⟨c0, c1, c2, c3, c4, c5, c6, c7, c8, f, hlg⟩ := H.cells
  obtain ⟨_, ao, cap, rfl, hc1, hc2, _⟩ := H.2.2
  have hz : (((([] : List Qd).length : Nat) : Int) == 0) = true := rfl
  go_enter Try.func9, Try.ntmps9
  go_wp2_with fail
  try simp only [Exit.inBlock, Exit.then]
  refine bodyPost_ret (results_cell_row_tmp rfl _ _ w.heap.size _ _ _ _ rfl (heap_alloc_new w _) Try.underlying39 rfl (by kernel_rfl)) rfl ?_
  exact ⟨rfl, Only.alloc _ _ _⟩
set_option maxHeartbeats 2000000 in
theorem take_cons (base g h : Nat) (room : Int) (shut : Bool) (wv : Value) (q : Qd) (line : List Qd) (a r t d : Int) (w : World) (H : Ring base g h w room shut wv (q :: line) a r t d) (ht : 0 ≤ t) (ht2 : t < 9223372036854775807) :
    Calls Try.prog 9 #[.pointer (some ⟨g, 0, none⟩)] w fun e w' => e = .returned (.tuple #[qV q, .bool true]) ∧ ∃ wv', Ring base g h w' room shut wv' line a r (t + 1) d ∧ (∀ k, wv'.ownBlock = some k → wv.ownBlock = some k) ∧ Only (fun k => k = g) w w' := by
  obtain ⟨c0, c1, c2, c3, c4, c5, c6, c7, c8, f, hlg⟩ := H.cells
  have hrow := H.row
  obtain ⟨hm, ao, cap, rfl, hc1, hc2, _⟩ := H.2.2
  obtain ⟨b, off, rfl, hb, hx⟩ := H.2.2.at_ 0 (by simp)
  have hlb := (H.2.2.lt (g := b) rfl).2
  obtain ⟨x0, _⟩ := hx 0 (by decide)
  obtain ⟨x1, _⟩ := hx 1 (by decide)
  obtain ⟨x2, _⟩ := hx 2 (by decide)
  have x0' : w.cell? ⟨b, off, none⟩ = some (.int .i64 q.1) := x0
  have x1' : w.cell? ⟨b, off + 1, none⟩ = some (.int .u64 q.2.1) := x1
  have x2' : w.cell? ⟨b, off + 2, none⟩ = some (.int .u64 q.2.2) := x2
  have hne : ¬ b = g := fun e => hrow (by rw [e]; rfl)
  have htl := H.2.2.tail
  have hg := H.2.1
  have hbg := H.1
  obtain ⟨n, hn⟩ : ∃ n, n = (q :: line).length := ⟨_, rfl⟩
  have hn1 : 1 ≤ n := by rw [hn]; simp
  have hn0 : ((n : Int) == 0) = false := by simp; omega
  have hcap : n ≤ cap := by rw [hn]; exact hc1
  rw [← hn] at c3 htl hg hm
  have HG := Lib.hid hg
  have HT := Lib.hid htl
  have HF := Lib.hid f
  unfold maxLen at hm
  rename_i hjunk _ _ _
  clear hjunk
  clear H x0 x1 x2 hx htl hc1 hn hrow hg c0 c1 c2 c4 c5 c7 c8
  have fin : ∀ sv, Ow eQ base 39 w sv line → (∀ k, sv.ownBlock = some k → k = b) →
      ∀ W A B, W = (((w.setCell ⟨g, 3, none⟩ sv).setCell ⟨g, 6, none⟩ (.int .i64 (t + 1))).alloc A).alloc B →
      Ring base g h W room shut sv line a r (t + 1) d ∧ Only (fun k => k = g) w W ∧ W.heap[w.heap.size]? = some A := by
    rintro sv hsv hsb W A B rfl
    have o1 : Only (fun k => k = g) w (w.setCell ⟨g, 3, none⟩ sv) := Only.setCell _ _ _ _ _ rfl
    have o2 := o1.trans (Only.setCell (fun k => k = g) _ g 6 (.int .i64 (t + 1)) rfl) (fun _ _ h => h)
    have o3 := (o2.trans (Only.alloc (fun k => k = g) _ A) (fun _ _ h => h)).trans (Only.alloc (fun k => k = g) _ B) (fun _ _ h => h)
    refine ⟨⟨hbg, ?_, hsv.only o3 (fun k hk e => hne (by rw [← hsb k hk]; exact e))⟩, o3, ?_⟩
    · have h1 := heap_setCell_same w g 3 _ _ sv HG.out
      have h2 := heap_setCell_same _ g 6 _ _ (.int .i64 (t + 1)) h1
      exact heap_alloc (heap_alloc h2)
    · have h := heap_alloc2_old ((w.setCell ⟨g, 3, none⟩ sv).setCell ⟨g, 6, none⟩ (.int .i64 (t + 1))) A B
      simpa [World.setCell] using h
  have FIN := Lib.hid fin
  clear fin
  by_cases hc : cap = 1
  · obtain rfl : n = 1 := by omega
    subst hc
    have hs : Ow eQ base 39 w (.slice (some ⟨b, off, none⟩) 0 0) line := by simpa using HT.out
    have HS := Lib.hid hs
    clear hs HT
    go_enter Try.func9, Try.ntmps9
    go_wp2_with fail
    obtain ⟨r1, r2, r3⟩ := FIN.out _ HS.out (by intro k hk; simpa [Value.ownBlock] using hk.symm) _ (.cells #[.int .i64 q.1, .int .u64 q.2.1, .int .u64 q.2.2] 39) (.cells #[.int .i64 q.1, .int .u64 q.2.1, .int .u64 q.2.2] 39) rfl
    try simp only [Exit.inBlock, Exit.then]
    refine bodyPost_ret (results_cell_row_tmp rfl _ _ w.heap.size _ _ _ _ rfl r3 Try.underlying39 rfl (by kernel_rfl)) rfl ?_
    refine ⟨rfl, _, r1, ?_, r2⟩; intro k hk; exact hk
  · have hs : Ow eQ base 39 w (.slice (some ⟨b, off + 3, none⟩) (n - 1) (cap - 1)) line := by
      have h := HT.out
      rw [if_neg hc] at h
      simpa [Addr.add, eQ] using h
    have HS := Lib.hid hs
    clear hs HT
    go_enter Try.func9, Try.ntmps9
    go_wp2_with fail
    obtain ⟨r1, r2, r3⟩ := FIN.out _ HS.out (by intro k hk; simpa [Value.ownBlock] using hk.symm) _ (.cells #[.int .i64 q.1, .int .u64 q.2.1, .int .u64 q.2.2] 39) (.cells #[.int .i64 q.1, .int .u64 q.2.1, .int .u64 q.2.2] 39) rfl
    try simp only [Exit.inBlock, Exit.then]
    refine bodyPost_ret (results_cell_row_tmp rfl _ _ w.heap.size _ _ _ _ rfl r3 Try.underlying39 rfl (by kernel_rfl)) rfl ?_
    refine ⟨rfl, _, r1, ?_, r2⟩; intro k hk; exact hk
end Go.Proofs.Ytdpklmaldjohkaa
