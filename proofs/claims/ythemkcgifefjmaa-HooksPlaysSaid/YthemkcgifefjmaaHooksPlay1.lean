/- The law HooksPlays: one call. -/
import Derived.Test.YthemkcgifefjmaaHooksPl
import Derived.Deep.RegionHeld3
namespace Go.Proofs.Ythemkcgifefjmaa
open Go.RowKit
set_option linter.unusedVariables false

theorem TSt.weakY {X Y Y' : Th} {g : Nat} {w wr : World} {last : Int} {hs : List Pub} (H : TSt X Y g w last hs wr) (h : ∀ S w, Y S w → Y' S w) : TSt X Y' g w last hs wr := by
  obtain ⟨tag, A, h1, h2, h3⟩ := H
  exact ⟨tag, A, h1, h2, h _ _ h3⟩
/-- the operation's block, and the copy of its list -/
def YP (ob : Nat) (oo : Obj) (vin : Value) (ls : List Int) : Th := fun S w => Blk ob oo S w ∧ OwS (eInt .i64) 3 S w vin ls
theorem YP.framed {ob : Nat} {oo : Obj} {vin : Value} {ls : List Int} : Framed (YP ob oo vin ls) := Framed.and Blk.framed OwS.framed
theorem TSt.yp {X : Th} {g : Nat} {w wr : World} {last : Int} {hs : List Pub} {ob : Nat} {cs : Array Value} {ty : Nat} {vin : Value} {ls : List Int} (V : TSt X (YP ob (.cells cs ty) vin ls) g w last hs wr) : (∀ i, wr.cell? ⟨ob, i, none⟩ = cs[i]?) ∧ ob < wr.heap.size ∧ Rd (eInt .i64) wr vin ls ∧ Sep w wr vin := by
  obtain ⟨S, h1, h2⟩ := V.getY
  refine ⟨fun i => blk_cell h1.1 i, heap_lt h1.1, h2.rd, fun a n c e h0 => ?_⟩
  subst e
  obtain ⟨_, ao, cap, e2, _, _, _, h⟩ := h2.1
  obtain ⟨rfl, _, _⟩ : some a = ao ∧ _ := by simpa using e2
  obtain ⟨b, off, cur, rfl, _, hh, _⟩ := h a rfl
  exact .inl ⟨_, _, hh⟩
theorem putOf_len (sw : Bool) (hs : List Pub) (last h p : Int) : (putOf sw hs last h p).2.2.2.length = hs.length ∧ last ≤ (putOf sw hs last h p).2.2.1 ∧ (putOf sw hs last h p).2.2.1 ≤ last + 1 := by
  cases sw
  · exact attachOf_len hs last h p
  · exact swapOf_len hs last h p
theorem detachOf_len (hs : List Pub) (l : List Int) : (detachOf hs l).2.length = hs.length := by
  unfold detachOf; split
  · split
    · exact clearL_len _ _
    · rfl
  · rfl
theorem freshP {X Y : Th} {g : Nat} {w wr : World} {last : Int} {hs : List Pub} (hX : Framed X) (hY : Framed Y) (V : TSt X Y g w last hs wr) (h0 : 0 ≤ last) (h1 : last < 9223372036854775807) :
    Calls Try.prog 24 #[.pointer (some ⟨g, 0, none⟩)] wr fun e w' => e = .returned (.int .i64 (last + 1)) ∧ TSt X Y g w (last + 1) hs w' :=
  V.call hX hY (fun S _ _ _ _ _ ⟨v, H⟩ => by
    refine (fresh_any g last wr (blk_cell H.1 0) (blk_free H.1 0) h0 h1).mono fun e w' ⟨he, hw⟩ => ⟨he, ?_⟩
    obtain ⟨H2, o2⟩ := H.set (cells' := fun v => #[.int .i64 (last + 1), v]) (by decide) 0 (.int .i64 (last + 1)) rfl
    rw [hw]
    exact ⟨⟨v, H2⟩, o2.mono (fun k _ e => by subst e; exact H.2.2.1)⟩)
theorem Rd.one {w : World} {b : Nat} {y : Int} {fr : Nat × Nat} (hb : w.heap[b]? = some (.cells #[.int .i64 y] 3 fr)) : Rd (eInt .i64) w (.slice (some ⟨b, 0, none⟩) 1 1) [y] :=
  ⟨by simp [maxLen], _, 1, rfl, by simp, fun h => by simp at h, fun _ => ⟨b, 0, rfl, fun j u hj => by
    have : ((eInt .i64).all [y]) = [.int .i64 y] := rfl
    rw [this] at hj
    simp [World.cell?, hb, hj]⟩⟩
theorem Sep.one {w wr : World} {b : Nat} {cs : Array Value} {fr : Nat × Nat} (hb : wr.heap[b]? = some (.cells cs 3 fr)) : Sep w wr (.slice (some ⟨b, 0, none⟩) 1 1) := fun a n c e _ => by
  obtain ⟨rfl, _, _⟩ : (⟨b, 0, none⟩ : Addr) = a ∧ 1 = n ∧ 1 = c := by simpa using e
  exact .inl ⟨_, _, hb⟩
theorem heap_new2 (w : World) (o p : Obj) : ((w.alloc o).alloc p).heap[w.heap.size + 1]? = some p := by
  have h := heap_alloc_new (w.alloc o) p
  have hs : (w.alloc o).heap.size = w.heap.size + 1 := by simp
  rw [hs] at h; exact h
/-- what a call leaves -/
def After (g x : Nat) (n : Int) (B : Nat) (w : World) (last : Int) (hs : List Pub) (w' : World) : Prop := ∃ (last' : Int) (hs' : List Pub), TSt (RX x n last' hs' (B + 4)) No g w last' hs' w' ∧ hs'.length = hs.length ∧ last ≤ last' ∧ last' ≤ last + 1

section
variable {g x : Nat} {n : Int} {B : Nat} {w wr : World} {last : Int} {hs : List Pub} {hook prog : Int} {so : Option Addr} {sn sc : Nat} {ls : List Int}
set_option maxRecDepth 100000 in
set_option maxHeartbeats 4000000 in
theorem plays_attach (V : TSt (RX x n last hs B) No g w last hs wr) (hn : (hs.length : Int) = n) (h4 : hs.length ≤ 4) (hB : B ≤ 80000) (hl0 : 0 ≤ last) (hl1 : last ≤ 90000) (hro : Rd (eInt .i64) w (.slice so sn sc) ls) (hls : ls.length * 8 ≤ 140737488351232) :
    Calls Try.prog 15 #[.pointer (some ⟨g, 0, none⟩), .pointer (some ⟨x, 0, none⟩), .agg #[.int .i64 0, .int .i64 hook, .int .i64 prog, .slice so sn sc]] wr fun e w' => e = .returned (.bool true) ∧ After g x n B w last hs w' := by
  have hrw := (hro.grow V.below).alloc (.cells #[.int .i64 0, .int .i64 hook, .int .i64 prog, .slice so sn sc] 30)
  have hrw2 := hrw.alloc (.cells #[] 3)
  have hE0 : OwS (eInt .i64) 3 (fun k => wr.heap.size + 1 ≤ k) ((wr.alloc (.cells #[.int .i64 0, .int .i64 hook, .int .i64 prog, .slice so sn sc] 30)).alloc (.cells #[] 3)) (.slice (some ⟨wr.heap.size + 1, 0, none⟩) 0 0) [] := by
    have h := Ow.lit (E := eInt .i64) (wr.alloc (.cells #[.int .i64 0, .int .i64 hook, .int .i64 prog, .slice so sn sc] 30)) 0 #[] 3 0 [] (by simp [Enc.all]) rfl (by simp) (Nat.zero_le _)
    have hs : (wr.alloc (.cells #[.int .i64 0, .int .i64 hook, .int .i64 prog, .slice so sn sc] 30)).heap.size = wr.heap.size + 1 := by simp
    rw [hs] at h
    exact ⟨h, fun k hk => by simp [Value.ownBlock] at hk; omega⟩
  go_enter Try.func15, Try.ntmps15
  go_wp2_with (at_builtin; refine wl_appendS (E := eInt .i64) rfl _ (.tmp 14) _ rfl 3 8 sliceI _ _ [] rfl hE0 _ ls rfl hrw2 (by simp; omega) (by unfold maxLen; simp; omega) ?_)
  intro vin w5 hin hO5
  obtain ⟨tag, A, t1, t2, t3⟩ := V
  obtain ⟨tag1, A1, f1, n1, _⟩ := A.step (F := fun k => wr.heap.size ≤ k ∧ False) (Only.of_below (B := wr.heap.size) ((((Below.refl _ _).alloc (Nat.le_refl _) (.cells #[.int .i64 0, .int .i64 hook, .int .i64 prog, .slice so sn sc] 30)).alloc (by simp) (.cells #[] 3)).trans (hO5.below (by simp; omega) (fun k h => by have h2 : wr.heap.size + 1 ≤ k := h; omega))) (fun k h1 h2 => by omega)) 7 (fun _ h => h.2.elim)
  have hblk : w5.heap[wr.heap.size]? = some (.cells #[.int .i64 0, .int .i64 hook, .int .i64 prog, .slice so sn sc] 30) := hO5.heap (heap_alloc (heap_alloc_new wr _)) (by omega)
  have V5 : TSt (RX x n last hs B) (YP wr.heap.size (.cells #[.int .i64 0, .int .i64 hook, .int .i64 prog, .slice so sn sc] 30) vin ls) g w last hs w5 :=
    ⟨tag1, A1, f1 _ TabS.framed _ t1 (fun _ _ h => h.2), f1 _ RX.framed _ t2 (fun _ _ h => h.2), n1 _ Blk.framed ⟨hblk, .inr (Nat.le_refl _)⟩, n1 _ OwS.framed (OwS.framed.mono _ _ _ hin (fun k _ h => .inr (by rcases h with h | h <;> omega)))⟩
  clear A t1 t2 t3 A1 f1 n1 hblk hin hO5 hE0 hrw hrw2
  generalize hob : wr.heap.size = ob at *
  clear hob
  obtain ⟨hcell, hobl, hrin, hsin⟩ := V5.yp
  have b0 : w5.cell? ⟨ob, 0, none⟩ = some (.int .i64 0) := hcell 0
  have b1 : w5.cell? ⟨ob, 1, none⟩ = some (.int .i64 hook) := hcell 1
  have b2 : w5.cell? ⟨ob, 2, none⟩ = some (.int .i64 prog) := hcell 2
  have b3 : w5.cell? ⟨ob, 3, none⟩ = some (.slice so sn sc) := hcell 3
  have HRI := Lib.hid hrin
  have HSI := Lib.hid hsin
  have HRO := Lib.hid hro
  clear hcell hrin hsin hro
  obtain ⟨a1, a2, a3⟩ := putOf_len false hs last hook prog
  go_wp2_with fail
  refine (attachT RX.framed YP.framed V5 h4 hl0 (by omega) hook prog).mono ?_
  rintro e w6 ⟨rfl, V6⟩
  obtain ⟨hcell, hobl6, _, _⟩ := V6.yp
  have c0 : w6.cell? ⟨ob, 0, none⟩ = some (.int .i64 0) := hcell 0
  have c1 : w6.cell? ⟨ob, 1, none⟩ = some (.int .i64 hook) := hcell 1
  have c2 : w6.cell? ⟨ob, 2, none⟩ = some (.int .i64 prog) := hcell 2
  clear hcell V5 b0 b1 b2 b3 hobl HRI HSI HRO
  go_wp2_with fail
  refine (refPutP YP.framed V6 hn (by omega) hl0 (by omega) hook prog false).mono ?_
  rintro e w7 ⟨rfl, V7⟩
  have ee : putOf false hs last hook prog = attachOf hs last hook prog := rfl
  rw [ee] at V7 a1 a2 a3 ⊢
  have V8 := Lib.hid V7
  clear c0 c1 c2 V6 V7 ee hobl6
  generalize attachOf hs last hook prog = r at *
  go_wp2_with fail
  go_ret
  exact ⟨rfl, _, _, V8.out.weakY (fun _ _ _ => trivial), a1, a2, a3⟩
set_option maxRecDepth 100000 in
set_option maxHeartbeats 4000000 in
theorem plays_swap (V : TSt (RX x n last hs B) No g w last hs wr) (hn : (hs.length : Int) = n) (h4 : hs.length ≤ 4) (hB : B ≤ 80000) (hl0 : 0 ≤ last) (hl1 : last ≤ 90000) (hro : Rd (eInt .i64) w (.slice so sn sc) ls) (hls : ls.length * 8 ≤ 140737488351232) :
    Calls Try.prog 15 #[.pointer (some ⟨g, 0, none⟩), .pointer (some ⟨x, 0, none⟩), .agg #[.int .i64 1, .int .i64 hook, .int .i64 prog, .slice so sn sc]] wr fun e w' => e = .returned (.bool true) ∧ After g x n B w last hs w' := by
  have hrw := (hro.grow V.below).alloc (.cells #[.int .i64 1, .int .i64 hook, .int .i64 prog, .slice so sn sc] 30)
  have hrw2 := hrw.alloc (.cells #[] 3)
  have hE0 : OwS (eInt .i64) 3 (fun k => wr.heap.size + 1 ≤ k) ((wr.alloc (.cells #[.int .i64 1, .int .i64 hook, .int .i64 prog, .slice so sn sc] 30)).alloc (.cells #[] 3)) (.slice (some ⟨wr.heap.size + 1, 0, none⟩) 0 0) [] := by
    have h := Ow.lit (E := eInt .i64) (wr.alloc (.cells #[.int .i64 1, .int .i64 hook, .int .i64 prog, .slice so sn sc] 30)) 0 #[] 3 0 [] (by simp [Enc.all]) rfl (by simp) (Nat.zero_le _)
    have hs : (wr.alloc (.cells #[.int .i64 1, .int .i64 hook, .int .i64 prog, .slice so sn sc] 30)).heap.size = wr.heap.size + 1 := by simp
    rw [hs] at h
    exact ⟨h, fun k hk => by simp [Value.ownBlock] at hk; omega⟩
  go_enter Try.func15, Try.ntmps15
  go_wp2_with (at_builtin; refine wl_appendS (E := eInt .i64) rfl _ (.tmp 14) _ rfl 3 8 sliceI _ _ [] rfl hE0 _ ls rfl hrw2 (by simp; omega) (by unfold maxLen; simp; omega) ?_)
  intro vin w5 hin hO5
  obtain ⟨tag, A, t1, t2, t3⟩ := V
  obtain ⟨tag1, A1, f1, n1, _⟩ := A.step (F := fun k => wr.heap.size ≤ k ∧ False) (Only.of_below (B := wr.heap.size) ((((Below.refl _ _).alloc (Nat.le_refl _) (.cells #[.int .i64 1, .int .i64 hook, .int .i64 prog, .slice so sn sc] 30)).alloc (by simp) (.cells #[] 3)).trans (hO5.below (by simp; omega) (fun k h => by have h2 : wr.heap.size + 1 ≤ k := h; omega))) (fun k h1 h2 => by omega)) 7 (fun _ h => h.2.elim)
  have hblk : w5.heap[wr.heap.size]? = some (.cells #[.int .i64 1, .int .i64 hook, .int .i64 prog, .slice so sn sc] 30) := hO5.heap (heap_alloc (heap_alloc_new wr _)) (by omega)
  have V5 : TSt (RX x n last hs B) (YP wr.heap.size (.cells #[.int .i64 1, .int .i64 hook, .int .i64 prog, .slice so sn sc] 30) vin ls) g w last hs w5 :=
    ⟨tag1, A1, f1 _ TabS.framed _ t1 (fun _ _ h => h.2), f1 _ RX.framed _ t2 (fun _ _ h => h.2), n1 _ Blk.framed ⟨hblk, .inr (Nat.le_refl _)⟩, n1 _ OwS.framed (OwS.framed.mono _ _ _ hin (fun k _ h => .inr (by rcases h with h | h <;> omega)))⟩
  clear A t1 t2 t3 A1 f1 n1 hblk hin hO5 hE0 hrw hrw2
  generalize hob : wr.heap.size = ob at *
  clear hob
  obtain ⟨hcell, hobl, hrin, hsin⟩ := V5.yp
  have b0 : w5.cell? ⟨ob, 0, none⟩ = some (.int .i64 1) := hcell 0
  have b1 : w5.cell? ⟨ob, 1, none⟩ = some (.int .i64 hook) := hcell 1
  have b2 : w5.cell? ⟨ob, 2, none⟩ = some (.int .i64 prog) := hcell 2
  have b3 : w5.cell? ⟨ob, 3, none⟩ = some (.slice so sn sc) := hcell 3
  have HRI := Lib.hid hrin
  have HSI := Lib.hid hsin
  have HRO := Lib.hid hro
  clear hcell hrin hsin hro
  obtain ⟨a1, a2, a3⟩ := putOf_len true hs last hook prog
  go_wp2_with fail
  refine (swapT RX.framed YP.framed V5 h4 hl0 (by omega) hook prog).mono ?_
  rintro e w6 ⟨rfl, V6⟩
  obtain ⟨hcell, hobl6, _, _⟩ := V6.yp
  have c0 : w6.cell? ⟨ob, 0, none⟩ = some (.int .i64 1) := hcell 0
  have c1 : w6.cell? ⟨ob, 1, none⟩ = some (.int .i64 hook) := hcell 1
  have c2 : w6.cell? ⟨ob, 2, none⟩ = some (.int .i64 prog) := hcell 2
  clear hcell V5 b0 b1 b2 b3 hobl HRI HSI HRO
  go_wp2_with fail
  refine (refPutP YP.framed V6 hn (by omega) hl0 (by omega) hook prog true).mono ?_
  rintro e w7 ⟨rfl, V7⟩
  have ee : putOf true hs last hook prog = swapOf hs last hook prog := rfl
  rw [ee] at V7 a1 a2 a3 ⊢
  have V8 := Lib.hid V7
  clear c0 c1 c2 V6 V7 ee hobl6
  generalize swapOf hs last hook prog = r at *
  go_wp2_with fail
  go_ret
  exact ⟨rfl, _, _, V8.out.weakY (fun _ _ _ => trivial), a1, a2, a3⟩

end
end Go.Proofs.Ythemkcgifefjmaa
