/- The law HooksPlays: one call (printed by hooksplay.py). -/
import Derived.Test.YthemkcgifefjmaaHooksPlay1
import Derived.Deep.RegionHeld3
namespace Go.Proofs.Ythemkcgifefjmaa
open Go.RowKit
set_option linter.unusedVariables false

section
variable {g x : Nat} {n : Int} {B : Nat} {w wr : World} {last : Int} {hs : List Pub} {hook prog : Int} {so : Option Addr} {sn sc : Nat} {ls : List Int}
set_option maxRecDepth 100000 in
set_option maxHeartbeats 4000000 in
theorem plays_list (V : TSt (RX x n last hs B) No g w last hs wr) (hn : (hs.length : Int) = n) (h4 : hs.length ≤ 4) (hB : B ≤ 80000) (hl0 : 0 ≤ last) (hl1 : last ≤ 90000) (hro : Rd (eInt .i64) w (.slice so sn sc) ls) (hls : ls.length * 8 ≤ 140737488351232) :
    Calls Try.prog 15 #[.pointer (some ⟨g, 0, none⟩), .pointer (some ⟨x, 0, none⟩), .agg #[.int .i64 3, .int .i64 hook, .int .i64 prog, .slice so sn sc]] wr fun e w' => e = .returned (.bool true) ∧ After g x n B w last hs w' := by
  have hrw := (hro.grow V.below).alloc (.cells #[.int .i64 3, .int .i64 hook, .int .i64 prog, .slice so sn sc] 30)
  have hrw2 := hrw.alloc (.cells #[] 3)
  have hE0 : OwS (eInt .i64) 3 (fun k => wr.heap.size + 1 ≤ k) ((wr.alloc (.cells #[.int .i64 3, .int .i64 hook, .int .i64 prog, .slice so sn sc] 30)).alloc (.cells #[] 3)) (.slice (some ⟨wr.heap.size + 1, 0, none⟩) 0 0) [] := by
    have h := Ow.lit (E := eInt .i64) (wr.alloc (.cells #[.int .i64 3, .int .i64 hook, .int .i64 prog, .slice so sn sc] 30)) 0 #[] 3 0 [] (by simp [Enc.all]) rfl (by simp) (Nat.zero_le _)
    have hs : (wr.alloc (.cells #[.int .i64 3, .int .i64 hook, .int .i64 prog, .slice so sn sc] 30)).heap.size = wr.heap.size + 1 := by simp
    rw [hs] at h
    exact ⟨h, fun k hk => by simp [Value.ownBlock] at hk; omega⟩
  go_enter Try.func15, Try.ntmps15
  go_wp2_with (at_builtin; refine wl_appendS (E := eInt .i64) rfl _ (.tmp 14) _ rfl 3 8 sliceI _ _ [] rfl hE0 _ ls rfl hrw2 (by simp; omega) (by unfold maxLen; simp; omega) ?_)
  intro vin w5 hin hO5
  obtain ⟨tag, A, t1, t2, t3⟩ := V
  obtain ⟨tag1, A1, f1, n1, _⟩ := A.step (F := fun k => wr.heap.size ≤ k ∧ False) (Only.of_below (B := wr.heap.size) ((((Below.refl _ _).alloc (Nat.le_refl _) (.cells #[.int .i64 3, .int .i64 hook, .int .i64 prog, .slice so sn sc] 30)).alloc (by simp) (.cells #[] 3)).trans (hO5.below (by simp; omega) (fun k h => by have h2 : wr.heap.size + 1 ≤ k := h; omega))) (fun k h1 h2 => by omega)) 7 (fun _ h => h.2.elim)
  have hblk : w5.heap[wr.heap.size]? = some (.cells #[.int .i64 3, .int .i64 hook, .int .i64 prog, .slice so sn sc] 30) := hO5.heap (heap_alloc (heap_alloc_new wr _)) (by omega)
  have V5 : TSt (RX x n last hs B) (YP wr.heap.size (.cells #[.int .i64 3, .int .i64 hook, .int .i64 prog, .slice so sn sc] 30) vin ls) g w last hs w5 :=
    ⟨tag1, A1, f1 _ TabS.framed _ t1 (fun _ _ h => h.2), f1 _ RX.framed _ t2 (fun _ _ h => h.2), n1 _ Blk.framed ⟨hblk, .inr (Nat.le_refl _)⟩, n1 _ OwS.framed (OwS.framed.mono _ _ _ hin (fun k _ h => .inr (by rcases h with h | h <;> omega)))⟩
  clear A t1 t2 t3 A1 f1 n1 hblk hin hO5 hE0 hrw hrw2
  generalize hob : wr.heap.size = ob at *
  clear hob
  obtain ⟨hcell, hobl, hrin, hsin⟩ := V5.yp
  have b0 : w5.cell? ⟨ob, 0, none⟩ = some (.int .i64 3) := hcell 0
  have b1 : w5.cell? ⟨ob, 1, none⟩ = some (.int .i64 hook) := hcell 1
  have b2 : w5.cell? ⟨ob, 2, none⟩ = some (.int .i64 prog) := hcell 2
  have b3 : w5.cell? ⟨ob, 3, none⟩ = some (.slice so sn sc) := hcell 3
  have HRI := Lib.hid hrin
  have HSI := Lib.hid hsin
  have HRO := Lib.hid hro
  clear hcell hrin hsin hro
  have hso : ∀ W, Sep w W (.slice so sn sc) := fun W a n c e h0 => .inr (by
    obtain ⟨rfl, rfl, rfl⟩ : so = some a ∧ sn = n ∧ sc = c := by simpa using e
    exact Rd.lt HRO.out h0)
  have HSO := Lib.hid hso
  clear hso
  have hlen := detachOf_len hs ls
  have hmm : ((detachOf hs ls).1 == (detachOf hs ls).1) = true := by simp
  have HML := Lib.hid hlen
  clear hlen
  go_wp2_with fail
  go_region_held3 (fun w' => w'.cell? ⟨ob, 3, none⟩ = some (.slice so sn sc)) (go_keep)
    (first
      | ((go_at_call 13); (refine (detachP RX.framed YP.framed (TSt.drew RX.framed YP.framed V5) h4 vin ls HRI.out HSI.out).mono ?_); (rintro e w6 ⟨rfl, V6, K6⟩); (have c6 : w6.cell? ⟨ob, 3, none⟩ = some (.slice so sn sc) := V6.yp.1 3))
      | ((go_at_call 22); (refine (refDetachP YP.framed V6 hn h4 (by omega) _ ls (HRO.out.grow V6.below) (HSO.out _)).mono ?_); (rintro e w7 ⟨rfl, V7, K7⟩); (have c7 : w7.cell? ⟨ob, 3, none⟩ = some (.slice so sn sc) := V7.yp.1 3))
      | ((go_at_call 23); (refine (intsP RX.framed YP.framed V7 vin _ ls V7.yp.2.2.1 (HRO.out.grow V7.below)).mono ?_); (rintro e w8 ⟨rfl, V8, K8⟩); (have c8 : w8.cell? ⟨ob, 3, none⟩ = some (.slice so sn sc) := V8.yp.1 3)))
  all_goals go_wp2_with fail
  all_goals
    go_ret
    exact ⟨rfl, last, _, V8.weakY (fun _ _ _ => trivial), HML.out, by omega, by omega⟩
set_option maxRecDepth 100000 in
set_option maxHeartbeats 4000000 in
theorem plays_fresh (V : TSt (RX x n last hs B) No g w last hs wr) (hn : (hs.length : Int) = n) (h4 : hs.length ≤ 4) (hB : B ≤ 80000) (hl0 : 0 ≤ last) (hl1 : last ≤ 90000) (hro : Rd (eInt .i64) w (.slice so sn sc) ls) (hls : ls.length * 8 ≤ 140737488351232) :
    Calls Try.prog 15 #[.pointer (some ⟨g, 0, none⟩), .pointer (some ⟨x, 0, none⟩), .agg #[.int .i64 4, .int .i64 hook, .int .i64 prog, .slice so sn sc]] wr fun e w' => e = .returned (.bool true) ∧ After g x n B w last hs w' := by
  have hrw := (hro.grow V.below).alloc (.cells #[.int .i64 4, .int .i64 hook, .int .i64 prog, .slice so sn sc] 30)
  have hrw2 := hrw.alloc (.cells #[] 3)
  have hE0 : OwS (eInt .i64) 3 (fun k => wr.heap.size + 1 ≤ k) ((wr.alloc (.cells #[.int .i64 4, .int .i64 hook, .int .i64 prog, .slice so sn sc] 30)).alloc (.cells #[] 3)) (.slice (some ⟨wr.heap.size + 1, 0, none⟩) 0 0) [] := by
    have h := Ow.lit (E := eInt .i64) (wr.alloc (.cells #[.int .i64 4, .int .i64 hook, .int .i64 prog, .slice so sn sc] 30)) 0 #[] 3 0 [] (by simp [Enc.all]) rfl (by simp) (Nat.zero_le _)
    have hs : (wr.alloc (.cells #[.int .i64 4, .int .i64 hook, .int .i64 prog, .slice so sn sc] 30)).heap.size = wr.heap.size + 1 := by simp
    rw [hs] at h
    exact ⟨h, fun k hk => by simp [Value.ownBlock] at hk; omega⟩
  go_enter Try.func15, Try.ntmps15
  go_wp2_with (at_builtin; refine wl_appendS (E := eInt .i64) rfl _ (.tmp 14) _ rfl 3 8 sliceI _ _ [] rfl hE0 _ ls rfl hrw2 (by simp; omega) (by unfold maxLen; simp; omega) ?_)
  intro vin w5 hin hO5
  obtain ⟨tag, A, t1, t2, t3⟩ := V
  obtain ⟨tag1, A1, f1, n1, _⟩ := A.step (F := fun k => wr.heap.size ≤ k ∧ False) (Only.of_below (B := wr.heap.size) ((((Below.refl _ _).alloc (Nat.le_refl _) (.cells #[.int .i64 4, .int .i64 hook, .int .i64 prog, .slice so sn sc] 30)).alloc (by simp) (.cells #[] 3)).trans (hO5.below (by simp; omega) (fun k h => by have h2 : wr.heap.size + 1 ≤ k := h; omega))) (fun k h1 h2 => by omega)) 7 (fun _ h => h.2.elim)
  have hblk : w5.heap[wr.heap.size]? = some (.cells #[.int .i64 4, .int .i64 hook, .int .i64 prog, .slice so sn sc] 30) := hO5.heap (heap_alloc (heap_alloc_new wr _)) (by omega)
  have V5 : TSt (RX x n last hs B) (YP wr.heap.size (.cells #[.int .i64 4, .int .i64 hook, .int .i64 prog, .slice so sn sc] 30) vin ls) g w last hs w5 :=
    ⟨tag1, A1, f1 _ TabS.framed _ t1 (fun _ _ h => h.2), f1 _ RX.framed _ t2 (fun _ _ h => h.2), n1 _ Blk.framed ⟨hblk, .inr (Nat.le_refl _)⟩, n1 _ OwS.framed (OwS.framed.mono _ _ _ hin (fun k _ h => .inr (by rcases h with h | h <;> omega)))⟩
  clear A t1 t2 t3 A1 f1 n1 hblk hin hO5 hE0 hrw hrw2
  generalize hob : wr.heap.size = ob at *
  clear hob
  obtain ⟨hcell, hobl, hrin, hsin⟩ := V5.yp
  have b0 : w5.cell? ⟨ob, 0, none⟩ = some (.int .i64 4) := hcell 0
  have b1 : w5.cell? ⟨ob, 1, none⟩ = some (.int .i64 hook) := hcell 1
  have b2 : w5.cell? ⟨ob, 2, none⟩ = some (.int .i64 prog) := hcell 2
  have b3 : w5.cell? ⟨ob, 3, none⟩ = some (.slice so sn sc) := hcell 3
  have HRI := Lib.hid hrin
  have HSI := Lib.hid hsin
  have HRO := Lib.hid hro
  clear hcell hrin hsin hro
  obtain ⟨S, st, ⟨v, H⟩, hM, hsl⟩ := V5.getX
  have d1 : w5.cell? ⟨x, 1, none⟩ = some (.int .i64 last) := blk_cell H.1 1
  have e1 : w5.frozen? ⟨x, 1, none⟩ = false := blk_free H.1 1
  have hxl := heap_lt H.1
  clear H hM hsl
  have V6 := V5.updX YP.framed (X' := RX x n (last + 1) hs B) (w' := w5.setCell ⟨x, 1, none⟩ (.int .i64 (last + 1))) (fun S h => by
    obtain ⟨st, ⟨v, H⟩, hM, hsl⟩ := h
    obtain ⟨H2, o2⟩ := H.set (cells' := fun v => #[.int .i64 n, .int .i64 (last + 1), v]) (by decide) 1 (.int .i64 (last + 1)) rfl
    exact ⟨⟨st, ⟨v, Obj1v.framed.mono _ _ _ H2 (fun _ _ h => .inl h)⟩, hM, hsl⟩, o2.mono (fun k _ e => by subst e; exact H.2.2.1)⟩) RX.framed
  have d6 : (w5.setCell ⟨x, 1, none⟩ (.int .i64 (last + 1))).cell? ⟨x, 1, none⟩ = some (.int .i64 (last + 1)) := by
    obtain ⟨S, st, ⟨v, H⟩, hM, hsl⟩ := V6.getX
    exact blk_cell H.1 1
  have V6' := Lib.hid V6
  have D6 := Lib.hid d6
  clear V5 V6 d6
  go_wp2_with fail
  have V6 := V6'.out
  have d6 := D6.out
  generalize World.setCell w5 _ _ = w6 at *
  have hq : ((last + 1 : Int) == last + 1) = true := by simp
  go_region_held3 (fun w' => w'.cell? ⟨x, 1, none⟩ = some (.int .i64 (last + 1))) (go_keep)
    (((go_at_call 24); (refine (freshP RX.framed YP.framed (TSt.drew RX.framed YP.framed V6) hl0 (by omega)).mono ?_); (rintro e w7 ⟨rfl, V7⟩); (have d7 : w7.cell? ⟨x, 1, none⟩ = some (.int .i64 (last + 1)) := (by obtain ⟨_, _, ⟨_, H⟩, _⟩ := V7.getX; exact blk_cell H.1 1))))
  all_goals go_wp2_with fail
  all_goals
    go_ret
    exact ⟨rfl, last + 1, hs, (V7.weakY (fun _ _ _ => trivial)).weakX (fun S w ⟨st, a, b, c⟩ => ⟨st, a, b, by omega⟩), rfl, by omega, by omega⟩
set_option maxRecDepth 100000 in
set_option maxHeartbeats 4000000 in
theorem plays_where {kind : Int} (V : TSt (RX x n last hs B) No g w last hs wr) (hn : (hs.length : Int) = n) (h4 : hs.length ≤ 4) (hB : B ≤ 80000) (hl0 : 0 ≤ last) (hl1 : last ≤ 90000) (hro : Rd (eInt .i64) w (.slice so sn sc) ls) (hls : ls.length * 8 ≤ 140737488351232) (k0 : kind ≠ 0) (k1 : kind ≠ 1) (k2 : kind ≠ 2) (k3 : kind ≠ 3) (k4 : kind ≠ 4) :
    Calls Try.prog 15 #[.pointer (some ⟨g, 0, none⟩), .pointer (some ⟨x, 0, none⟩), .agg #[.int .i64 kind, .int .i64 hook, .int .i64 prog, .slice so sn sc]] wr fun e w' => e = .returned (.bool true) ∧ After g x n B w last hs w' := by
  have hrw := (hro.grow V.below).alloc (.cells #[.int .i64 kind, .int .i64 hook, .int .i64 prog, .slice so sn sc] 30)
  have hrw2 := hrw.alloc (.cells #[] 3)
  have hE0 : OwS (eInt .i64) 3 (fun k => wr.heap.size + 1 ≤ k) ((wr.alloc (.cells #[.int .i64 kind, .int .i64 hook, .int .i64 prog, .slice so sn sc] 30)).alloc (.cells #[] 3)) (.slice (some ⟨wr.heap.size + 1, 0, none⟩) 0 0) [] := by
    have h := Ow.lit (E := eInt .i64) (wr.alloc (.cells #[.int .i64 kind, .int .i64 hook, .int .i64 prog, .slice so sn sc] 30)) 0 #[] 3 0 [] (by simp [Enc.all]) rfl (by simp) (Nat.zero_le _)
    have hs : (wr.alloc (.cells #[.int .i64 kind, .int .i64 hook, .int .i64 prog, .slice so sn sc] 30)).heap.size = wr.heap.size + 1 := by simp
    rw [hs] at h
    exact ⟨h, fun k hk => by simp [Value.ownBlock] at hk; omega⟩
  go_enter Try.func15, Try.ntmps15
  go_wp2_with (at_builtin; refine wl_appendS (E := eInt .i64) rfl _ (.tmp 14) _ rfl 3 8 sliceI _ _ [] rfl hE0 _ ls rfl hrw2 (by simp; omega) (by unfold maxLen; simp; omega) ?_)
  intro vin w5 hin hO5
  obtain ⟨tag, A, t1, t2, t3⟩ := V
  obtain ⟨tag1, A1, f1, n1, _⟩ := A.step (F := fun k => wr.heap.size ≤ k ∧ False) (Only.of_below (B := wr.heap.size) ((((Below.refl _ _).alloc (Nat.le_refl _) (.cells #[.int .i64 kind, .int .i64 hook, .int .i64 prog, .slice so sn sc] 30)).alloc (by simp) (.cells #[] 3)).trans (hO5.below (by simp; omega) (fun k h => by have h2 : wr.heap.size + 1 ≤ k := h; omega))) (fun k h1 h2 => by omega)) 7 (fun _ h => h.2.elim)
  have hblk : w5.heap[wr.heap.size]? = some (.cells #[.int .i64 kind, .int .i64 hook, .int .i64 prog, .slice so sn sc] 30) := hO5.heap (heap_alloc (heap_alloc_new wr _)) (by omega)
  have V5 : TSt (RX x n last hs B) (YP wr.heap.size (.cells #[.int .i64 kind, .int .i64 hook, .int .i64 prog, .slice so sn sc] 30) vin ls) g w last hs w5 :=
    ⟨tag1, A1, f1 _ TabS.framed _ t1 (fun _ _ h => h.2), f1 _ RX.framed _ t2 (fun _ _ h => h.2), n1 _ Blk.framed ⟨hblk, .inr (Nat.le_refl _)⟩, n1 _ OwS.framed (OwS.framed.mono _ _ _ hin (fun k _ h => .inr (by rcases h with h | h <;> omega)))⟩
  clear A t1 t2 t3 A1 f1 n1 hblk hin hO5 hE0 hrw hrw2
  generalize hob : wr.heap.size = ob at *
  clear hob
  obtain ⟨hcell, hobl, hrin, hsin⟩ := V5.yp
  have b0 : w5.cell? ⟨ob, 0, none⟩ = some (.int .i64 kind) := hcell 0
  have b1 : w5.cell? ⟨ob, 1, none⟩ = some (.int .i64 hook) := hcell 1
  have b2 : w5.cell? ⟨ob, 2, none⟩ = some (.int .i64 prog) := hcell 2
  have b3 : w5.cell? ⟨ob, 3, none⟩ = some (.slice so sn sc) := hcell 3
  have HRI := Lib.hid hrin
  have HSI := Lib.hid hsin
  have HRO := Lib.hid hro
  clear hcell hrin hsin hro
  have k0b : (kind == 0) = false := by simpa using k0
  have k1b : (kind == 1) = false := by simpa using k1
  have k2b : (kind == 2) = false := by simpa using k2
  have k3b : (kind == 3) = false := by simpa using k3
  have k4b : (kind == 4) = false := by simpa using k4
  clear k0 k1 k2 k3 k4
  go_wp2_with fail
  go_region_held3 (fun w' => w'.cell? ⟨ob, 3, none⟩ = some (.slice so sn sc)) (go_keep)
    (first
      | ((go_at_call 11); (refine (whereP RX.framed YP.framed (TSt.drew RX.framed YP.framed V5) h4 vin ls HRI.out).mono ?_); (rintro e w6 ⟨v6, rfl, R6, V6, K6⟩); (have c6 : w6.cell? ⟨ob, 3, none⟩ = some (.slice so sn sc) := V6.yp.1 3))
      | ((go_at_call 25); (refine (refWhereP YP.framed V6 hn h4 (by omega) _ ls (HRO.out.grow V6.below)).mono ?_); (rintro e w7 ⟨v7, rfl, R7, V7, K7⟩); (have c7 : w7.cell? ⟨ob, 3, none⟩ = some (.slice so sn sc) := V7.yp.1 3))
      | ((go_at_call_of 23 v6); (refine (intsP RX.framed YP.framed V7 _ _ _ (R6.grow K7) R7).mono ?_); (rintro e w8 ⟨rfl, V8, K8⟩); (have c8 : w8.cell? ⟨ob, 3, none⟩ = some (.slice so sn sc) := V8.yp.1 3))
      | ((go_at_call 23); (refine (intsP RX.framed YP.framed V8 vin _ ls V8.yp.2.2.1 (HRO.out.grow V8.below)).mono ?_); (rintro e w9 ⟨rfl, V9, K9⟩); (have c9 : w9.cell? ⟨ob, 3, none⟩ = some (.slice so sn sc) := V9.yp.1 3)))
  all_goals go_wp2_with fail
  all_goals
    go_ret
    exact ⟨rfl, last, hs, (V9.weakY (fun _ _ _ => trivial)).weakX (fun S w ⟨st, a, b, c⟩ => ⟨st, a, b, by omega⟩), rfl, by omega, by omega⟩
set_option maxRecDepth 100000 in
set_option maxHeartbeats 4000000 in
theorem plays_one (V : TSt (RX x n last hs B) No g w last hs wr) (hn : (hs.length : Int) = n) (h4 : hs.length ≤ 4) (hB : B ≤ 80000) (hl0 : 0 ≤ last) (hl1 : last ≤ 90000) (hro : Rd (eInt .i64) w (.slice so sn sc) ls) (hls : ls.length * 8 ≤ 140737488351232) :
    Calls Try.prog 15 #[.pointer (some ⟨g, 0, none⟩), .pointer (some ⟨x, 0, none⟩), .agg #[.int .i64 2, .int .i64 hook, .int .i64 prog, .slice so sn sc]] wr fun e w' => e = .returned (.bool true) ∧ After g x n B w last hs w' := by
  have hrw := (hro.grow V.below).alloc (.cells #[.int .i64 2, .int .i64 hook, .int .i64 prog, .slice so sn sc] 30)
  have hrw2 := hrw.alloc (.cells #[] 3)
  have hE0 : OwS (eInt .i64) 3 (fun k => wr.heap.size + 1 ≤ k) ((wr.alloc (.cells #[.int .i64 2, .int .i64 hook, .int .i64 prog, .slice so sn sc] 30)).alloc (.cells #[] 3)) (.slice (some ⟨wr.heap.size + 1, 0, none⟩) 0 0) [] := by
    have h := Ow.lit (E := eInt .i64) (wr.alloc (.cells #[.int .i64 2, .int .i64 hook, .int .i64 prog, .slice so sn sc] 30)) 0 #[] 3 0 [] (by simp [Enc.all]) rfl (by simp) (Nat.zero_le _)
    have hs : (wr.alloc (.cells #[.int .i64 2, .int .i64 hook, .int .i64 prog, .slice so sn sc] 30)).heap.size = wr.heap.size + 1 := by simp
    rw [hs] at h
    exact ⟨h, fun k hk => by simp [Value.ownBlock] at hk; omega⟩
  go_enter Try.func15, Try.ntmps15
  go_wp2_with (at_builtin; refine wl_appendS (E := eInt .i64) rfl _ (.tmp 14) _ rfl 3 8 sliceI _ _ [] rfl hE0 _ ls rfl hrw2 (by simp; omega) (by unfold maxLen; simp; omega) ?_)
  intro vin w5 hin hO5
  obtain ⟨tag, A, t1, t2, t3⟩ := V
  obtain ⟨tag1, A1, f1, n1, _⟩ := A.step (F := fun k => wr.heap.size ≤ k ∧ False) (Only.of_below (B := wr.heap.size) ((((Below.refl _ _).alloc (Nat.le_refl _) (.cells #[.int .i64 2, .int .i64 hook, .int .i64 prog, .slice so sn sc] 30)).alloc (by simp) (.cells #[] 3)).trans (hO5.below (by simp; omega) (fun k h => by have h2 : wr.heap.size + 1 ≤ k := h; omega))) (fun k h1 h2 => by omega)) 7 (fun _ h => h.2.elim)
  have hblk : w5.heap[wr.heap.size]? = some (.cells #[.int .i64 2, .int .i64 hook, .int .i64 prog, .slice so sn sc] 30) := hO5.heap (heap_alloc (heap_alloc_new wr _)) (by omega)
  have V5 : TSt (RX x n last hs B) (YP wr.heap.size (.cells #[.int .i64 2, .int .i64 hook, .int .i64 prog, .slice so sn sc] 30) vin ls) g w last hs w5 :=
    ⟨tag1, A1, f1 _ TabS.framed _ t1 (fun _ _ h => h.2), f1 _ RX.framed _ t2 (fun _ _ h => h.2), n1 _ Blk.framed ⟨hblk, .inr (Nat.le_refl _)⟩, n1 _ OwS.framed (OwS.framed.mono _ _ _ hin (fun k _ h => .inr (by rcases h with h | h <;> omega)))⟩
  clear A t1 t2 t3 A1 f1 n1 hblk hin hO5 hE0 hrw hrw2
  generalize hob : wr.heap.size = ob at *
  clear hob
  obtain ⟨hcell, hobl, hrin, hsin⟩ := V5.yp
  have b0 : w5.cell? ⟨ob, 0, none⟩ = some (.int .i64 2) := hcell 0
  have b1 : w5.cell? ⟨ob, 1, none⟩ = some (.int .i64 hook) := hcell 1
  have b2 : w5.cell? ⟨ob, 2, none⟩ = some (.int .i64 prog) := hcell 2
  have b3 : w5.cell? ⟨ob, 3, none⟩ = some (.slice so sn sc) := hcell 3
  have HRI := Lib.hid hrin
  have HSI := Lib.hid hsin
  have HRO := Lib.hid hro
  clear hcell hrin hsin hro
  have hlen := detachOf_len hs [hook]
  have hmm : ((detachOf hs [hook]).1 == (detachOf hs [hook]).1) = true := by simp
  have HML := Lib.hid hlen
  clear hlen
  have hob1 := World.new_ne w5 _ b1
  go_wp2_with fail
  go_region_held3 (fun w' => w'.cell? ⟨ob, 1, none⟩ = some (.int .i64 hook)) (go_keep)
    (first
      | ((go_at_call 13); (refine (detachP (g := g) (X := RX x n last hs B) (Y := YP ob (.cells #[.int .i64 2, .int .i64 hook, .int .i64 prog, .slice so sn sc] 30) vin ls) (w := w) (last := last) (hs := hs) RX.framed YP.framed ?_ h4 _ [hook] ?_ ?_).mono ?_); (repeat (first | exact V5 | refine TSt.alloc RX.framed YP.framed ?_ _ | refine TSt.drew RX.framed YP.framed ?_)); (first | exact Rd.one (heap_alloc_new _ _) | exact Rd.one (heap_alloc (heap_alloc_new _ _)) | exact Rd.one (heap_new2 _ _ _)); (first | exact Sep.one (heap_alloc_new _ _) | exact Sep.one (heap_alloc (heap_alloc_new _ _)) | exact Sep.one (heap_new2 _ _ _)); (rintro e w6 ⟨rfl, V6, K6⟩); (have c6 : w6.cell? ⟨ob, 1, none⟩ = some (.int .i64 hook) := V6.yp.1 1))
      | ((go_at_call 22); (refine (refDetachP (g := g) (x := x) (n := n) (B := B) (rl := last) (rhs := hs) (Y := YP ob (.cells #[.int .i64 2, .int .i64 hook, .int .i64 prog, .slice so sn sc] 30) vin ls) (w := w) (last := last) (hs := (detachOf hs [hook]).2) YP.framed ?_ hn h4 (by omega) _ [hook] ?_ ?_).mono ?_); (repeat (first | exact V6 | refine TSt.alloc RX.framed YP.framed ?_ _ | refine TSt.drew RX.framed YP.framed ?_)); (first | exact Rd.one (heap_alloc_new _ _) | exact Rd.one (heap_alloc (heap_alloc_new _ _)) | exact Rd.one (heap_new2 _ _ _) | exact Rd.one (K6 _ _ _ (heap_alloc_new _ _)) | exact Rd.one (K6 _ _ _ (heap_alloc (heap_alloc_new _ _))) | exact Rd.one (K6 _ _ _ (heap_new2 _ _ _)) | exact Rd.one (heap_alloc (K6 _ _ _ (heap_alloc_new _ _))) | exact Rd.one (heap_alloc (K6 _ _ _ (heap_alloc (heap_alloc_new _ _)))) | exact Rd.one (heap_alloc (K6 _ _ _ (heap_new2 _ _ _)))); (first | exact Sep.one (heap_alloc_new _ _) | exact Sep.one (heap_alloc (heap_alloc_new _ _)) | exact Sep.one (heap_new2 _ _ _) | exact Sep.one (K6 _ _ _ (heap_alloc_new _ _)) | exact Sep.one (K6 _ _ _ (heap_alloc (heap_alloc_new _ _))) | exact Sep.one (K6 _ _ _ (heap_new2 _ _ _)) | exact Sep.one (heap_alloc (K6 _ _ _ (heap_alloc_new _ _))) | exact Sep.one (heap_alloc (K6 _ _ _ (heap_alloc (heap_alloc_new _ _)))) | exact Sep.one (heap_alloc (K6 _ _ _ (heap_new2 _ _ _)))); (rintro e w7 ⟨rfl, V7, K7⟩); (have c7 : w7.cell? ⟨ob, 1, none⟩ = some (.int .i64 hook) := V7.yp.1 1)))
  all_goals go_wp2_with fail
  all_goals
    go_ret
    exact ⟨rfl, last, _, V7.weakY (fun _ _ _ => trivial), HML.out, by omega, by omega⟩
end
end Go.Proofs.Ythemkcgifefjmaa
