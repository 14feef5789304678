/- lru: evict. -/
import Derived.Test.YtodacnpbhlkoiaaLruPlain
import Derived.Deep.RegionHeld3
namespace Go.Proofs.Ytodacnpbhlkoiaa
open Go.RowKit
set_option linter.unusedVariables false
set_option linter.unusedSimpArgs false

def LruS (g b : Nat) (cap : Int) (s : List PairD × List Int) : (Nat → Prop) → World → Prop := Sep (LruO g b s.2) (BookS b cap s.1)
theorem LruS.framed {g b : Nat} {cap : Int} {s : List PairD × List Int} : Framed (LruS g b cap s) := Sep.framed LruO.framed BookS.framed
abbrev resO (x0 : Int) (x1 : Bool) (x2 : Int) (x3 : Bool) (x4 x5 : Int) : Obj := .cells #[.int .i64 x0, .bool x1, .int .u64 x2, .bool x3, .int .u64 x4, .int .u64 x5] 35 (0, 0)
theorem LruS.ptr {g b : Nat} {cap : Int} {s : List PairD × List Int} {S : Nat → Prop} {w : World} (H : LruS g b cap s S w) : w.cell? ⟨g, 0, none⟩ = some (.pointer (some ⟨b, 0, none⟩)) := by
  obtain ⟨v, hg, _⟩ := (H.left LruO.framed).own
  exact cells_of_heap hg 0 _ rfl
theorem LruS.do_ {g b : Nat} {cap : Int} {s : List PairD × List Int} {S : Nat → Prop} {w : World} (H : LruS g b cap s S w) (G : Good cap s.1) (op key val : Int) :
    Calls Try.prog 16 #[.pointer (some ⟨b, 0, none⟩), .int .i64 op, .int .u64 key, .int .u64 val] w fun e w' => e = .returned (ResD.val (doP cap s.1 op key val).1) ∧ Upd (LruS g b cap ((doP cap s.1 op key val).2, s.2)) S w w' := by
  obtain ⟨B, hB, hb⟩ := H.focusR LruO.framed
  exact (do_any b cap s.1 B op key val w hB G).mono fun e w' ⟨he, h1, h2⟩ => ⟨he, hb _ w' BookS.framed ⟨h1, h2⟩⟩
theorem LruS.drop_ {g b : Nat} {cap : Int} {s : List PairD × List Int} {S : Nat → Prop} {w : World} (H : LruS g b cap s S w) (key : Int) :
    Calls Try.prog 28 #[.pointer (some ⟨g, 0, none⟩), .int .u64 key] w fun e w' => e = .returned (.tuple #[]) ∧ Upd (LruS g b cap (s.1, dropK s.2 key)) S w w' := by
  obtain ⟨B, hB, hb⟩ := H.focus BookS.framed
  exact (drop_any g b s.2 B key w hB).mono fun e w' ⟨he, h1⟩ => ⟨he, hb _ w' LruO.framed h1⟩
theorem LruS.touch_ {g b : Nat} {cap : Int} {s : List PairD × List Int} {S : Nat → Prop} {w : World} (H : LruS g b cap s S w) (hn : s.2.length ≤ 1000) (key : Int) :
    Calls Try.prog 27 #[.pointer (some ⟨g, 0, none⟩), .int .u64 key] w fun e w' => e = .returned (.tuple #[]) ∧ Upd (LruS g b cap (s.1, key :: dropK s.2 key)) S w w' := by
  obtain ⟨B, hB, hb⟩ := H.focus BookS.framed
  exact (touch_any g b s.2 B key w hB hn).mono fun e w' ⟨he, h1⟩ => ⟨he, hb _ w' LruO.framed h1⟩
theorem LruS.doF_ {g b : Nat} {cap : Int} {s : List PairD × List Int} {S : Nat → Prop} {w : World} (H : LruS g b cap s S w) (G : Good cap s.1) {op key val : Int} {r : ResD} {ys : List PairD} (hd : doP cap s.1 op key val = (r, ys)) :
    Calls Try.prog 16 #[.pointer (some ⟨b, 0, none⟩), .int .i64 op, .int .u64 key, .int .u64 val] w fun e w' => e = .returned (.agg #[.int .i64 r.1, .bool r.2.1, .int .u64 r.2.2.1, .bool r.2.2.2.1, .int .u64 r.2.2.2.2.1, .int .u64 r.2.2.2.2.2]) ∧ Upd (LruS g b cap (ys, s.2)) S w w' := by
  have := H.do_ G op key val
  rw [hd] at this; exact this
/-- the same beside other things -/
theorem Upd.via {P R : (Nat → Prop) → World → Prop} (hR : Framed R) {S : Nat → Prop} {w w1 : World} (h : Upd (Sep P R) S w w1) {f : FuncId} {args : Array Value} {pr : Program} {e0 : Ending} {P' : (Nat → Prop) → World → Prop} (hP' : Framed P')
    (H : ∀ A, P A w1 → Calls pr f args w1 fun e w' => e = e0 ∧ Upd P' A w1 w') : Calls pr f args w1 fun e w' => e = e0 ∧ Upd (Sep P' R) S w w' := by
  obtain ⟨A, hA, hb⟩ := h.1.focus hR
  exact (H A hA).mono fun e w' ⟨he, hu⟩ => ⟨he, h.step (Sep.framed hP' hR) (hb P' w' hP' hu)⟩

theorem res_out {w : World} {r : Nat} {x0 x2 y4 y5 : Int} {x1 y3 : Bool} (h : w.heap[r]? = some (resO x0 x1 x2 y3 y4 y5)) (x4 x5 : Int) :
    ((((w.setCell ⟨r, 3, none⟩ (.bool true)).setCell ⟨r, 4, none⟩ (.int .u64 x4)).setCell ⟨r, 5, none⟩ (.int .u64 x5)).drew).heap[r]? = some (resO x0 x1 x2 true x4 x5) ∧ Only (fun k => k = r) w ((((w.setCell ⟨r, 3, none⟩ (.bool true)).setCell ⟨r, 4, none⟩ (.int .u64 x4)).setCell ⟨r, 5, none⟩ (.int .u64 x5)).drew) :=
  ⟨blk_set (blk_set (blk_set h 3 (.bool true)) 4 (.int .u64 x4)) 5 (.int .u64 x5), (((Only.setCell (fun k => k = r) w r 3 _ rfl).tr (Only.setCell _ _ r 4 _ rfl)).tr (Only.setCell _ _ r 5 _ rfl)).drew_⟩
set_option maxHeartbeats 2000000 in
theorem evict_any (g b r : Nat) (cap : Int) (s : List PairD × List Int) (S : Nat → Prop) (w : World) (H : Sep (LruS g b cap s) (Locs [(r, resO 0 false 0 false 0 0)]) S w) (G : LGood cap s) (h0 : 0 < s.2.length) (hlh : hasP s.1 (lastP s.2) = true) :
    Calls Try.prog 26 #[.pointer (some ⟨g, 0, none⟩), .pointer (some ⟨r, 0, none⟩)] w fun e w' => e = .returned (.tuple #[]) ∧ Upd (Sep (LruS g b cap (delP s.1 (lastP s.2), dropK s.2 (lastP s.2))) (Locs [(r, resO 0 false 0 true (lastP s.2) (oldP s.1 (lastP s.2)))])) S w w' := by
  obtain ⟨v, hg, hown, _⟩ := ((H.left LruS.framed).left LruO.framed).own
  have hlen : s.2.length ≤ 16 := by have := G.len; have := G.good.len; have := G.good.hi; omega
  have hrl := heap_lt ((H.right Locs.framed) _ (List.mem_singleton_self _)).1
  have HU := Lib.hid (Upd.refl (Sep.framed LruS.framed Locs.framed) H)
  have c1 := cells_of_heap hg 1 v rfl
  have c0 := (H.left LruS.framed).ptr
  obtain ⟨bb, off, cp, rfl⟩ := hown.1.some_ h0
  have hx := hown.rd.2
  obtain ⟨ao', cap', hao, _, _, hx⟩ := hx
  obtain ⟨rfl, -, rfl⟩ : some ⟨bb, off, none⟩ = ao' ∧ s.2.length = s.2.length ∧ cp = cap' := by simpa using hao
  obtain ⟨sb, off', ho', hc⟩ := hx h0
  obtain ⟨rfl, rfl⟩ : bb = sb ∧ off = off' := by simpa using ho'
  obtain ⟨m, hm⟩ : ∃ m, m = s.2.length - 1 := ⟨_, rfl⟩
  have hml : m < s.2.length := by omega
  have d0 := hc m _ (eU64_at s.2 m hml)
  have hlast : s.2[m] = lastP s.2 := by subst hm; exact (last_at h0).symm
  rw [hlast] at d0
  have hsub : IntKind.i64.wrap ((s.2.length : Int) - 1) = (m : Int) := by rw [IntKind.wrap_i64]; omega
  have hsub2 : IntKind.i64.wrap (m : Int) = (m : Int) := by rw [IntKind.wrap_i64]; omega
  have HDel := Lib.hid (show doP cap s.1 3 (lastP s.2) 0 = (resF true (oldP s.1 (lastP s.2)), delP s.1 (lastP s.2)) by unfold doP; simp [hlh])
  have HG := Lib.hid G
  have hi0 : (0 : Int) ≤ (m : Int) := by omega
  have hi1 : (m : Int) < (s.2.length : Int) := by omega
  clear hg hown hx hao ho' hc hm hlast H G hlh
  generalize lastP s.2 = l at *
  generalize oldP s.1 l = o at *
  go_enter Try.func26, Try.ntmps26
  go_wp2_with fail
  go_quiet (fail)
  go_wp2_with fail
  have HU1 := Lib.hid (HU.out.fresh (Sep.framed LruS.framed Locs.framed) ((Only.refl _ _).drewN nq))
  refine (HU1.out.via Locs.framed LruS.framed fun A hA => LruS.doF_ hA HG.out.good HDel.out).mono ?_
  rintro e w1 ⟨rfl, hU1⟩
  have HU2 := Lib.hid (hU1.loc LruS.framed (resO 0 true o false 0 0))
  have hw1 := hU1.2.size
  have hne : ¬ r = w1.heap.size := by omega
  have hne2 : ¬ w1.heap.size = r := fun h => hne h.symm
  clear HU1 HU hU1 c1 c0 d0 hw1
  dsimp only [resF]
  go_wp2_with fail
  refine (HU2.out.via Locs.framed LruS.framed fun A hA => LruS.drop_ hA l).mono ?_
  rintro e w2 ⟨rfl, hU2⟩
  have h5 := hU2.get (g := w1.heap.size) (List.mem_cons_self ..)
  have hr := hU2.get (g := r) (List.mem_cons_of_mem _ (List.mem_singleton_self _))
  have HU3 := Lib.hid hU2
  have e2 := cells_of_heap h5 2 (.int .u64 o) rfl
  have r3 := cells_of_heap hr 3 (.bool false) rfl
  have r4 := cells_of_heap hr 4 (.int .u64 0) rfl
  have r5 := cells_of_heap hr 5 (.int .u64 0) rfl
  have z3 := frozen_of_row w2 r 3 _ _ hr
  have z4 := frozen_of_row w2 r 4 _ _ hr
  have z5 := frozen_of_row w2 r 5 _ _ hr
  have HR := Lib.hid hr
  clear hU2 h5 hr HU2
  go_wp2_with fail
  go_region_held3 (fun w' => w'.cell? ⟨w1.heap.size, 2, none⟩ = some (.int .u64 o)) (simp [*, World.cell?_setCell_far, World.cell?_setCell_other]) (fail)
  all_goals go_wp2_with fail
  all_goals go_end0
  all_goals
    obtain ⟨hs1, hs2⟩ := res_out HR.out l o
    refine ⟨rfl, HU3.out.locs LruS.framed (hs2.mono fun k _ e => ⟨_, List.mem_cons_of_mem _ (List.mem_singleton_self _), e.symm⟩) fun p hp => ?_⟩
    obtain rfl := List.mem_singleton.1 hp
    exact ⟨hs1, .inr ⟨_, List.mem_cons_of_mem _ (List.mem_singleton_self _), rfl⟩⟩
end Go.Proofs.Ytodacnpbhlkoiaa
