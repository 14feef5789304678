/- Layer 19: publish, Attach, Swap, Current. -/
import Derived.Test.YthemkcgifefjmaaHooks
namespace Go.Proofs.Ythemkcgifefjmaa
open Go.RowKit
set_option linter.unusedVariables false

set_option maxHeartbeats 1000000 in
theorem publish_any (g : Nat) (last : Int) (hs : List Pub) (h : Nat) (prog : Int) (v : Value) (S : Nat → Prop) (w : World) (H : TabV g last v hs S w) (hh : h < hs.length) (hn : hs.length ≤ 4) (h0 : 0 ≤ last) (h1 : last < 9223372036854775807) :
    Calls Try.prog 19 #[.pointer (some ⟨g, 0, none⟩), .int .i64 (h : Int), .int .i64 prog] w fun e w' => e = .returned (.tuple #[.int .i64 (last + 1), .int .i64 0]) ∧ TabV g (last + 1) v (hs.set h (last + 1, prog)) S w' ∧ Only S w w' := by
  obtain ⟨b, off, cap, rfl, hcap, hbg, hlb⟩ := H.len (by omega)
  obtain ⟨n, hnn⟩ : ∃ n, n = hs.length := ⟨_, rfl⟩
  have c0 : w.cell? ⟨g, 0, none⟩ = some (.int .i64 last) := blk_cell H.1 0
  have c1 : w.cell? ⟨g, 1, none⟩ = some (.slice (some ⟨b, off, none⟩) n cap) := by rw [hnn]; exact blk_cell H.1 1
  have f0 : w.frozen? ⟨g, 0, none⟩ = false := blk_free H.1 0
  obtain ⟨b', off', hbo, _, hat⟩ := H.2.1.at_ h hh
  obtain ⟨rfl, rfl⟩ : b = b' ∧ off = off' := by simpa using hbo
  have x0 : w.cell? ⟨b, off + h * 2, none⟩ = some (.int .i64 hs[h].1) := (hat 0 (by decide)).1
  have x1 : w.cell? ⟨b, off + h * 2 + 1, none⟩ = some (.int .i64 hs[h].2) := (hat 1 (by decide)).1
  have y0 : w.frozen? ⟨b, off + h * 2, none⟩ = false := (hat 0 (by decide)).2
  have y1 : w.frozen? ⟨b, off + h * 2 + 1, none⟩ = false := (hat 1 (by decide)).2
  obtain ⟨H2, o2⟩ := H.set (cells' := fun v => #[.int .i64 (last + 1), v]) (by decide) 0 (.int .i64 (last + 1)) rfl
  obtain ⟨H3, o3⟩ := H2.elem (by decide) h hh ((last + 1, prog) : Pub)
  have HH := Lib.hid H
  have HH3 : Hid (TabV g (last + 1) (.slice (some ⟨b, off, none⟩) hs.length cap) (hs.set h (last + 1, prog)) S (((w.setCell ⟨g, 0, none⟩ (.int .i64 (last + 1))).setCell ⟨b, off + h * 2, none⟩ (.int .i64 (last + 1))).setCell ⟨b, off + h * 2 + 1, none⟩ (.int .i64 prog))) := H3
  have HO2 := Lib.hid o2
  have HO3 : Hid (Only S (w.setCell ⟨g, 0, none⟩ (.int .i64 (last + 1))) (((w.setCell ⟨g, 0, none⟩ (.int .i64 (last + 1))).setCell ⟨b, off + h * 2, none⟩ (.int .i64 (last + 1))).setCell ⟨b, off + h * 2 + 1, none⟩ (.int .i64 prog))) := o3
  rw [← hnn] at hh hn hcap
  have hi0 : (0 : Int) ≤ (h : Int) := by omega
  have hi1 : (h : Int) < (n : Int) := by omega
  have hgb : ¬ g = b := fun e => hbg e.symm
  have hlg : g < w.heap.size := heap_lt H.1
  have HN := Lib.hid hnn
  clear H H2 H3 o2 o3 hat hbo hnn
  go_enter Try.func19, Try.ntmps19
  go_wp2_with fail
  go_region_held3 (fun w' => w'.cell? ⟨g, 1, none⟩ = some (.slice (some ⟨b, off, none⟩) n cap)) (simp [*, World.cell?_setCell_far, World.cell?_setCell_other]) ((go_at_call 24; refine (fresh_any g last _ ?_ ?_ h0 h1).mono ?_; (simp [*]); (simp [*]); rintro e w' ⟨rfl, rfl⟩))
  all_goals go_wp2_with fail
  all_goals
    have HL := Framed.drew Obj1v.framed HH3.out
    refine (last_any g (last + 1) _ (blk_cell HL.1 0)).mono ?_
    rintro e w2 ⟨rfl, rfl⟩
    have HHL := Lib.hid HL
    clear HL
    go_wp2_with fail
    go_ret2
    exact ⟨rfl, HHL.out, ((HO2.out.mono (fun k _ e => by subst e; exact HH.out.2.2.1)).tr HO3.out).drew_⟩

def getH (hs : List Pub) (h : Int) : Pub := hs[h.toNat]?.getD (0, 0)
def bad (hs : List Pub) (h : Int) : Prop := h < 0 ∨ (hs.length : Int) ≤ h
instance (hs : List Pub) (h : Int) : Decidable (bad hs h) := by unfold bad; exact inferInstance
def attachOf (hs : List Pub) (last h prog : Int) : Int × Int × Int × List Pub :=
  if bad hs h then (0, 2, last, hs) else if 0 < (getH hs h).1 then (0, 42, last, hs) else (last + 1, 0, last + 1, hs.set h.toNat (last + 1, prog))
def swapOf (hs : List Pub) (last h prog : Int) : Int × Int × Int × List Pub :=
  if bad hs h then (0, 2, last, hs) else if 0 < (getH hs h).1 then (last + 1, 0, last + 1, hs.set h.toNat (last + 1, prog)) else (0, 41, last, hs)
def currentOf (hs : List Pub) (h : Int) : Int × Int × Bool :=
  if bad hs h then (0, 0, false) else if 0 < (getH hs h).1 then ((getH hs h).1, (getH hs h).2, true) else (0, 0, false)

/-- the table opened: its slice, and the element at h -/
theorem TabV.at_ {g : Nat} {last : Int} {v : Value} {hs : List Pub} {S : Nat → Prop} {w : World} (H : TabV g last v hs S w) (h : Nat) (hh : h < hs.length) : ∃ b off cap, v = .slice (some ⟨b, off, none⟩) hs.length cap ∧ hs.length ≤ cap ∧ w.cell? ⟨b, off + h * 2, none⟩ = some (.int .i64 hs[h].1) ∧ w.cell? ⟨b, off + h * 2 + 1, none⟩ = some (.int .i64 hs[h].2) := by
  obtain ⟨b, off, cap, rfl, hcap, hbg, hlb⟩ := H.len (by omega)
  obtain ⟨b', off', hbo, _, hat⟩ := H.2.1.at_ h hh
  obtain ⟨rfl, rfl⟩ : b = b' ∧ off = off' := by simpa using hbo
  exact ⟨b, off, cap, rfl, hcap, (hat 0 (by decide)).1, (hat 1 (by decide)).1⟩
theorem TabV.shape {g : Nat} {last : Int} {v : Value} {hs : List Pub} {S : Nat → Prop} {w : World} (H : TabV g last v hs S w) : ∃ ao cap, v = .slice ao hs.length cap := by
  obtain ⟨_, ⟨_, ao, cap, rfl, _⟩, _⟩ := H
  exact ⟨ao, cap, rfl⟩

set_option maxHeartbeats 2000000 in
theorem attach_any (g : Nat) (last : Int) (hs : List Pub) (h prog : Int) (S : Nat → Prop) (w : World) (H : TabS g last hs S w) (hn : hs.length ≤ 4) (h0 : 0 ≤ last) (h1 : last < 9223372036854775807) :
    Calls Try.prog 10 #[.pointer (some ⟨g, 0, none⟩), .int .i64 h, .int .i64 prog] w fun e w' => e = .returned (.tuple #[.int .i64 (attachOf hs last h prog).1, .int .i64 (attachOf hs last h prog).2.1]) ∧ TabS g (attachOf hs last h prog).2.2.1 (attachOf hs last h prog).2.2.2 S w' ∧ Only S w w' := by
  obtain ⟨v, H⟩ := H
  have HH := Lib.hid H
  by_cases hb : bad hs h
  · have e1 : attachOf hs last h prog = (0, 2, last, hs) := by simp [attachOf, hb]
    rw [e1]
    obtain ⟨ao, cap, rfl⟩ := H.shape
    have c1 := blk_cell H.1 1
    have HB := Lib.hid hb
    have HC := Lib.hid c1
    clear H hb c1 e1
    go_enter Try.func10, Try.ntmps10
    go_wp2_with fail
    refine (known_no g hs.length ao cap h w HC.out HB.out (by omega)).mono ?_
    rintro e w1 ⟨rfl, rfl⟩
    go_wp2_with fail
    go_ret2
    exact ⟨rfl, ⟨_, HH.out⟩, Only.refl _ _⟩
  · obtain ⟨k, rfl⟩ : ∃ k : Nat, h = (k : Int) := ⟨h.toNat, by unfold bad at hb; omega⟩
    have hk : k < hs.length := by unfold bad at hb; omega
    have hge : getH hs (k : Int) = hs[k] := by simp [getH, hk]
    obtain ⟨b, off, cap, rfl, hcap, x0, x1⟩ := H.at_ k hk
    have c1 : w.cell? ⟨g, 1, none⟩ = some (.slice (some ⟨b, off, none⟩) hs.length cap) := blk_cell H.1 1
    by_cases ht : 0 < hs[k].1
    · have e1 : attachOf hs last (k : Int) prog = (0, 42, last, hs) := by simp only [attachOf, if_neg hb, hge, if_pos ht]
      rw [e1]
      have HX := Lib.hid x0
      have HT := Lib.hid ht
      have HC := Lib.hid c1
      clear H hb e1 hge x0 x1 ht c1
      go_enter Try.func10, Try.ntmps10
      go_wp2_with fail
      refine (known_yes g hs.length _ cap k w HC.out hk (by omega)).mono ?_
      rintro e w1 ⟨rfl, rfl⟩
      go_wp2_with fail
      refine (taken_any g b off hs.length cap k _ w HC.out hk (by omega) HX.out true (by simpa using HT.out)).mono ?_
      rintro e w1 ⟨rfl, rfl⟩
      go_wp2_with fail
      go_ret2
      exact ⟨rfl, ⟨_, HH.out⟩, Only.refl _ _⟩
    · have e1 : attachOf hs last (k : Int) prog = (last + 1, 0, last + 1, hs.set k (last + 1, prog)) := by simp only [attachOf, if_neg hb, hge, if_neg ht]; simp
      rw [e1]
      have HX := Lib.hid x0
      have HT := Lib.hid ht
      have HC := Lib.hid c1
      clear H hb e1 hge x0 x1 ht c1
      go_enter Try.func10, Try.ntmps10
      go_wp2_with fail
      refine (known_yes g hs.length _ cap k w HC.out hk (by omega)).mono ?_
      rintro e w1 ⟨rfl, rfl⟩
      go_wp2_with fail
      refine (taken_any g b off hs.length cap k _ w HC.out hk (by omega) HX.out false (by simpa using HT.out)).mono ?_
      rintro e w1 ⟨rfl, rfl⟩
      go_wp2_with fail
      refine (publish_any g last hs k prog _ S w HH.out hk hn h0 h1).mono ?_
      rintro e w2 ⟨rfl, H2, O2⟩
      have HH2 := Lib.hid H2
      clear H2
      go_wp2_with fail
      go_ret2
      exact ⟨rfl, ⟨_, HH2.out⟩, O2⟩
end Go.Proofs.Ythemkcgifefjmaa
