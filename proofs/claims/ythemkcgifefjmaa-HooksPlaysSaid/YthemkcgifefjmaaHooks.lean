/- Layer 19: the table's methods. -/
import Derived.Test.YthemkcgifefjmaaHooksEnc
import Derived.Test.YthemkcgifefjmaaTool
import Derived.Deep.RegionHeld3
namespace Go.Proofs.Ythemkcgifefjmaa
open Go.RowKit
set_option linter.unusedVariables false

/-- the table at g -/
abbrev TabV (g : Nat) (last : Int) (v : Value) (hs : List Pub) : (Nat → Prop) → World → Prop :=
  Obj1v ePub 43 53 (fun v => #[.int .i64 last, v]) g v hs
def TabS (g : Nat) (last : Int) (hs : List Pub) (S : Nat → Prop) (w : World) : Prop := ∃ v, TabV g last v hs S w
theorem TabS.framed {g : Nat} {last : Int} {hs : List Pub} : Framed (TabS g last hs) := Framed.ex fun v => Obj1v.framed
theorem TabV.len {g : Nat} {last : Int} {v : Value} {hs : List Pub} {S : Nat → Prop} {w : World} (H : TabV g last v hs S w) (h0 : 0 < hs.length) : ∃ b off cap, v = .slice (some ⟨b, off, none⟩) hs.length cap ∧ hs.length ≤ cap ∧ b ≠ g ∧ b < w.heap.size := by
  obtain ⟨hg, hown, hS, hv⟩ := H
  obtain ⟨b, off, cap, rfl⟩ := hown.some_ h0
  obtain ⟨_, ao, cap', he, hc, _⟩ := id hown
  obtain ⟨rfl, _, rfl⟩ : some ⟨b, off, none⟩ = ao ∧ hs.length = hs.length ∧ cap = cap' := by simpa using he
  refine ⟨b, off, cap, rfl, hc, fun e => row_ne hg hown (by decide) (by rw [e]; rfl), (hown.lt rfl).2⟩

set_option maxHeartbeats 1000000 in
theorem new_not (n : Int) (w : World) (h1 : n < 1 ∨ 4 < n) :
    Calls Try.prog 8 #[.int .i64 n] w fun e w' => e = .returned (.tuple #[.pointer none, .int .i64 2]) ∧ w = w' := by
  rcases h1 with h1 | h1
  · go_enter Try.func8, Try.ntmps8
    go_wp2_with fail
    go_ret2
    exact ⟨rfl, rfl⟩
  · go_enter Try.func8, Try.ntmps8
    go_wp2_with fail
    go_ret2
    exact ⟨rfl, rfl⟩
theorem zeroPub : ZeroInfo Try.prog 41 53 ePub (0, 0) 16 := ZeroInfo.mk' Try.underlying41 (z := .agg #[.int .i64 0, .int .i64 0]) (by kernel_rfl) rfl
set_option maxHeartbeats 1000000 in
theorem new_any (n : Nat) (w : World) (h1 : 1 ≤ n) (h4 : n ≤ 4) :
    Calls Try.prog 8 #[.int .i64 (n : Int)] w fun e w' => ∃ g, e = .returned (.tuple #[.pointer (some ⟨g, 0, none⟩), .int .i64 0]) ∧ TabS g 0 (List.replicate n (0, 0)) (fun k => w.heap.size ≤ k) w' ∧ Only (fun _ => False) w w' := by
  go_enter Try.func8, Try.ntmps8
  go_wp2_with (refine wl_makeS (E := ePub) rfl (.tmp 10) (.tmp 10) _ rfl 53 16 (0, 0) zeroPub _ _ n rfl rfl (by omega) (by unfold maxLen; omega) ?_; intro w1 hown ho)
  go_wp2_with fail
  go_ret2
  have hs := ho.size
  refine ⟨_, rfl, ⟨_, heap_alloc_new w1 _, hown.1.alloc _, hs, fun k hk => by simp [Value.ownBlock] at hk; omega⟩, ho.tr (Only.alloc _ _ _)⟩

set_option maxHeartbeats 1000000 in
theorem fresh_any (g : Nat) (last : Int) (w : World) (c0 : w.cell? ⟨g, 0, none⟩ = some (.int .i64 last)) (f0 : w.frozen? ⟨g, 0, none⟩ = false) (h0 : 0 ≤ last) (h1 : last < 9223372036854775807) :
    Calls Try.prog 24 #[.pointer (some ⟨g, 0, none⟩)] w fun e w' => e = .returned (.int .i64 (last + 1)) ∧ w' = w.setCell ⟨g, 0, none⟩ (.int .i64 (last + 1)) := by
  go_enter Try.func24, Try.ntmps24
  go_wp2_with fail
  go_ret
  exact ⟨rfl, rfl⟩
set_option maxHeartbeats 1000000 in
theorem last_any (g : Nat) (last : Int) (w : World) (c0 : w.cell? ⟨g, 0, none⟩ = some (.int .i64 last)) :
    Calls Try.prog 14 #[.pointer (some ⟨g, 0, none⟩)] w fun e w' => e = .returned (.int .i64 last) ∧ w = w' := by
  go_enter Try.func14, Try.ntmps14
  go_wp2_with fail
  go_ret
  exact ⟨rfl, rfl⟩
set_option maxHeartbeats 1000000 in
theorem known_yes (g n : Nat) (ao : Option Addr) (cap : Nat) (h : Nat) (w : World) (c1 : w.cell? ⟨g, 1, none⟩ = some (.slice ao n cap)) (hh : h < n) (hn : n ≤ 1000) :
    Calls Try.prog 17 #[.pointer (some ⟨g, 0, none⟩), .int .i64 (h : Int)] w fun e w' => e = .returned (.bool true) ∧ w = w' := by
  have h1 : (0 : Int) ≤ (h : Int) := by omega
  have h2 : (h : Int) < (n : Int) := by omega
  go_enter Try.func17, Try.ntmps17
  go_wp2_with fail
  go_ret
  exact ⟨ret_bool (by simp), rfl⟩
set_option maxHeartbeats 1000000 in
theorem known_no (g n : Nat) (ao : Option Addr) (cap : Nat) (h : Int) (w : World) (c1 : w.cell? ⟨g, 1, none⟩ = some (.slice ao n cap)) (hh : h < 0 ∨ (n : Int) ≤ h) (hn : n ≤ 1000) :
    Calls Try.prog 17 #[.pointer (some ⟨g, 0, none⟩), .int .i64 h] w fun e w' => e = .returned (.bool false) ∧ w = w' := by
  rcases hh with hh | hh
  · go_enter Try.func17, Try.ntmps17
    go_wp2_with fail
    go_ret
    exact ⟨rfl, rfl⟩
  · have h0 : 0 ≤ h := by omega
    go_enter Try.func17, Try.ntmps17
    go_wp2_with fail
    go_ret
    exact ⟨ret_bool (by simp; omega), rfl⟩
set_option maxHeartbeats 1000000 in
theorem taken_any (g b off n cap : Nat) (h : Nat) (ver : Int) (w : World) (c1 : w.cell? ⟨g, 1, none⟩ = some (.slice (some ⟨b, off, none⟩) n cap)) (hh : h < n) (hn : n ≤ 1000) (cv : w.cell? ⟨b, off + h * 2, none⟩ = some (.int .i64 ver)) (t : Bool) (ht : decide (0 < ver) = t) :
    Calls Try.prog 18 #[.pointer (some ⟨g, 0, none⟩), .int .i64 (h : Int)] w fun e w' => e = .returned (.bool t) ∧ w = w' := by
  go_enter Try.func18, Try.ntmps18
  go_wp2_with fail
  go_ret
  exact ⟨rfl, rfl⟩
end Go.Proofs.Ythemkcgifefjmaa
