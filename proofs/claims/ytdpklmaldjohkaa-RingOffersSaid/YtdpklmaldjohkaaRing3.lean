/- Layer 16: Shut, Waiting. -/
import Derived.Test.YtdpklmaldjohkaaRing2
namespace Go.Proofs.Ytdpklmaldjohkaa
open Go.RowKit
set_option linter.unusedVariables false

set_option maxHeartbeats 1000000 in
theorem waiting_any (base g h : Nat) (room : Int) (shut : Bool) (wv : Value) (line : List Qd) (a r t d : Int) (w : World) (H : Ring base g h w room shut wv line a r t d) (hl : line.length ≤ 1000) :
    Calls Try.prog 12 #[.pointer (some ⟨g, 0, none⟩)] w fun e w' => ∃ v', e = .returned v' ∧ Ow eQ w.heap.size 39 w' v' line ∧ Only (fun _ => False) w w' := by
  obtain ⟨c0, c1, c2, c3, c4, c5, c6, c7, c8, f, hlg⟩ := H.cells
  obtain ⟨hm, ao, cap, rfl, hc1, hc2, _⟩ := id H.2.2
  have HR := Lib.hid H.2.2.rd
  clear H
  go_enter Try.func12, Try.ntmps12
  go_wp2_with fail
  refine (clone_any line _ w HR.out (by omega)).mono ?_
  rintro e w1 ⟨v1, rfl, hown, ho⟩
  go_wp2_with fail
  go_ret
  exact ⟨_, rfl, hown, ho⟩

set_option maxHeartbeats 2000000 in
theorem shut_any (base g h : Nat) (room : Int) (shut : Bool) (wv : Value) (line : List Qd) (a r t d : Int) (w : World) (H : Ring base g h w room shut wv line a r t d) (hl : line.length ≤ 1000) (hd0 : 0 ≤ d) (hd1 : d < 9223372036854770000) :
    Calls Try.prog 11 #[.pointer (some ⟨g, 0, none⟩)] w fun e w' => ∃ v', e = .returned v' ∧ Ow eQ w.heap.size 39 w' v' line ∧ Ring base g h w' room true (.slice none 0 0) [] a r t (d + line.length) ∧ Only (fun k => k = g) w w' := by
  obtain ⟨c0, c1, c2, c3, c4, c5, c6, c7, c8, f, hlg⟩ := H.cells
  obtain ⟨hm, ao, cap, rfl, hc1, hc2, _⟩ := id H.2.2
  have hrow := H.row
  have HH := Lib.hid H
  obtain ⟨n, hn⟩ : ∃ n, n = line.length := ⟨_, rfl⟩
  have HNN := Lib.hid hn
  rw [← hn] at c3 hl hc1 hm
  unfold maxLen at hm
  clear H hn
  go_enter Try.func11, Try.ntmps11
  go_wp2_with fail
  have oG : ∀ x y z : Value, Only (fun k => k = g) w (((w.setCell ⟨g, 3, none⟩ x).setCell ⟨g, 7, none⟩ y).setCell ⟨g, 2, none⟩ z) := fun x y z =>
    ((Only.setCell (fun k => k = g) w g 3 _ rfl).trans (Only.setCell (fun k => k = g) _ g 7 _ rfl) (fun _ _ h => h)).trans (Only.setCell (fun k => k = g) _ g 2 _ rfl) (fun _ _ h => h)
  have hwv : ∀ k, (Value.slice ao n cap).ownBlock = some k → ¬ k = g := by rintro k hk rfl; exact hrow (by rw [← HNN.out]; exact hk)
  have hown : Ow eQ base 39 w (.slice ao n cap) line := by rw [HNN.out]; exact HH.out.2.2
  refine (clone_any line (.slice ao n cap) _ (hown.only (oG (.slice none 0 0) (.int .i64 (d + n)) (.bool true)) hwv).rd (by rw [← HNN.out]; omega)).mono ?_
  rintro e w1 ⟨v1, rfl, hown1, ho1⟩
  go_wp2_with fail
  go_ret
  have q1 := heap_setCell_same w g 3 _ _ (.slice none 0 0) HH.out.2.1
  have q2 := heap_setCell_same _ g 7 _ _ (.int .i64 (d + n)) q1
  have q3 := heap_setCell_same _ g 2 _ _ (.bool true) q2
  have hs : w.heap.size = (((w.setCell ⟨g, 3, none⟩ (.slice none 0 0)).setCell ⟨g, 7, none⟩ (.int .i64 (d + n))).setCell ⟨g, 2, none⟩ (.bool true)).heap.size := by simp [World.setCell]
  refine ⟨_, rfl, hown1.mono (by rw [← hs]; exact Nat.le_refl _), ⟨HH.out.1, ?_, Ow.nil _ _ _⟩, (oG _ _ _).trans (ho1.mono (G := fun k => k = g) (fun _ _ h => h.elim)) (fun _ _ h => h)⟩
  rw [← HNN.out]
  exact ho1.heap q3 (fun h => h)
end Go.Proofs.Ytdpklmaldjohkaa
