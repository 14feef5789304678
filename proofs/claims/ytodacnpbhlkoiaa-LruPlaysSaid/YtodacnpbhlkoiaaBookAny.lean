/- book: Do, every road; Len, Cap, New. -/
import Derived.Test.YtodacnpbhlkoiaaBookDo5
namespace Go.Proofs.Ytodacnpbhlkoiaa
open Go.RowKit
set_option linter.unusedVariables false
set_option linter.unusedSimpArgs false

def ResD.val (r : ResD) : Value := .agg #[.int .i64 r.1, .bool r.2.1, .int .u64 r.2.2.1, .bool r.2.2.2.1, .int .u64 r.2.2.2.2.1, .int .u64 r.2.2.2.2.2]
theorem do_any (b : Nat) (cap : Int) (xs : List PairD) (S : Nat → Prop) (op key val : Int) (w : World) (H : BookS b cap xs S w) (G : Good cap xs) :
    Calls Try.prog 16 #[.pointer (some ⟨b, 0, none⟩), .int .i64 op, .int .u64 key, .int .u64 val] w (DoPost b S cap w (doP cap xs op key val)) := by
  unfold doP
  by_cases h0 : op = 0
  · subst h0
    rw [if_pos rfl]
    cases hf : hasP xs key
    · have := do_get_no b cap xs S key val w H G hf
      rwa [show oldP xs key = 0 by unfold oldP; rw [hf]; rfl]
    · exact do_get_yes b cap xs S key val w H G hf
  rw [if_neg h0]
  by_cases h1 : op = 1
  · subst h1
    rw [if_pos rfl]
    exact do_has b cap xs S key val w H G
  rw [if_neg h1]
  by_cases h3 : op = 3
  · subst h3
    rw [if_pos rfl]
    unfold delP
    cases hf : hasP xs key
    · have := do_del_no b cap xs S key val w H G hf
      rwa [show oldP xs key = 0 by unfold oldP; rw [hf]; rfl]
    · exact do_del_yes b cap xs S key val w H G hf
  rw [if_neg h3]
  by_cases h2 : op = 2
  · subst h2
    rw [if_pos rfl]
    cases hf : hasP xs key
    · by_cases hl : (xs.length : Int) = cap
      · rw [if_pos (by unfold full; rw [hf]; simpa using hl)]
        exact do_full b cap xs S 2 key val w H G (.inl rfl) hf hl
      · rw [if_neg (by unfold full; rw [hf]; simpa using hl)]
        have := do_put_no b cap xs S key val w H G hf hl
        rw [show oldP xs key = 0 by unfold oldP; rw [hf]; rfl]
        unfold putP
        rw [hf]
        exact this
    · rw [if_neg (by unfold full; rw [hf]; simp)]
      unfold putP
      rw [hf]
      exact do_put_yes b cap xs S key val w H G hf
  rw [if_neg h2]
  by_cases h4 : op = 4
  · subst h4
    rw [if_pos rfl]
    cases hf : hasP xs key
    · by_cases hl : (xs.length : Int) = cap
      · rw [if_pos (by unfold full; rw [hf]; simpa using hl)]
        exact do_full b cap xs S 4 key val w H G (.inr rfl) hf hl
      · rw [if_neg (by unfold full; rw [hf]; simpa using hl)]
        have := do_add_no b cap xs S key val w H G hf hl
        rw [show oldP xs key = 0 by unfold oldP; rw [hf]; rfl]
        unfold putP
        rw [hf]
        exact this
    · rw [if_neg (by unfold full; rw [hf]; simp)]
      unfold putP
      rw [hf]
      exact do_add_yes b cap xs S key val w H G hf
  rw [if_neg h4]
  exact do_bad b cap xs S op key val w H (by omega)

theorem len_any (b : Nat) (cap : Int) (xs : List PairD) (S : Nat → Prop) (w : World) (H : BookS b cap xs S w) :
    Calls Try.prog 12 #[.pointer (some ⟨b, 0, none⟩)] w fun e w' => e = .returned (.int .i64 xs.length) ∧ Only (fun _ => False) w w' := by
  obtain ⟨v, hg, hown, hS, hvS⟩ := H
  obtain ⟨n, ao, c2, rfl, rest⟩ := hown
  have c1 := cells_of_heap hg 1 _ rfl
  clear hg rest
  go_enter Try.func12, Try.ntmps12
  go_wp2_with fail
  go_ret
  exact ⟨rfl, Only.refl _ _⟩
theorem cap_any (b : Nat) (cap : Int) (xs : List PairD) (S : Nat → Prop) (w : World) (H : BookS b cap xs S w) :
    Calls Try.prog 19 #[.pointer (some ⟨b, 0, none⟩)] w fun e w' => e = .returned (.int .i64 cap) ∧ Only (fun _ => False) w w' := by
  obtain ⟨v, hg, hown, hS, hvS⟩ := H
  have c1 := cells_of_heap hg 0 _ rfl
  clear hg hown
  go_enter Try.func19, Try.ntmps19
  go_wp2_with fail
  go_ret
  exact ⟨rfl, Only.refl _ _⟩
theorem new_bad (cap : Int) (w : World) (h : cap < 1 ∨ 16 < cap) :
    Calls Try.prog 15 #[.int .i64 cap] w fun e w' => e = .returned (.tuple #[.pointer none, .int .i64 2]) ∧ Only (fun _ => False) w w' := by
  by_cases h1 : cap < 1
  · clear h
    go_enter Try.func15, Try.ntmps15
    go_wp2_with fail
    go_ret2
    exact ⟨rfl, Only.refl _ _⟩
  · have h2 : 16 < cap := by omega
    clear h
    go_enter Try.func15, Try.ntmps15
    go_wp2_with fail
    go_ret2
    exact ⟨rfl, Only.refl _ _⟩
theorem new_ok (cap : Int) (w : World) (h1 : 1 ≤ cap) (h2 : cap ≤ 16) :
    Calls Try.prog 15 #[.int .i64 cap] w fun e w' => ∃ b, e = .returned (.tuple #[.pointer (some ⟨b, 0, none⟩), .int .i64 0]) ∧ BookS b cap [] (fun k => w.heap.size ≤ k) w' ∧ Only (fun _ => False) w w' := by
  go_enter Try.func15, Try.ntmps15
  go_wp2_with fail
  go_ret2
  exact ⟨w.heap.size, rfl, ⟨_, heap_alloc_new w _, Ow.nil _ _ _, Nat.le_refl _, fun k hk => by simp [Value.ownBlock] at hk⟩, Only.alloc _ _ _⟩
end Go.Proofs.Ytodacnpbhlkoiaa
