/- The law BookOrder: its plain law. -/
import Derived.Test.YtodacnpbhlkoiaaBookMore
namespace Go.Proofs.Ytodacnpbhlkoiaa
open Go.RowKit
set_option linter.unusedVariables false
set_option linter.unusedSimpArgs false

/-- a book of room 16 with the pairs F -/
structure Set16 (zs F : List PairD) : Prop where
  good : Good 16 zs
  len : zs.length = F.length
  mem : ∀ p, p ∈ zs ↔ p ∈ F
def Keys (F : List PairD) : Prop := F.Pairwise (fun p q => p.1 ≠ q.1)
theorem has_of {zs F : List PairD} (H : Set16 zs F) {k : Int} (h : ∀ p ∈ F, p.1 ≠ k) : hasP zs k = false := by
  unfold hasP
  rw [List.any_eq_false]
  intro p hp
  have := h p ((H.mem p).1 hp)
  simpa using this
theorem put_new_len (zs : List PairD) (k v : Int) (h : hasP zs k = false) : (putP zs k v).length = zs.length + 1 := by
  unfold putP
  rw [h, if_neg (by simp)]
  have := posP_le zs k
  simp; omega
theorem put_old_len (zs : List PairD) (k v : Int) (h : hasP zs k = true) : (putP zs k v).length = zs.length := by
  unfold putP
  rw [h, if_pos rfl]; simp
theorem do_put_of {zs : List PairD} {k v : Int} (hf : full 16 zs k = false) : doP 16 zs 2 k v = (resF (hasP zs k) (oldP zs k), putP zs k v) := by
  unfold doP; simp [hf]
theorem full_of {zs : List PairD} {k : Int} (h : zs.length < 16) : full 16 zs k = false := by
  unfold full; simp; intro _; omega
/-- a new key is put -/
theorem set_put {zs F : List PairD} (H : Set16 zs F) {k v : Int} (h : ∀ p ∈ F, p.1 ≠ k) (hl : F.length < 16) (F' : List PairD) (hF : ∀ p, p ∈ F' ↔ p = (k, v) ∨ p ∈ F) (hl' : F'.length = F.length + 1) :
    ∃ ys, doP 16 zs 2 k v = (resF false 0, ys) ∧ Set16 ys F' := by
  have hh := has_of H h
  have hf : full 16 zs k = false := full_of (by rw [H.len]; exact hl)
  refine ⟨putP zs k v, ?_, put_good H.good hf, by rw [put_new_len _ _ _ hh, H.len, hl'], fun p => ?_⟩
  · rw [do_put_of hf, hh]
    unfold oldP
    rw [hh]; rfl
  · rw [mem_put H.good.rising, hF, H.mem]
    constructor
    · rintro (h1 | ⟨_, h1⟩)
      · exact .inl h1
      · exact .inr h1
    · rintro (h1 | h1)
      · exact .inl h1
      · exact .inr ⟨h p h1, h1⟩
/-- a key that is there is put -/
theorem set_again {zs F : List PairD} (H : Set16 zs F) {k u v : Int} (hr : ∀ p ∈ F, p = (k, u) ∨ p.1 ≠ k) (hin : (k, u) ∈ F) (F' : List PairD) (hF : ∀ p, p ∈ F' ↔ p = (k, v) ∨ p ∈ F ∧ p.1 ≠ k) (hl' : F'.length = F.length) :
    ∃ ys r, doP 16 zs 2 k v = (r, ys) ∧ Set16 ys F' := by
  have hh : hasP zs k = true := mem_has.2 ⟨u, (H.mem _).2 hin⟩
  have hf : full 16 zs k = false := by unfold full; rw [hh]; rfl
  refine ⟨putP zs k v, _, do_put_of hf, put_good H.good hf, by rw [put_old_len _ _ _ hh, H.len, hl'], fun p => ?_⟩
  rw [mem_put H.good.rising, hF, H.mem]
  constructor
  · rintro (h1 | ⟨h0, h1⟩)
    · exact .inl h1
    · exact .inr ⟨h1, h0⟩
  · rintro (h1 | ⟨h0, h1⟩)
    · exact .inl h1
    · exact .inr ⟨h1, h0⟩
theorem set_nil : Set16 [] [] := ⟨good_nil (by decide) (by decide), rfl, fun _ => Iff.rfl⟩
/-- Fill of unlike keys -/
theorem set_fill {F : List PairD} (hk : Keys F) (hl : F.length ≤ 16) : ∀ k, k ≤ F.length → ∃ zs, fillP 16 [] (F.take k) = (zs, k) ∧ Set16 zs (F.take k) := by
  intro k
  induction k with
  | zero => intro _; exact ⟨[], rfl, set_nil⟩
  | succ k ih =>
    intro h
    obtain ⟨zs, e, H⟩ := ih (by omega)
    have hlt : k < F.length := by omega
    have hne : ∀ p ∈ F.take k, p.1 ≠ F[k].1 := fun p hp => by
      obtain ⟨a, ha, rfl⟩ := List.getElem_of_mem hp
      rw [List.getElem_take]
      exact List.pairwise_iff_getElem.1 hk a k _ hlt (by simp at ha; omega)
    obtain ⟨ys, hd, H2⟩ := set_put H (k := F[k].1) (v := F[k].2) hne (by simp; omega) (F.take (k + 1)) (fun p => by
      rw [List.take_succ_eq_append_getElem hlt, List.mem_append, List.mem_singleton]
      exact or_comm) (by simp; omega)
    refine ⟨ys, ?_, H2⟩
    rw [List.take_succ_eq_append_getElem hlt, fillP_snoc, e]
    dsimp only
    rw [hd]
    simp [resF]
theorem set_fill_all {F : List PairD} (hk : Keys F) (hl : F.length ≤ 16) : ∃ zs, fillP 16 [] F = (zs, F.length) ∧ Set16 zs F := by
  have := set_fill hk hl F.length (Nat.le_refl _)
  rwa [List.take_length] at this
/-- the two puts of the law -/
theorem set_two {zs F : List PairD} (hk : Keys F) (hl : F.length ≤ 16) (m : Nat) (hm : m < F.length) (H : Set16 zs (F.drop (m + 1))) (u : Int) :
    ∃ ys r xs, doP 16 zs 2 F[m].1 u = (resF false 0, ys) ∧ Good 16 ys ∧ doP 16 ys 2 F[m].1 F[m].2 = (r, xs) ∧ Set16 xs (F.drop m) := by
  have hne : ∀ p ∈ F.drop (m + 1), p.1 ≠ F[m].1 := fun p hp => by
    obtain ⟨a, ha, rfl⟩ := List.getElem_of_mem hp
    rw [List.getElem_drop]
    exact fun e => List.pairwise_iff_getElem.1 hk m (m + 1 + a) hm (by simp at ha; omega) (by omega) e.symm
  obtain ⟨ys, h1, H1⟩ := set_put H (k := F[m].1) (v := u) hne (by simp; omega) ((F[m].1, u) :: F.drop (m + 1)) (fun p => by simp) (by simp)
  obtain ⟨xs, r, h2, H2⟩ := set_again H1 (k := F[m].1) (u := u) (v := F[m].2) (fun p hp => by
    rcases List.mem_cons.1 hp with h | h
    · exact .inl h
    · exact .inr (hne p h)) (by simp) (F.drop m) (fun p => by
      rw [← List.getElem_cons_drop hm, List.mem_cons, List.mem_cons]
      constructor
      · rintro (h | h)
        · exact .inl h
        · exact .inr ⟨.inr h, hne p h⟩
      · rintro (h | ⟨h | h, h0⟩)
        · exact .inl h
        · exact absurd (by rw [h]) h0
        · exact .inr h) (by simp; omega)
  exact ⟨ys, r, xs, h1, H1.good, h2, H2⟩
theorem keys_snoc {F : List PairD} (hk : Keys F) {p : PairD} (h : (F.any fun q => q.1 == p.1) = false) : Keys (F ++ [p]) := by
  unfold Keys
  rw [List.pairwise_append]
  refine ⟨hk, by simp, fun q hq r hr => ?_⟩
  obtain rfl : r = p := by simpa using hr
  rw [List.any_eq_false] at h
  have := h q hq
  simpa using this
def thereTo (F : List PairD) (k : Nat) (key : Int) : Bool := (F.take k).any fun q => q.1 == key
theorem there_step {F : List PairD} {k : Nat} (h : k < F.length) (key : Int) : thereTo F (k + 1) key = (thereTo F k key || (F[k].1 == key)) := by
  unfold thereTo
  rw [List.take_succ_eq_append_getElem h, List.any_append]
  simp
theorem there_all {F : List PairD} {k : Nat} (h : F.length ≤ k) (key : Int) : thereTo F k key = F.any fun q => q.1 == key := by
  unfold thereTo; rw [List.take_of_length_le h]
end Go.Proofs.Ytodacnpbhlkoiaa
