/- the chapters below, merged: MD -/
import Derived.Test.YtdlkblklfoagbaaMC
import Derived.WalkSpells
namespace Go.Proofs.Ytdlkblklfoagbaa
open Go.RowKit
set_option linter.unusedVariables false
set_option linter.unusedSimpArgs false

theorem pairs_step {xs ys : List PairD} {k : Nat} (h : xs.take k = ys.take k) (h1 : k < xs.length) (h2 : k < ys.length) (e : xs[k] = ys[k]) : xs.take (k + 1) = ys.take (k + 1) := by
  rw [List.take_succ_eq_append_getElem h1, List.take_succ_eq_append_getElem h2, h, e]
theorem pairs_miss {xs ys : List PairD} {k : Nat} (h1 : k < xs.length) (h2 : k < ys.length) (e : ¬ xs[k] = ys[k]) : false = decide (xs = ys) := by
  symm; rw [decide_eq_false_iff_not]; rintro rfl; exact e rfl
theorem pairs_all {xs ys : List PairD} {k : Nat} (h : xs.take k = ys.take k) (h1 : xs.length ≤ k) (h2 : ys.length ≤ k) : true = decide (xs = ys) := by
  rw [List.take_of_length_le h1, List.take_of_length_le h2] at h; simp [h]
set_option maxHeartbeats 1000000 in
theorem pairs_any (xs ys : List PairD) (va vb : Value) (w : World) (ha : Rd ePair w va xs) (hb : Rd ePair w vb ys) :
    Calls Try.prog 14 #[va, vb] w fun e w' => e = .returned (.bool (decide (xs = ys))) ∧ ∃ n, w' = w.drewN n := by
  obtain ⟨hma, a, ca, rfl, _, _, ha⟩ := ha
  obtain ⟨hmb, b, cb, rfl, _, _, hb⟩ := hb
  unfold maxLen at hma hmb
  by_cases hl : xs.length = ys.length
  · have hne : (((xs.length : Nat) : Int) != ((ys.length : Nat) : Int)) = false := by simp [hl]
    have HL := Lib.hid hl
    clear hl
    go_enter Try.func14, Try.ntmps14
    go_wp2
    go_loopw [5] (fun i wr => ∃ k n : Nat, k ≤ xs.length ∧ i = .int .i64 k ∧ wr = w.drewN n ∧ Hid (xs.take k = ys.take k)) (fun i _ => xs.length - (intOf i).toNat)
    case atStart => exact ⟨0, 0, Nat.zero_le _, rfl, rfl, rfl⟩
    case round =>
      obtain ⟨k, n, hk, rfl, rfl, heq⟩ := hrel
      by_cases hlt : k < xs.length
      · obtain ⟨b1, o1, rfl, h1⟩ := ha (by omega)
        obtain ⟨b2, o2, rfl, h2⟩ := hb (by have := HL.out; omega)
        have hlt2 : k < ys.length := by have := HL.out; omega
        have c0 : w.cell? ⟨b1, o1 + k * 2, none⟩ = some (.int .u64 xs[k].1) := by have := h1 (k * 2 + 0) _ ((ePair.all_at xs k 0 hlt (by decide)).trans rfl); rw [← Nat.add_assoc] at this; exact this
        have c1 : w.cell? ⟨b1, o1 + k * 2 + 1, none⟩ = some (.int .u64 xs[k].2) := by have := h1 (k * 2 + 1) _ ((ePair.all_at xs k 1 hlt (by decide)).trans rfl); rw [← Nat.add_assoc] at this; exact this
        have d0 : w.cell? ⟨b2, o2 + k * 2, none⟩ = some (.int .u64 ys[k].1) := by have := h2 (k * 2 + 0) _ ((ePair.all_at ys k 0 hlt2 (by decide)).trans rfl); rw [← Nat.add_assoc] at this; exact this
        have d1 : w.cell? ⟨b2, o2 + k * 2 + 1, none⟩ = some (.int .u64 ys[k].2) := by have := h2 (k * 2 + 1) _ ((ePair.all_at ys k 1 hlt2 (by decide)).trans rfl); rw [← Nat.add_assoc] at this; exact this
        have hz := ePair_neq xs[k] ys[k]
        have hst := fun e => pairs_step heq.out hlt hlt2 e
        have hmi := fun e => pairs_miss (xs := xs) (ys := ys) hlt hlt2 e
        have HST := Lib.hid hst
        have HMI := Lib.hid hmi
        clear h1 h2 hst hmi heq
        generalize xs[k] = x at *
        generalize ys[k] = y at *
        by_cases hxy : x = y
        · have hq : (!decide (x = y)) = false := by simp [hxy]
          rw [hq] at hz
          have HST2 := Lib.hid (HST.out hxy)
          clear hxy hq HMI HST
          go_wp2
          go_quiet (fail)
          go_wp2
          go_roundw
          case rel => exact ⟨k + 1, n + nq, by omega, by go_num, rfl, HST2.out⟩
          case measure => simp [intOf]; omega
        · have hq : (!decide (x = y)) = true := by simp [hxy]
          rw [hq] at hz
          have HMI2 := Lib.hid (HMI.out hxy)
          clear hxy hq HMI HST
          go_wp2
          go_quiet (fail)
          go_wp2
          go_ret
          exact ⟨ret_bool HMI2.out, _, World.drewN_drewN ..⟩
      · go_wp2
        go_ret
        exact ⟨ret_bool (pairs_all heq.out (by omega) (by have := HL.out; omega)), _, rfl⟩
  · have hne : (((xs.length : Nat) : Int) != ((ys.length : Nat) : Int)) = true := by simp; omega
    go_enter Try.func14, Try.ntmps14
    go_wp2
    go_ret
    exact ⟨ret_bool (by symm; rw [decide_eq_false_iff_not]; rintro rfl; exact hl rfl), 0, rfl⟩
theorem pairs_eq (xs : List PairD) (va vb : Value) (w : World) (ha : Rd ePair w va xs) (hb : Rd ePair w vb xs) :
    Calls Try.prog 14 #[va, vb] w fun e w' => e = .returned (.bool true) ∧ Only (fun _ => False) w w' :=
  (pairs_any xs xs va vb w ha hb).mono fun _ _ ⟨h1, n, h2⟩ => ⟨by rw [h1]; simp, by rw [h2]; exact (Only.refl _ _).drewN n⟩

/-- two things side by side, and the rest -/
def LSt (P Q X : (Nat → Prop) → World → Prop) (w0 w : World) : Prop := ∃ tag : Nat → Nat, Arena w0.heap.size w0 w tag ∧ P (fun k => tag k = 1) w ∧ Q (fun k => tag k = 2) w ∧ X (fun k => tag k = 3) w
def NoX (S : Nat → Prop) (w : World) : Prop := True
theorem NoX.framed : Framed NoX := Framed.pure True
theorem LSt.start {w0 w : World} (h : Below w0.heap.size w0 w) : LSt NoX NoX NoX w0 w := ⟨_, Arena.of_below h (Nat.le_refl _), trivial, trivial, trivial⟩
theorem LSt.below {P Q X : (Nat → Prop) → World → Prop} {w0 w : World} (h : LSt P Q X w0 w) : Below w0.heap.size w0 w := by obtain ⟨_, A, _⟩ := h; exact A.below
theorem LSt.size {P Q X : (Nat → Prop) → World → Prop} {w0 w : World} (h : LSt P Q X w0 w) : w0.heap.size ≤ w.heap.size := by obtain ⟨_, A, _⟩ := h; exact A.size
theorem LSt.swap {P Q X : (Nat → Prop) → World → Prop} {w0 w : World} (hP : Framed P) (hQ : Framed Q) (hX : Framed X) (h : LSt P Q X w0 w) : LSt Q P X w0 w := by
  obtain ⟨tag, A, h1, h2, h3⟩ := h
  refine ⟨fun k => if tag k = 1 then 2 else if tag k = 2 then 1 else tag k, ⟨A.below, A.size, fun k hk => by simp [A.zero k hk]⟩, hQ.mono _ _ _ h2 fun k _ e => by simp [e], hP.mono _ _ _ h1 fun k _ e => by simp [e], hX.mono _ _ _ h3 fun k _ e => by simp [e]⟩
theorem LSt.step {P P' Q X : (Nat → Prop) → World → Prop} {w0 w w' : World} (hP' : Framed P') (hQ : Framed Q) (hX : Framed X) (h : LSt P Q X w0 w)
    (H : ∀ S : Nat → Prop, P S w → P' (fun k => S k ∨ w.heap.size ≤ k) w' ∧ Only S w w') : LSt P' Q X w0 w' := by
  obtain ⟨tag, A, h1, h2, h3⟩ := h
  obtain ⟨hp, ho⟩ := H _ h1
  obtain ⟨tag', A', f, n, _⟩ := A.step ho 1 (fun _ h => by omega)
  exact ⟨tag', A', n _ hP' hp, f _ hQ _ h2 (fun _ _ h => by omega), f _ hX _ h3 (fun _ _ h => by omega)⟩
theorem LSt.call {P P' Q X : (Nat → Prop) → World → Prop} {w0 w : World} (hP' : Framed P') (hQ : Framed Q) (hX : Framed X) (h : LSt P Q X w0 w) {f : FuncId} {args : Array Value} {E : Ending → Prop} {pr : Program}
    (H : ∀ S : Nat → Prop, P S w → Calls pr f args w fun e w' => E e ∧ P' (fun k => S k ∨ w.heap.size ≤ k) w' ∧ Only S w w') :
    Calls pr f args w fun e w' => E e ∧ LSt P' Q X w0 w' := by
  obtain ⟨tag, A, h1, h2, h3⟩ := h
  refine (H _ h1).mono fun e w' ⟨he, hp, ho⟩ => ⟨he, ?_⟩
  obtain ⟨tag', A', f, n, _⟩ := A.step ho 1 (fun _ h => by omega)
  exact ⟨tag', A', n _ hP' hp, f _ hQ _ h2 (fun _ _ h => by omega), f _ hX _ h3 (fun _ _ h => by omega)⟩
theorem LSt.fresh {P Q X : (Nat → Prop) → World → Prop} {w0 w w' : World} (hP : Framed P) (hQ : Framed Q) (hX : Framed X) (h : LSt P Q X w0 w) (ho : Only (fun _ => False) w w') : LSt P Q X w0 w' := by
  obtain ⟨tag, A, h1, h2, h3⟩ := h
  obtain ⟨tag', A', f, n, _⟩ := A.step ho 3 (fun _ h => h.elim)
  exact ⟨tag', A', f _ hP _ h1 (fun _ _ h => h), f _ hQ _ h2 (fun _ _ h => h), f _ hX _ h3 (fun _ _ h => h)⟩
/-- something new, beside the rest -/
theorem LSt.newX {P Q X Y : (Nat → Prop) → World → Prop} {w0 w w' : World} (hP : Framed P) (hQ : Framed Q) (hX : Framed X) (hY : Framed Y) (h : LSt P Q X w0 w) (hy : Y (fun k => w.heap.size ≤ k) w') (ho : Only (fun _ => False) w w') : LSt P Q (fun S w => X S w ∧ Y S w) w0 w' := by
  obtain ⟨tag, A, h1, h2, h3⟩ := h
  obtain ⟨tag', A', f, n, _⟩ := A.step ho 3 (fun _ h => h.elim)
  exact ⟨tag', A', f _ hP _ h1 (fun _ _ h => h), f _ hQ _ h2 (fun _ _ h => h), f _ hX _ h3 (fun _ _ h => h), n _ hY (hY.mono _ _ _ hy fun _ _ h => .inr h)⟩
theorem LSt.newP {P Q X Y : (Nat → Prop) → World → Prop} {w0 w w' : World} (hQ : Framed Q) (hX : Framed X) (hY : Framed Y) (h : LSt P Q X w0 w) (hy : Y (fun k => w.heap.size ≤ k) w') (ho : Only (fun _ => False) w w') : LSt Y Q X w0 w' := by
  obtain ⟨tag, A, h1, h2, h3⟩ := h
  obtain ⟨tag', A', f, n, _⟩ := A.step ho 1 (fun _ h => h.elim)
  exact ⟨tag', A', n _ hY (hY.mono _ _ _ hy fun _ _ h => .inr h), f _ hQ _ h2 (fun _ _ h => h), f _ hX _ h3 (fun _ _ h => h)⟩
theorem LSt.first {P Q X : (Nat → Prop) → World → Prop} {w0 w : World} (h : LSt P Q X w0 w) : ∃ S, P S w := by obtain ⟨tag, A, h1, _⟩ := h; exact ⟨_, h1⟩
theorem LSt.second {P Q X : (Nat → Prop) → World → Prop} {w0 w : World} (h : LSt P Q X w0 w) : ∃ S, Q S w := by obtain ⟨tag, A, _, h1, _⟩ := h; exact ⟨_, h1⟩
theorem LSt.rest {P Q X : (Nat → Prop) → World → Prop} {w0 w : World} (h : LSt P Q X w0 w) : ∃ S, X S w := by obtain ⟨tag, A, _, _, h1⟩ := h; exact ⟨_, h1⟩
theorem LSt.wide {P Q X X' : (Nat → Prop) → World → Prop} {w0 w : World} (h : LSt P Q X w0 w) (hx : ∀ S, X S w → X' S w) : LSt P Q X' w0 w := by obtain ⟨tag, A, h1, h2, h3⟩ := h; exact ⟨tag, A, h1, h2, hx _ h3⟩

/- the calls -/
theorem doL {Q X : (Nat → Prop) → World → Prop} {w0 w : World} {b : Nat} {cap : Int} {xs : List PairD} (hQ : Framed Q) (hX : Framed X) (h : LSt (BookS b cap xs) Q X w0 w) (G : Good cap xs) (op key val : Int) :
    Calls Try.prog 56 #[.pointer (some ⟨b, 0, none⟩), .int .i64 op, .int .u64 key, .int .u64 val] w fun e w' => e = .returned (ResD.val (doP cap xs op key val).1) ∧ LSt (BookS b cap (doP cap xs op key val).2) Q X w0 w' :=
  LSt.call BookS.framed hQ hX h (E := fun e => e = .returned (ResD.val (doP cap xs op key val).1)) fun S H => do_any b cap xs S op key val w H G
theorem newL {P Q X : (Nat → Prop) → World → Prop} {w0 w : World} (hQ : Framed Q) (hX : Framed X) (h : LSt P Q X w0 w) (cap : Int) (h1 : 1 ≤ cap) (h2 : cap ≤ 16) :
    Calls Try.prog 31 #[.int .i64 cap] w fun e w' => ∃ b, e = .returned (.tuple #[.pointer (some ⟨b, 0, none⟩), .int .i64 0]) ∧ LSt (BookS b cap []) Q X w0 w' :=
  (new_ok cap w h1 h2).mono fun e w' ⟨b, he, hb, ho⟩ => ⟨b, he, h.newP hQ hX BookS.framed hb ho⟩
theorem pairsCmpL {P Q X : (Nat → Prop) → World → Prop} {w0 w : World} (hP : Framed P) (hQ : Framed Q) (hX : Framed X) (h : LSt P Q X w0 w) {va vb : Value} {xs ys : List PairD} (ha : Rd ePair w va xs) (hb : Rd ePair w vb ys) :
    Calls Try.prog 14 #[va, vb] w fun e w' => e = .returned (.bool (decide (xs = ys))) ∧ LSt P Q X w0 w' :=
  (pairs_any xs ys va vb w ha hb).mono fun e w' ⟨he, n, hn⟩ => ⟨he, h.fresh hP hQ hX (by rw [hn]; exact (Only.refl _ _).drewN n)⟩

set_option maxHeartbeats 1000000 in
theorem clone_any (xs : List PairD) (v : Value) (w : World) (hr : Rd ePair w v xs) (hn : xs.length ≤ 1000) :
    Calls Try.prog 62 #[v] w fun e w' => ∃ v', e = .returned v' ∧ OwS ePair 50 (fun k => w.heap.size ≤ k) w' v' xs ∧ Only (fun _ => False) w w' := by
  have HR := Lib.hid (hr.alloc (.cells #[] 50))
  obtain ⟨_, ao, cap, rfl, _, hnone, hx⟩ := hr
  have hE0 : OwS ePair 50 (fun k => w.heap.size ≤ k) (w.alloc (.cells #[] 50)) (.slice (some ⟨w.heap.size, 0, none⟩) 0 0) [] :=
    ⟨Ow.lit (E := ePair) w 0 #[] 50 0 [] (by simp [Enc.all]) rfl (by simp) (Nat.zero_le _), fun k hk => by simp [Value.ownBlock] at hk; omega⟩
  have HE := Lib.hid hE0
  clear hE0
  cases ao with
  | none =>
    have h0 : xs = [] := by
      cases xs with
      | nil => rfl
      | cons x xs => obtain ⟨b, off, h, _⟩ := hx (by simp); cases h
    subst h0
    obtain rfl : cap = 0 := hnone rfl
    clear hx hnone
    have hz : ∀ w : World, (binOp .eql 42 (.slice none 0 0) (.slice none 0 0)).run Try.prog w = .ok (.bool true) w := fun w => Lib.run_eql_slice_nil w _ _ none _ _ _ _ Try.underlying42
    go_enter Try.func62, Try.ntmps62
    go_wp2_with fail
    go_ret
    exact ⟨_, rfl, OwS.nil _ _, Only.refl _ _⟩
  | some a =>
    clear hx hnone
    have hz : ∀ w : World, (binOp .eql 42 (.slice (some a) xs.length cap) (.slice none 0 0)).run Try.prog w = .ok (.bool false) w := fun w => Lib.run_eql_slice_nil w _ _ (some a) _ _ _ _ Try.underlying42
    go_enter Try.func62, Try.ntmps62
    go_wp2_with (at_builtin; refine wl_appendS (E := ePair) rfl _ (.tmp 6) _ rfl 50 16 ePair_slice _ _ [] rfl HE.out _ xs rfl HR.out (by simp; omega) (by unfold maxLen; simp; omega) ?_)
    intro v' w5 h5 hO5
    have H5 := Lib.hid h5
    have HO5 := Lib.hid hO5
    clear h5 hO5
    go_wp2_with fail
    go_ret
    refine ⟨_, rfl, ?_, ?_⟩
    · exact OwS.framed.mono _ _ _ H5.out fun k _ h => by
        rcases h with h | h
        · exact h
        · have := size_le_alloc w (.cells #[] 50); omega
    · exact (Only.alloc (fun _ => False) w _).trans HO5.out fun k hk h => by omega
theorem bpairs_any (b : Nat) (cap : Int) (xs : List PairD) (S : Nat → Prop) (w : World) (H : BookS b cap xs S w) (hn : xs.length ≤ 1000) :
    Calls Try.prog 58 #[.pointer (some ⟨b, 0, none⟩)] w fun e w' => ∃ v', e = .returned v' ∧ OwS ePair 50 (fun k => w.heap.size ≤ k) w' v' xs ∧ Only (fun _ => False) w w' := by
  obtain ⟨v, hg, hown, hS, hvS⟩ := H
  have HC := Lib.hid (clone_any xs v w hown.rd hn)
  have c1 := cells_of_heap hg 1 _ rfl
  clear hg hown
  go_enter Try.func58, Try.ntmps58
  go_wp2_with fail
  refine HC.out.mono ?_
  rintro e w1 ⟨v', rfl, ho, hO⟩
  go_wp2_with fail
  go_ret
  exact ⟨_, rfl, ho, hO⟩
/-- Pairs, its answer beside the rest -/
theorem bpairsL {Q X : (Nat → Prop) → World → Prop} {w0 w : World} {b : Nat} {cap : Int} {xs : List PairD} (hQ : Framed Q) (hX : Framed X) (h : LSt (BookS b cap xs) Q X w0 w) (G : Good cap xs) :
    Calls Try.prog 58 #[.pointer (some ⟨b, 0, none⟩)] w fun e w' => ∃ v', e = .returned v' ∧ LSt (BookS b cap xs) Q (fun S w => X S w ∧ OwS ePair 50 S w v' xs) w0 w' := by
  obtain ⟨S, hS⟩ := h.first
  exact (bpairs_any b cap xs S w hS (by have := G.len; have := G.hi; omega)).mono fun e w' ⟨v', he, hv, ho⟩ => ⟨v', he, h.newX BookS.framed hQ hX OwS.framed hv ho⟩

theorem good_nil {cap : Int} (h1 : 1 ≤ cap) (h2 : cap ≤ 16) : Good cap [] := ⟨h1, h2, by simp; omega, fun i j hi => by simp at hi⟩

def LowK (A : List PairD) (k : Int) : Prop := ∀ p ∈ A, p.1 < k
def HighK (B : List PairD) (k : Int) : Prop := ∀ p ∈ B, k < p.1
theorem posP_cat {A R : List PairD} {k : Int} (hA : LowK A k) (hR : ∀ p, R.head? = some p → k ≤ p.1) : posP (A ++ R) k = A.length := by
  refine posP_of (by simp) (fun a h hlt => ?_) (fun h => ?_)
  · rw [List.getElem_append_left hlt]; exact hA _ (List.getElem_mem _)
  · rw [List.getElem_append_right (Nat.le_refl _)]
    have h0 : 0 < R.length := by simp at h; omega
    simp only [Nat.sub_self]
    exact hR _ (by rw [List.head?_eq_getElem?, List.getElem?_eq_getElem h0])
theorem pos_mid {A B : List PairD} {k v : Int} (hA : LowK A k) : posP (A ++ (k, v) :: B) k = A.length := posP_cat hA (fun p h => by simp at h; subst h; exact Int.le_refl _)
theorem pos_none {A B : List PairD} {k : Int} (hA : LowK A k) (hB : HighK B k) : posP (A ++ B) k = A.length := posP_cat hA (fun p h => by have := hB p (List.mem_of_mem_head? h); omega)
theorem has_mid (A B : List PairD) (k v : Int) : hasP (A ++ (k, v) :: B) k = true := by unfold hasP; simp
theorem has_none {A B : List PairD} {k : Int} (hA : LowK A k) (hB : HighK B k) : hasP (A ++ B) k = false := by
  unfold hasP
  rw [List.any_eq_false]
  intro p hp
  rcases List.mem_append.1 hp with h | h
  · have := hA p h; simp; omega
  · have := hB p h; simp; omega
theorem old_mid {A B : List PairD} {k v : Int} (hA : LowK A k) : oldP (A ++ (k, v) :: B) k = v := by
  unfold oldP
  rw [has_mid, if_pos rfl, pos_mid hA]
  simp [List.getD_eq_getElem?_getD]
theorem old_none {A B : List PairD} {k : Int} (hA : LowK A k) (hB : HighK B k) : oldP (A ++ B) k = 0 := by
  unfold oldP
  rw [has_none hA hB]; rfl
theorem put_mid {A B : List PairD} {k v : Int} (hA : LowK A k) (u : Int) : putP (A ++ (k, v) :: B) k u = A ++ (k, u) :: B := by
  unfold putP
  rw [has_mid, if_pos rfl, pos_mid hA, List.set_append_right _ _ (Nat.le_refl _)]
  simp
theorem put_none {A B : List PairD} {k : Int} (hA : LowK A k) (hB : HighK B k) (u : Int) : putP (A ++ B) k u = A ++ (k, u) :: B := by
  unfold putP
  rw [has_none hA hB, if_neg (by simp), pos_none hA hB, List.take_left, List.drop_left]
theorem del_mid {A B : List PairD} {k v : Int} (hA : LowK A k) : delP (A ++ (k, v) :: B) k = A ++ B := by
  unfold delP
  rw [has_mid, if_pos rfl, pos_mid hA, List.take_left]
  rw [List.drop_append, List.drop_of_length_le (by omega)]
  simp
theorem del_none {A B : List PairD} {k : Int} (hA : LowK A k) (hB : HighK B k) : delP (A ++ B) k = A ++ B := by
  unfold delP
  rw [has_none hA hB, if_neg (by simp)]
theorem filt_none {A B : List PairD} {k : Int} (hA : LowK A k) (hB : HighK B k) : (A ++ B).filter (fun p => p.1 != k) = A ++ B := by
  rw [List.filter_eq_self]
  intro p hp
  rcases List.mem_append.1 hp with h | h
  · have := hA p h; simp; omega
  · have := hB p h; simp; omega
theorem filt_mid {A B : List PairD} {k v : Int} (hA : LowK A k) (hB : HighK B k) : (A ++ (k, v) :: B).filter (fun p => p.1 != k) = A ++ B := by
  have := filt_none hA hB
  rw [List.filter_append] at this ⊢
  rw [List.filter_cons_of_neg (by simp)]
  exact this
/-- a rising list at a key -/
theorem at_key {xs : List PairD} (hr : Rising xs) (k : Int) : ∃ A B, LowK A k ∧ HighK B k ∧ (xs = A ++ B ∧ hasP xs k = false ∨ ∃ v, xs = A ++ (k, v) :: B ∧ hasP xs k = true) := by
  have hlow : LowK (xs.take (posP xs k)) k := fun p hp => by
    obtain ⟨a, ha, rfl⟩ := List.getElem_of_mem hp
    rw [List.getElem_take]
    exact posP_low a (by simp at ha; omega) (by simp at ha; omega)
  cases h : hasP xs k
  · refine ⟨xs.take (posP xs k), xs.drop (posP xs k), hlow, fun p hp => ?_, .inl ⟨by simp, rfl⟩⟩
    obtain ⟨a, ha, rfl⟩ := List.getElem_of_mem hp
    rw [List.getElem_drop]
    exact posP_high hr h _ (by simp at ha; omega) (by omega)
  · obtain ⟨hlt, hk⟩ := posP_lt hr h
    refine ⟨xs.take (posP xs k), xs.drop (posP xs k + 1), hlow, fun p hp => ?_, .inr ⟨xs[posP xs k].2, ?_, rfl⟩⟩
    · obtain ⟨a, ha, rfl⟩ := List.getElem_of_mem hp
      rw [List.getElem_drop]
      have := hr (posP xs k) (posP xs k + 1 + a) hlt (by simp at ha; omega) (by omega)
      have := hk hlt
      omega
    · have e : (k, xs[posP xs k].2) = xs[posP xs k] := Prod.ext (hk hlt).symm rfl
      rw [e, List.getElem_cons_drop, List.take_append_drop]
theorem mem_put {xs : List PairD} (hr : Rising xs) (k u : Int) (p : PairD) : p ∈ putP xs k u ↔ p = (k, u) ∨ p.1 ≠ k ∧ p ∈ xs := by
  obtain ⟨A, B, hA, hB, ⟨rfl, _⟩ | ⟨v, rfl, _⟩⟩ := at_key hr k
  · rw [put_none hA hB]
    simp only [List.mem_append, List.mem_cons]
    constructor
    · rintro (h | h | h)
      · exact .inr ⟨by have := hA p h; omega, .inl h⟩
      · exact .inl h
      · exact .inr ⟨by have := hB p h; omega, .inr h⟩
    · rintro (h | ⟨_, h | h⟩)
      · exact .inr (.inl h)
      · exact .inl h
      · exact .inr (.inr h)
  · rw [put_mid hA]
    simp only [List.mem_append, List.mem_cons]
    constructor
    · rintro (h | h | h)
      · exact .inr ⟨by have := hA p h; omega, .inl h⟩
      · exact .inl h
      · exact .inr ⟨by have := hB p h; omega, .inr (.inr h)⟩
    · rintro (h | ⟨hn, h | h | h⟩)
      · exact .inr (.inl h)
      · exact .inl h
      · exact absurd (by rw [h]) hn
      · exact .inr (.inr h)
theorem mem_del {xs : List PairD} (hr : Rising xs) (k : Int) (p : PairD) : p ∈ delP xs k ↔ p.1 ≠ k ∧ p ∈ xs := by
  obtain ⟨A, B, hA, hB, ⟨rfl, _⟩ | ⟨v, rfl, _⟩⟩ := at_key hr k
  · rw [del_none hA hB]
    constructor
    · intro h
      refine ⟨?_, h⟩
      rcases List.mem_append.1 h with h | h
      · have := hA p h; omega
      · have := hB p h; omega
    · exact fun h => h.2
  · rw [del_mid hA]
    simp only [List.mem_append, List.mem_cons]
    constructor
    · rintro (h | h)
      · exact ⟨by have := hA p h; omega, .inl h⟩
      · exact ⟨by have := hB p h; omega, .inr (.inr h)⟩
    · rintro ⟨hn, h | h | h⟩
      · exact .inl h
      · exact absurd (by rw [h]) hn
      · exact .inr h
theorem mem_has {xs : List PairD} {k : Int} : hasP xs k = true ↔ ∃ v, (k, v) ∈ xs := by
  unfold hasP
  rw [List.any_eq_true]
  constructor
  · rintro ⟨p, hp, he⟩
    have : p.1 = k := by simpa using he
    exact ⟨p.2, by rw [← this]; exact hp⟩
  · rintro ⟨v, h⟩; exact ⟨_, h, by simp⟩
theorem mem_old {xs : List PairD} (hr : Rising xs) {k v : Int} (h : (k, v) ∈ xs) : oldP xs k = v := by
  obtain ⟨A, B, hA, hB, ⟨rfl, hf⟩ | ⟨u, rfl, _⟩⟩ := at_key hr k
  · have := mem_has.2 ⟨v, h⟩; rw [hf] at this; simp at this
  · rw [old_mid hA]
    rcases List.mem_append.1 h with h | h
    · have := hA _ h; simp at this
    · rcases List.mem_cons.1 h with h | h
      · simp at h; exact h.symm
      · have := hB _ h; simp at this
theorem rising_tail {p : PairD} {xs : List PairD} (h : Rising (p :: xs)) : Rising xs ∧ ∀ q ∈ xs, p.1 < q.1 := by
  rw [rising_pairwise, List.pairwise_cons] at h
  exact ⟨rising_pairwise.2 h.2, h.1⟩
/-- rising lists with the same pairs are one -/
theorem rising_ext : ∀ {xs ys : List PairD}, Rising xs → Rising ys → (∀ p, p ∈ xs ↔ p ∈ ys) → xs = ys
  | [], [], _, _, _ => rfl
  | [], q :: ys, _, _, h => by have := (h q).2 (by simp); simp at this
  | p :: xs, [], _, _, h => by have := (h p).1 (by simp); simp at this
  | p :: xs, q :: ys, hx, hy, h => by
    obtain ⟨hx1, hx2⟩ := rising_tail hx
    obtain ⟨hy1, hy2⟩ := rising_tail hy
    have e : p = q := by
      rcases List.mem_cons.1 ((h p).1 (by simp)) with h1 | h1
      · exact h1
      · rcases List.mem_cons.1 ((h q).2 (by simp)) with h2 | h2
        · exact h2.symm
        · have := hx2 q h2; have := hy2 p h1; omega
    subst e
    rw [rising_ext hx1 hy1 fun r => ⟨fun hr => ?_, fun hr => ?_⟩]
    · rcases List.mem_cons.1 ((h r).1 (by simp [hr])) with h1 | h1
      · subst h1; have := hx2 r hr; omega
      · exact h1
    · rcases List.mem_cons.1 ((h r).2 (by simp [hr])) with h1 | h1
      · subst h1; have := hy2 r hr; omega
      · exact h1

theorem keepD {w0 w w' : World} {sb o0 o1 o2 : Nat} {v u x : Value} (h : Below w0.heap.size w w') (l : sb < w0.heap.size) (c : w.cell? ⟨sb, o0, none⟩ = some v) (c2 : w.cell? ⟨sb, o1, none⟩ = some u) (c3 : w.cell? ⟨sb, o2, none⟩ = some x) :
    w'.cell? ⟨sb, o0, none⟩ = some v ∧ w'.cell? ⟨sb, o1, none⟩ = some u ∧ w'.cell? ⟨sb, o2, none⟩ = some x := ⟨(h.cell l).trans c, (h.cell l).trans c2, (h.cell l).trans c3⟩
theorem LSt.drew {P Q X : (Nat → Prop) → World → Prop} {w0 w : World} (hP : Framed P) (hQ : Framed Q) (hX : Framed X) (h : LSt P Q X w0 w) : LSt P Q X w0 w.drew := h.fresh hP hQ hX ((Only.refl _ _).drew_)
/-- what get and put of a key answer -/
theorem law_key {cap : Int} {xs : List PairD} (G : Good cap xs) (key val : Int) :
    (hasP xs key = false ∧ (xs.length : Int) = cap ∧ doP cap xs 0 key 0 = (resF false 0, xs) ∧ doP cap xs 2 key val = (resE 40, xs)) ∨
    ∃ A B f o, LowK A key ∧ HighK B key ∧ (doP cap xs 0 key 0) = (resF f o, xs) ∧ doP cap xs 2 key val = (resF f o, A ++ (key, val) :: B) ∧ xs.filter (fun p => p.1 != key) = A ++ B := by
  obtain ⟨A, B, hA, hB, ⟨rfl, hf⟩ | ⟨v, rfl, hf⟩⟩ := at_key G.rising key
  · by_cases hl : (((A ++ B).length : Nat) : Int) = cap
    · exact .inl ⟨hf, hl, by unfold doP; simp [hf, old_none hA hB], by unfold doP full; simp [hf, hl, -List.length_append]⟩
    · refine .inr ⟨A, B, false, 0, hA, hB, ?_, ?_, filt_none hA hB⟩
      · unfold doP; simp [hf, old_none hA hB]
      · unfold doP full; simp [hf, hl, old_none hA hB, put_none hA hB, -List.length_append]
  · refine .inr ⟨A, B, true, v, hA, hB, ?_, ?_, filt_mid hA hB⟩
    · unfold doP; simp [hf, old_mid hA]
    · unfold doP full; simp [hf, old_mid hA, put_mid hA]
theorem do_get_mid {A B : List PairD} {key v : Int} (cap u : Int) (hA : LowK A key) : doP cap (A ++ (key, v) :: B) 0 key u = (resF true v, A ++ (key, v) :: B) := by unfold doP; simp [has_mid, old_mid hA]
theorem do_has_mid {A B : List PairD} {key v : Int} (cap u : Int) : doP cap (A ++ (key, v) :: B) 1 key u = (resF true 0, A ++ (key, v) :: B) := by unfold doP; simp [has_mid]
theorem do_add_mid {A B : List PairD} {key v : Int} (cap u : Int) (hA : LowK A key) : doP cap (A ++ (key, v) :: B) 4 key u = (resF true (add64 v u), A ++ (key, add64 v u) :: B) := by unfold doP full; simp [has_mid, old_mid hA, put_mid hA]
theorem do_del_mid {A B : List PairD} {key v : Int} (cap u : Int) (hA : LowK A key) : doP cap (A ++ (key, v) :: B) 3 key u = (resF true v, A ++ B) := by unfold doP; simp [has_mid, old_mid hA, del_mid hA]
theorem do_del_none {A B : List PairD} {key : Int} (cap u : Int) (hA : LowK A key) (hB : HighK B key) : doP cap (A ++ B) 3 key u = (resF false 0, A ++ B) := by unfold doP; simp [has_none hA hB, old_none hA hB, del_none hA hB]

theorem good_mid {cap : Int} {xs : List PairD} {key val : Int} {r : ResD} {ys : List PairD} (G : Good cap xs) {op : Int} (h : doP cap xs op key val = (r, ys)) : Good cap ys := by
  have := do_good (op := op) (k := key) (v := val) G
  rw [h] at this; exact this
theorem doF {Q X : (Nat → Prop) → World → Prop} {w0 w : World} {b : Nat} {cap : Int} {xs ys : List PairD} {f : Bool} {o op key val : Int} (hQ : Framed Q) (hX : Framed X) (h : LSt (BookS b cap xs) Q X w0 w) (G : Good cap xs) (hd : doP cap xs op key val = (resF f o, ys)) :
    Calls Try.prog 56 #[.pointer (some ⟨b, 0, none⟩), .int .i64 op, .int .u64 key, .int .u64 val] w fun e w' => e = .returned (.agg #[.int .i64 0, .bool f, .int .u64 o, .bool false, .int .u64 0, .int .u64 0]) ∧ LSt (BookS b cap ys) Q X w0 w' := by
  have := doL hQ hX h G op key val
  rw [hd] at this; exact this
theorem doE {Q X : (Nat → Prop) → World → Prop} {w0 w : World} {b : Nat} {cap : Int} {xs ys : List PairD} {o op key val : Int} (hQ : Framed Q) (hX : Framed X) (h : LSt (BookS b cap xs) Q X w0 w) (G : Good cap xs) (hd : doP cap xs op key val = (resE o, ys)) :
    Calls Try.prog 56 #[.pointer (some ⟨b, 0, none⟩), .int .i64 op, .int .u64 key, .int .u64 val] w fun e w' => e = .returned (.agg #[.int .i64 o, .bool false, .int .u64 0, .bool false, .int .u64 0, .int .u64 0]) ∧ LSt (BookS b cap ys) Q X w0 w' := by
  have := doL hQ hX h G op key val
  rw [hd] at this; exact this
theorem neq_self (x0 : Int) (x1 : Bool) (x2 : Int) (w : World) : (binOp .neq 41 (.agg #[.int .i64 x0, .bool x1, .int .u64 x2, .bool false, .int .u64 0, .int .u64 0]) (.agg #[.int .i64 x0, .bool x1, .int .u64 x2, .bool false, .int .u64 0, .int .u64 0])).run Try.prog w = .ok (.bool false) w := by
  have := eRes_neq (x0, x1, x2, false, 0, 0) (x0, x1, x2, false, 0, 0) w
  simpa using this
theorem filt_skip {xs : List PairD} {k : Nat} {key : Int} (h : k < xs.length) (e : xs[k].1 = key) : (xs.take (k + 1)).filter (fun p => p.1 != key) = (xs.take k).filter (fun p => p.1 != key) := by
  rw [List.take_succ_eq_append_getElem h, List.filter_append]; simp [e]
theorem filt_put {xs : List PairD} {k : Nat} {key : Int} (h : k < xs.length) (e : xs[k].1 ≠ key) : (xs.take (k + 1)).filter (fun p => p.1 != key) = (xs.take k).filter (fun p => p.1 != key) ++ [xs[k]] := by
  rw [List.take_succ_eq_append_getElem h, List.filter_append]; simp [e]
theorem filt_len (xs : List PairD) (k : Nat) (key : Int) : ((xs.take k).filter (fun p => p.1 != key)).length ≤ xs.length := Nat.le_trans (List.length_filter_le _ _) (by simp; omega)
/-- the second of the two is changed -/
theorem LSt.second_ {P Q' X : (Nat → Prop) → World → Prop} {w0 w w' : World} {tag : Nat → Nat} (hP : Framed P) (hQ' : Framed Q') (hX : Framed X) (A : Arena w0.heap.size w0 w tag) (h1 : P (fun k => tag k = 1) w) (h3 : X (fun k => tag k = 3) w)
    (hq : Q' (fun k => tag k = 2 ∨ w.heap.size ≤ k) w') (ho : Only (fun k => tag k = 2) w w') : LSt P Q' X w0 w' := by
  obtain ⟨tag', A', f, n, _⟩ := A.step ho 2 (fun _ h => by omega)
  exact ⟨tag', A', f _ hP _ h1 (fun _ _ h => by omega), n _ hQ' hq, f _ hX _ h3 (fun _ _ h => by omega)⟩
/-- the cells of a block of an answer -/
theorem res_cells {w : World} {g : Nat} {x0 x2 x4 x5 : Int} {x1 x3 : Bool} (h : w.heap[g]? = some (.cells #[.int .i64 x0, .bool x1, .int .u64 x2, .bool x3, .int .u64 x4, .int .u64 x5] 41 (0, 0))) :
    w.cell? ⟨g, 0, none⟩ = some (.int .i64 x0) ∧ w.cell? ⟨g, 1, none⟩ = some (.bool x1) ∧ w.cell? ⟨g, 2, none⟩ = some (.int .u64 x2) ∧ w.cell? ⟨g, 3, none⟩ = some (.bool x3) ∧ w.cell? ⟨g, 4, none⟩ = some (.int .u64 x4) ∧ w.cell? ⟨g, 5, none⟩ = some (.int .u64 x5) :=
  ⟨cells_of_heap h 0 _ rfl, cells_of_heap h 1 _ rfl, cells_of_heap h 2 _ rfl, cells_of_heap h 3 _ rfl, cells_of_heap h 4 _ rfl, cells_of_heap h 5 _ rfl⟩

/-- what puts, one behind the other, leave, and how many went in -/
def fillP (cap : Int) (xs ps : List PairD) : List PairD × Nat := ps.foldl (fun s p => ((doP cap s.1 2 p.1 p.2).2, if (doP cap s.1 2 p.1 p.2).1.1 = 0 then s.2 + 1 else s.2)) (xs, 0)
theorem fillP_snoc (cap : Int) (xs ps : List PairD) (p : PairD) : fillP cap xs (ps ++ [p]) = ((doP cap (fillP cap xs ps).1 2 p.1 p.2).2, if (doP cap (fillP cap xs ps).1 2 p.1 p.2).1.1 = 0 then (fillP cap xs ps).2 + 1 else (fillP cap xs ps).2) := by
  unfold fillP; rw [List.foldl_append]; rfl
theorem fillP_good {cap : Int} {xs : List PairD} (G : Good cap xs) (ps : List PairD) : ∀ k, k ≤ ps.length → Good cap (fillP cap xs (ps.take k)).1 ∧ (fillP cap xs (ps.take k)).2 ≤ k := by
  intro k
  induction k with
  | zero => intro _; exact ⟨G, Nat.le_refl _⟩
  | succ k ih =>
    intro h
    obtain ⟨i1, i2⟩ := ih (by omega)
    rw [List.take_succ_eq_append_getElem (by omega), fillP_snoc]
    refine ⟨do_good i1, ?_⟩
    dsimp only
    split <;> omega
theorem doV {Q X : (Nat → Prop) → World → Prop} {w0 w : World} {b : Nat} {cap : Int} {xs ys : List PairD} {r : ResD} {op key val : Int} (hQ : Framed Q) (hX : Framed X) (h : LSt (BookS b cap xs) Q X w0 w) (G : Good cap xs) (hd : doP cap xs op key val = (r, ys)) :
    Calls Try.prog 56 #[.pointer (some ⟨b, 0, none⟩), .int .i64 op, .int .u64 key, .int .u64 val] w fun e w' => e = .returned (.agg #[.int .i64 r.1, .bool r.2.1, .int .u64 r.2.2.1, .bool r.2.2.2.1, .int .u64 r.2.2.2.2.1, .int .u64 r.2.2.2.2.2]) ∧ LSt (BookS b cap ys) Q X w0 w' := by
  have := doL hQ hX h G op key val
  rw [hd] at this; exact this

theorem res_field0 (x0 x2 x4 x5 : Int) (x1 x3 : Bool) (w : World) : (Instr.field 41 (.agg #[.int .i64 x0, .bool x1, .int .u64 x2, .bool x3, .int .u64 x4, .int .u64 x5]) 0).run Try.prog w = .ok (.int .i64 x0) w := by
  kernel_rfl
/-- a new book, the second of the two -/
theorem newL2 {P Q X : (Nat → Prop) → World → Prop} {w0 w : World} (hP : Framed P) (hQ : Framed Q) (hX : Framed X) (h : LSt P Q X w0 w) (cap : Int) (h1 : 1 ≤ cap) (h2 : cap ≤ 16) :
    Calls Try.prog 31 #[.int .i64 cap] w fun e w' => ∃ b, e = .returned (.tuple #[.pointer (some ⟨b, 0, none⟩), .int .i64 0]) ∧ LSt P (BookS b cap []) X w0 w' :=
  (newL hP hX (h.swap hP hQ hX) cap h1 h2).mono fun e w' ⟨b, he, hl⟩ => ⟨b, he, hl.swap BookS.framed hP hX⟩
theorem LSt.third_ {P Q X' : (Nat → Prop) → World → Prop} {w0 w w' : World} {tag : Nat → Nat} (hP : Framed P) (hQ : Framed Q) (hX' : Framed X') (A : Arena w0.heap.size w0 w tag) (h1 : P (fun k => tag k = 1) w) (h2 : Q (fun k => tag k = 2) w)
    (hx : X' (fun k => tag k = 3 ∨ w.heap.size ≤ k) w') (ho : Only (fun k => tag k = 3) w w') : LSt P Q X' w0 w' := by
  obtain ⟨tag', A', f, n, _⟩ := A.step ho 3 (fun _ h => by omega)
  exact ⟨tag', A', f _ hP _ h1 (fun _ _ h => by omega), f _ hQ _ h2 (fun _ _ h => by omega), n _ hX' hx⟩

theorem keepP {w0 w w' : World} {sb o0 o1 : Nat} {v u : Value} (h' : Below w0.heap.size w0 w') (h : Below w0.heap.size w0 w) (l : sb < w0.heap.size) (c : w.cell? ⟨sb, o0, none⟩ = some v) (c2 : w.cell? ⟨sb, o1, none⟩ = some u) :
    w'.cell? ⟨sb, o0, none⟩ = some v ∧ w'.cell? ⟨sb, o1, none⟩ = some u := ⟨(h'.cell l).trans ((h.cell l).symm.trans c), (h'.cell l).trans ((h.cell l).symm.trans c2)⟩

/-- a book of room 16 with the pairs F -/
structure Set16 (zs F : List PairD) : Prop where
  good : Good 16 zs
  len : zs.length = F.length
  mem : ∀ p, p ∈ zs ↔ p ∈ F
def Keys (F : List PairD) : Prop := F.Pairwise (fun p q => p.1 ≠ q.1)
theorem has_of {zs F : List PairD} (H : Set16 zs F) {k : Int} (h : ∀ p ∈ F, p.1 ≠ k) : hasP zs k = false := by
  unfold hasP
  rw [List.any_eq_false]
  intro p hp
  have := h p ((H.mem p).1 hp)
  simpa using this
theorem put_new_len (zs : List PairD) (k v : Int) (h : hasP zs k = false) : (putP zs k v).length = zs.length + 1 := by
  unfold putP
  rw [h, if_neg (by simp)]
  have := posP_le zs k
  simp; omega
theorem put_old_len (zs : List PairD) (k v : Int) (h : hasP zs k = true) : (putP zs k v).length = zs.length := by
  unfold putP
  rw [h, if_pos rfl]; simp
theorem do_put_of {zs : List PairD} {k v : Int} (hf : full 16 zs k = false) : doP 16 zs 2 k v = (resF (hasP zs k) (oldP zs k), putP zs k v) := by
  unfold doP; simp [hf]
theorem full_of {zs : List PairD} {k : Int} (h : zs.length < 16) : full 16 zs k = false := by
  unfold full; simp; intro _; omega
/-- a new key is put -/
theorem set_put {zs F : List PairD} (H : Set16 zs F) {k v : Int} (h : ∀ p ∈ F, p.1 ≠ k) (hl : F.length < 16) (F' : List PairD) (hF : ∀ p, p ∈ F' ↔ p = (k, v) ∨ p ∈ F) (hl' : F'.length = F.length + 1) :
    ∃ ys, doP 16 zs 2 k v = (resF false 0, ys) ∧ Set16 ys F' := by
  have hh := has_of H h
  have hf : full 16 zs k = false := full_of (by rw [H.len]; exact hl)
  refine ⟨putP zs k v, ?_, put_good H.good hf, by rw [put_new_len _ _ _ hh, H.len, hl'], fun p => ?_⟩
  · rw [do_put_of hf, hh]
    unfold oldP
    rw [hh]; rfl
  · rw [mem_put H.good.rising, hF, H.mem]
    constructor
    · rintro (h1 | ⟨_, h1⟩)
      · exact .inl h1
      · exact .inr h1
    · rintro (h1 | h1)
      · exact .inl h1
      · exact .inr ⟨h p h1, h1⟩
/-- a key that is there is put -/
theorem set_again {zs F : List PairD} (H : Set16 zs F) {k u v : Int} (hr : ∀ p ∈ F, p = (k, u) ∨ p.1 ≠ k) (hin : (k, u) ∈ F) (F' : List PairD) (hF : ∀ p, p ∈ F' ↔ p = (k, v) ∨ p ∈ F ∧ p.1 ≠ k) (hl' : F'.length = F.length) :
    ∃ ys r, doP 16 zs 2 k v = (r, ys) ∧ Set16 ys F' := by
  have hh : hasP zs k = true := mem_has.2 ⟨u, (H.mem _).2 hin⟩
  have hf : full 16 zs k = false := by unfold full; rw [hh]; rfl
  refine ⟨putP zs k v, _, do_put_of hf, put_good H.good hf, by rw [put_old_len _ _ _ hh, H.len, hl'], fun p => ?_⟩
  rw [mem_put H.good.rising, hF, H.mem]
  constructor
  · rintro (h1 | ⟨h0, h1⟩)
    · exact .inl h1
    · exact .inr ⟨h1, h0⟩
  · rintro (h1 | ⟨h0, h1⟩)
    · exact .inl h1
    · exact .inr ⟨h1, h0⟩
theorem set_nil : Set16 [] [] := ⟨good_nil (by decide) (by decide), rfl, fun _ => Iff.rfl⟩
/-- Fill of unlike keys -/
theorem set_fill {F : List PairD} (hk : Keys F) (hl : F.length ≤ 16) : ∀ k, k ≤ F.length → ∃ zs, fillP 16 [] (F.take k) = (zs, k) ∧ Set16 zs (F.take k) := by
  intro k
  induction k with
  | zero => intro _; exact ⟨[], rfl, set_nil⟩
  | succ k ih =>
    intro h
    obtain ⟨zs, e, H⟩ := ih (by omega)
    have hlt : k < F.length := by omega
    have hne : ∀ p ∈ F.take k, p.1 ≠ F[k].1 := fun p hp => by
      obtain ⟨a, ha, rfl⟩ := List.getElem_of_mem hp
      rw [List.getElem_take]
      exact List.pairwise_iff_getElem.1 hk a k _ hlt (by simp at ha; omega)
    obtain ⟨ys, hd, H2⟩ := set_put H (k := F[k].1) (v := F[k].2) hne (by simp; omega) (F.take (k + 1)) (fun p => by
      rw [List.take_succ_eq_append_getElem hlt, List.mem_append, List.mem_singleton]
      exact or_comm) (by simp; omega)
    refine ⟨ys, ?_, H2⟩
    rw [List.take_succ_eq_append_getElem hlt, fillP_snoc, e]
    dsimp only
    rw [hd]
    simp [resF]
theorem set_fill_all {F : List PairD} (hk : Keys F) (hl : F.length ≤ 16) : ∃ zs, fillP 16 [] F = (zs, F.length) ∧ Set16 zs F := by
  have := set_fill hk hl F.length (Nat.le_refl _)
  rwa [List.take_length] at this
/-- the two puts of the law -/
theorem set_two {zs F : List PairD} (hk : Keys F) (hl : F.length ≤ 16) (m : Nat) (hm : m < F.length) (H : Set16 zs (F.drop (m + 1))) (u : Int) :
    ∃ ys r xs, doP 16 zs 2 F[m].1 u = (resF false 0, ys) ∧ Good 16 ys ∧ doP 16 ys 2 F[m].1 F[m].2 = (r, xs) ∧ Set16 xs (F.drop m) := by
  have hne : ∀ p ∈ F.drop (m + 1), p.1 ≠ F[m].1 := fun p hp => by
    obtain ⟨a, ha, rfl⟩ := List.getElem_of_mem hp
    rw [List.getElem_drop]
    exact fun e => List.pairwise_iff_getElem.1 hk m (m + 1 + a) hm (by simp at ha; omega) (by omega) e.symm
  obtain ⟨ys, h1, H1⟩ := set_put H (k := F[m].1) (v := u) hne (by simp; omega) ((F[m].1, u) :: F.drop (m + 1)) (fun p => by simp) (by simp)
  obtain ⟨xs, r, h2, H2⟩ := set_again H1 (k := F[m].1) (u := u) (v := F[m].2) (fun p hp => by
    rcases List.mem_cons.1 hp with h | h
    · exact .inl h
    · exact .inr (hne p h)) (by simp) (F.drop m) (fun p => by
      rw [← List.getElem_cons_drop hm, List.mem_cons, List.mem_cons]
      constructor
      · rintro (h | h)
        · exact .inl h
        · exact .inr ⟨.inr h, hne p h⟩
      · rintro (h | ⟨h | h, h0⟩)
        · exact .inl h
        · exact absurd (by rw [h]) h0
        · exact .inr h) (by simp; omega)
  exact ⟨ys, r, xs, h1, H1.good, h2, H2⟩
theorem keys_snoc {F : List PairD} (hk : Keys F) {p : PairD} (h : (F.any fun q => q.1 == p.1) = false) : Keys (F ++ [p]) := by
  unfold Keys
  rw [List.pairwise_append]
  refine ⟨hk, by simp, fun q hq r hr => ?_⟩
  obtain rfl : r = p := by simpa using hr
  rw [List.any_eq_false] at h
  have := h q hq
  simpa using this
def thereTo (F : List PairD) (k : Nat) (key : Int) : Bool := (F.take k).any fun q => q.1 == key
theorem there_step {F : List PairD} {k : Nat} (h : k < F.length) (key : Int) : thereTo F (k + 1) key = (thereTo F k key || (F[k].1 == key)) := by
  unfold thereTo
  rw [List.take_succ_eq_append_getElem h, List.any_append]
  simp
theorem there_all {F : List PairD} {k : Nat} (h : F.length ≤ k) (key : Int) : thereTo F k key = F.any fun q => q.1 == key := by
  unfold thereTo; rw [List.take_of_length_le h]
end Go.Proofs.Ytdlkblklfoagbaa
