/- lru: its calls over a law's state; New; the law's own first look. -/
import Derived.Test.YtodacnpbhlkoiaaLruDoE
import Derived.Test.YtodacnpbhlkoiaaSt
import Derived.Test.YtodacnpbhlkoiaaNumbers
namespace Go.Proofs.Ytodacnpbhlkoiaa
open Go.RowKit
set_option linter.unusedVariables false
set_option linter.unusedSimpArgs false

theorem lruNew_bad (cap : Int) (w : World) (h : cap < 1 ∨ 16 < cap) :
    Calls Try.prog 8 #[.int .i64 cap] w fun e w' => e = .returned (.tuple #[.pointer none, .int .i64 2]) ∧ Only (fun _ => False) w w' := by
  have HN := Lib.hid (new_bad cap w h)
  clear h
  go_enter Try.func8, Try.ntmps8
  go_wp2_with fail
  refine HN.out.mono ?_
  rintro e w1 ⟨rfl, ho⟩
  go_wp2_with fail
  go_ret2
  exact ⟨rfl, ho⟩
theorem lruNew_ok (cap : Int) (w : World) (h1 : 1 ≤ cap) (h2 : cap ≤ 16) :
    Calls Try.prog 8 #[.int .i64 cap] w fun e w' => ∃ g, e = .returned (.tuple #[.pointer (some ⟨g, 0, none⟩), .int .i64 0]) ∧ (∃ b, LruS g b cap ([], []) (fun k => w.heap.size ≤ k) w') ∧ Only (fun _ => False) w w' := by
  have HN := Lib.hid (new_ok cap w h1 h2)
  clear h1 h2
  go_enter Try.func8, Try.ntmps8
  go_wp2_with fail
  refine HN.out.mono ?_
  rintro e w1 ⟨b, rfl, hb, ho⟩
  go_wp2_with fail
  go_ret2
  have hU : Upd (BookS b cap []) (fun k => w.heap.size ≤ k) w w1 := ⟨BookS.framed.mono _ _ _ hb fun _ _ h => .inl h, ho.mono fun _ _ h => h.elim⟩
  have hU2 := hU.add BookS.framed (Q := LruO w1.heap.size b []) LruO.framed (w2 := w1.alloc (.cells #[.pointer (some ⟨b, 0, none⟩), .slice none 0 0] 41)) ⟨.slice none 0 0, heap_alloc_new w1 _, Ow.nil _ _ _, Nat.le_refl _, fun k hk => by simp [Value.ownBlock] at hk⟩ (Only.alloc _ _ _)
  refine ⟨w1.heap.size, rfl, ⟨b, LruS.framed.mono _ _ _ hU2.1.swap fun _ _ h => ?_⟩, ho.tr (Only.alloc _ _ _)⟩
  exact h.elim id id

section
variable {T : Nat → Prop} {w : World} {g b : Nat} {cap : Int} {s : List PairD × List Int}
theorem lruDo_ (hT : LruS g b cap s T w) (G : LGood cap s) {op key val : Int} {r : ResD} {s' : List PairD × List Int} (hd : lruP cap s op key val = (r, s')) :
    Calls Try.prog 11 #[.pointer (some ⟨g, 0, none⟩), .int .i64 op, .int .u64 key, .int .u64 val] w fun e w' => e = .returned (.agg #[.int .i64 r.1, .bool r.2.1, .int .u64 r.2.2.1, .bool r.2.2.2.1, .int .u64 r.2.2.2.2.1, .int .u64 r.2.2.2.2.2]) ∧ Upd (LruS g b cap s') T w w' := by
  have := lru_any g b cap s T op key val w hT G
  rw [hd] at this; exact this
theorem bookDo_ {xs ys : List PairD} (hT : BookS b cap xs T w) (G : Good cap xs) {op key val : Int} {r : ResD} (hd : doP cap xs op key val = (r, ys)) :
    Calls Try.prog 16 #[.pointer (some ⟨b, 0, none⟩), .int .i64 op, .int .u64 key, .int .u64 val] w fun e w' => e = .returned (.agg #[.int .i64 r.1, .bool r.2.1, .int .u64 r.2.2.1, .bool r.2.2.2.1, .int .u64 r.2.2.2.2.1, .int .u64 r.2.2.2.2.2]) ∧ Upd (BookS b cap ys) T w w' := by
  have := do_any b cap xs T op key val w hT G
  rw [hd] at this; exact this
theorem lruLen_ (hT : LruS g b cap s T w) : Calls Try.prog 12 #[.pointer (some ⟨b, 0, none⟩)] w fun e w' => e = .returned (.int .i64 s.1.length) ∧ Only (fun _ => False) w w' := len_any b cap s.1 T w (hT.right BookS.framed)
theorem lruOrder_ (hT : LruS g b cap s T w) (G : LGood cap s) : Calls Try.prog 9 #[.pointer (some ⟨g, 0, none⟩)] w fun e w' => ∃ v', e = .returned v' ∧ OwS eU64 28 (fun k => w.heap.size ≤ k) w' v' s.2 ∧ Only (fun _ => False) w w' :=
  order_any g b s.2 T w (hT.left LruO.framed) (by have := G.len; have := G.good.len; have := G.good.hi; omega)
theorem lruPairs_ (hT : LruS g b cap s T w) (G : LGood cap s) : Calls Try.prog 14 #[.pointer (some ⟨b, 0, none⟩)] w fun e w' => ∃ v', e = .returned v' ∧ OwS ePair 46 (fun k => w.heap.size ≤ k) w' v' s.1 ∧ Only (fun _ => False) w w' :=
  bpairs_any b cap s.1 T w (hT.right BookS.framed) (by have := G.good.len; have := G.good.hi; omega)
end
section
variable {R : (Nat → Prop) → World → Prop} {S : Nat → Prop} {w0 w : World} {g b : Nat} {cap : Int} {s : List PairD × List Int}
theorem lruDoU (hR : Framed R) (h : Upd (Sep (LruS g b cap s) R) S w0 w) (G : LGood cap s) {op key val : Int} {r : ResD} {s' : List PairD × List Int} (hd : lruP cap s op key val = (r, s')) :
    Calls Try.prog 11 #[.pointer (some ⟨g, 0, none⟩), .int .i64 op, .int .u64 key, .int .u64 val] w fun e w' => e = .returned (.agg #[.int .i64 r.1, .bool r.2.1, .int .u64 r.2.2.1, .bool r.2.2.2.1, .int .u64 r.2.2.2.2.1, .int .u64 r.2.2.2.2.2]) ∧ Upd (Sep (LruS g b cap s') R) S w0 w' :=
  h.on1 hR LruS.framed (E := fun e => e = .returned (.agg #[.int .i64 r.1, .bool r.2.1, .int .u64 r.2.2.1, .bool r.2.2.2.1, .int .u64 r.2.2.2.2.1, .int .u64 r.2.2.2.2.2])) fun A hA => by
    have := lru_any g b cap s A op key val w hA G
    rw [hd] at this; exact this
theorem lruLenU (hR : Framed R) (h : Upd (Sep (LruS g b cap s) R) S w0 w) :
    Calls Try.prog 12 #[.pointer (some ⟨b, 0, none⟩)] w fun e w' => e = .returned (.int .i64 s.1.length) ∧ Upd (Sep (LruS g b cap s) R) S w0 w' := by
  obtain ⟨T, hT⟩ := h.getL
  exact h.callRead (Sep.framed LruS.framed hR) (E := fun e => e = .returned (.int .i64 s.1.length)) (len_any b cap s.1 T w (hT.right BookS.framed))
theorem lruCapU (hR : Framed R) (h : Upd (Sep (LruS g b cap s) R) S w0 w) :
    Calls Try.prog 19 #[.pointer (some ⟨b, 0, none⟩)] w fun e w' => e = .returned (.int .i64 cap) ∧ Upd (Sep (LruS g b cap s) R) S w0 w' := by
  obtain ⟨T, hT⟩ := h.getL
  exact h.callRead (Sep.framed LruS.framed hR) (E := fun e => e = .returned (.int .i64 cap)) (cap_any b cap s.1 T w (hT.right BookS.framed))
theorem lruPtrU (h : Upd (Sep (LruS g b cap s) R) S w0 w) : w.cell? ⟨g, 0, none⟩ = some (.pointer (some ⟨b, 0, none⟩)) ∧ g < w.heap.size := by
  obtain ⟨T, hT⟩ := h.getL
  exact ⟨hT.ptr, World.block_lt_of_cell? w _ hT.ptr⟩
theorem lruOrderU (hR : Framed R) (h : Upd (Sep (LruS g b cap s) R) S w0 w) (G : LGood cap s) :
    Calls Try.prog 9 #[.pointer (some ⟨g, 0, none⟩)] w fun e w' => ∃ v', e = .returned v' ∧ Upd (Sep (LruS g b cap s) (fun S w => R S w ∧ OwS eU64 28 S w v' s.2)) S w0 w' := by
  obtain ⟨T, hT⟩ := h.getL
  exact h.callKeep LruS.framed hR (Yx := fun v' S w => OwS eU64 28 S w v' s.2) (E := fun v' e => e = .returned v') (fun _ => OwS.framed) (order_any g b s.2 T w (hT.left LruO.framed) (by have := G.len; have := G.good.len; have := G.good.hi; omega))
theorem lruPairsU (hR : Framed R) (h : Upd (Sep (LruS g b cap s) R) S w0 w) (G : LGood cap s) :
    Calls Try.prog 14 #[.pointer (some ⟨b, 0, none⟩)] w fun e w' => ∃ v', e = .returned v' ∧ Upd (Sep (LruS g b cap s) (fun S w => R S w ∧ OwS ePair 46 S w v' s.1)) S w0 w' := by
  obtain ⟨T, hT⟩ := h.getL
  exact h.callKeep LruS.framed hR (Yx := fun v' S w => OwS ePair 46 S w v' s.1) (E := fun v' e => e = .returned v') (fun _ => OwS.framed) (bpairs_any b cap s.1 T w (hT.right BookS.framed) (by have := G.good.len; have := G.good.hi; omega))
/-- a new LRU beside all -/
theorem lruNewU (hR : Framed R) (h : Upd R S w0 w) (h1 : 1 ≤ cap) (h2 : cap ≤ 16) :
    Calls Try.prog 8 #[.int .i64 cap] w fun e w' => ∃ g, e = .returned (.tuple #[.pointer (some ⟨g, 0, none⟩), .int .i64 0]) ∧ ∃ b, Upd (Sep (LruS g b cap ([], [])) R) S w0 w' :=
  (h.callNew hR (Yx := fun g S w => ∃ b, LruS g b cap ([], []) S w) (E := fun g e => e = .returned (.tuple #[.pointer (some ⟨g, 0, none⟩), .int .i64 0])) (fun _ => Framed.ex fun _ => LruS.framed) (lruNew_ok cap w h1 h2)).mono fun e w' ⟨g, he, hu⟩ => by
    obtain ⟨⟨A, B, hd, hA, hB, hp, b, hq⟩, ho⟩ := hu.swap.swap
    exact ⟨g, he, b, ⟨B, A, fun k h1 h2 => hd k h2 h1, hB, hA, hq, hp⟩, ho⟩
end
theorem lru_res_eq (r : ResD) (w : World) : (binOp .eql 35 (.agg #[.int .i64 r.1, .bool r.2.1, .int .u64 r.2.2.1, .bool r.2.2.2.1, .int .u64 r.2.2.2.2.1, .int .u64 r.2.2.2.2.2]) (.agg #[.int .i64 r.1, .bool r.2.1, .int .u64 r.2.2.1, .bool r.2.2.2.1, .int .u64 r.2.2.2.2.1, .int .u64 r.2.2.2.2.2])).run Try.prog w = .ok (.bool true) w := by
  have := eRes_eql r r w
  simpa using this
set_option maxHeartbeats 1000000 in
theorem awake_any (w : World) : Calls Try.prog 7 #[] w fun e w' => e = .returned (.bool true) ∧ Below w.heap.size w w' := by
  go_enter Try.func7, Try.ntmps7
  go_wp2_with fail
  refine (lruNewU Emp.framed (St.start (Below.refl _ w)) (cap := 2) (by decide) (by decide)).mono ?_
  rintro e w1 ⟨g, rfl, b, h1⟩
  have H1 := Lib.hid h1
  have G0 := lgood_nil (cap := 2) (by decide) (by decide)
  have H1G := Lib.hid G0
  clear h1 G0
  go_wp2_with fail
  refine (lruDoU Emp.framed H1.out H1G.out (r := (0, false, 0, false, 0, 0)) (s' := ([(1, 10)], [1])) (by decide)).mono ?_
  rintro e w2 ⟨rfl, h2⟩
  have H2 := Lib.hid h2
  have H2G := Lib.hid (show LGood 2 ([(1, 10)], [1]) from lru_good (op := 2) (k := 1) (v := 10) H1G.out)
  clear h2
  go_wp2_with fail
  refine (lruDoU Emp.framed H2.out H2G.out (r := (0, false, 0, false, 0, 0)) (s' := ([(1, 10), (2, 20)], [2, 1])) (by decide)).mono ?_
  rintro e w3 ⟨rfl, h3⟩
  have H3 := Lib.hid h3
  have H3G := Lib.hid (show LGood 2 ([(1, 10), (2, 20)], [2, 1]) from lru_good (op := 2) (k := 2) (v := 20) H2G.out)
  clear h3
  go_wp2_with fail
  refine (lruDoU Emp.framed H3.out H3G.out (r := (0, true, 10, false, 0, 0)) (s' := ([(1, 10), (2, 20)], [1, 2])) (by decide)).mono ?_
  rintro e w4 ⟨rfl, h4⟩
  have H4 := Lib.hid h4
  have H4G := Lib.hid (show LGood 2 ([(1, 10), (2, 20)], [1, 2]) from lru_good (op := 0) (k := 1) (v := 0) H3G.out)
  clear h4
  go_wp2_with fail
  refine (lruDoU Emp.framed H4.out H4G.out (r := (0, false, 0, true, 2, 20)) (s' := ([(1, 10), (3, 30)], [3, 1])) (by decide)).mono ?_
  rintro e w5 ⟨rfl, h5⟩
  have H5 := Lib.hid h5
  have H5G := Lib.hid (show LGood 2 ([(1, 10), (3, 30)], [3, 1]) from lru_good (op := 2) (k := 3) (v := 30) H4G.out)
  have hz := lru_res_eq (0, false, 0, true, 2, 20)
  clear h5
  dsimp only at hz ⊢
  go_wp2_with fail
  refine (lruOrderU Emp.framed H5.out H5G.out).mono ?_
  rintro e w6 ⟨v', rfl, h6⟩
  obtain ⟨_, _, ho⟩ := h6.getR
  obtain ⟨⟨_, ao, cp, rfl, _⟩, _⟩ := ho
  have H6 := Lib.hid h6
  clear h6
  dsimp only [List.length_cons, List.length_nil]
  go_wp2_with fail
  go_ret
  exact ⟨rfl, St.below H6.out⟩
end Go.Proofs.Ytodacnpbhlkoiaa
