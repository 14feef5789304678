/- book: Fill. -/
import Derived.Test.YthekjeghodpcoaaBookKey
namespace Go.Proofs.Ythekjeghodpcoaa
open Go.RowKit
set_option linter.unusedVariables false
set_option linter.unusedSimpArgs false

/-- what puts, one behind the other, leave, and how many went in -/
def fillP (cap : Int) (xs ps : List PairD) : List PairD × Nat := ps.foldl (fun s p => ((doP cap s.1 2 p.1 p.2).2, if (doP cap s.1 2 p.1 p.2).1.1 = 0 then s.2 + 1 else s.2)) (xs, 0)
theorem fillP_snoc (cap : Int) (xs ps : List PairD) (p : PairD) : fillP cap xs (ps ++ [p]) = ((doP cap (fillP cap xs ps).1 2 p.1 p.2).2, if (doP cap (fillP cap xs ps).1 2 p.1 p.2).1.1 = 0 then (fillP cap xs ps).2 + 1 else (fillP cap xs ps).2) := by
  unfold fillP; rw [List.foldl_append]; rfl
theorem fillP_good {cap : Int} {xs : List PairD} (G : Good cap xs) (ps : List PairD) : ∀ k, k ≤ ps.length → Good cap (fillP cap xs (ps.take k)).1 ∧ (fillP cap xs (ps.take k)).2 ≤ k := by
  intro k
  induction k with
  | zero => intro _; exact ⟨G, Nat.le_refl _⟩
  | succ k ih =>
    intro h
    obtain ⟨i1, i2⟩ := ih (by omega)
    rw [List.take_succ_eq_append_getElem (by omega), fillP_snoc]
    refine ⟨do_good i1, ?_⟩
    dsimp only
    split <;> omega
theorem doV {Q X : (Nat → Prop) → World → Prop} {w0 w : World} {b : Nat} {cap : Int} {xs ys : List PairD} {r : ResD} {op key val : Int} (hQ : Framed Q) (hX : Framed X) (h : LSt (BookS b cap xs) Q X w0 w) (G : Good cap xs) (hd : doP cap xs op key val = (r, ys)) :
    Calls Try.prog 9 #[.pointer (some ⟨b, 0, none⟩), .int .i64 op, .int .u64 key, .int .u64 val] w fun e w' => e = .returned (.agg #[.int .i64 r.1, .bool r.2.1, .int .u64 r.2.2.1, .bool r.2.2.2.1, .int .u64 r.2.2.2.2.1, .int .u64 r.2.2.2.2.2]) ∧ LSt (BookS b cap ys) Q X w0 w' := by
  have := doL hQ hX h G op key val
  rw [hd] at this; exact this

theorem res_field0 (x0 x2 x4 x5 : Int) (x1 x3 : Bool) (w : World) : (Instr.field 30 (.agg #[.int .i64 x0, .bool x1, .int .u64 x2, .bool x3, .int .u64 x4, .int .u64 x5]) 0).run Try.prog w = .ok (.int .i64 x0) w := by
  kernel_rfl
set_option maxHeartbeats 2000000 in
theorem fillL {Q X : (Nat → Prop) → World → Prop} {w0 w : World} {b : Nat} {cap : Int} {xs ps : List PairD} {v : Value} (hQ : Framed Q) (hX : Framed X) (h : LSt (BookS b cap xs) Q X w0 w) (G : Good cap xs)
    (hR : ∀ (zs : List PairD) (W : World), LSt (BookS b cap zs) Q X w0 W → Rd ePair W v ps) :
    Calls Try.prog 17 #[.pointer (some ⟨b, 0, none⟩), v] w fun e w' => e = .returned (.int .i64 (fillP cap xs ps).2) ∧ LSt (BookS b cap (fillP cap xs ps).1) Q X w0 w' := by
  have HQ := Lib.hid hQ
  have HX := Lib.hid hX
  have HV := Lib.hid h
  have HG := Lib.hid G
  have HR := Lib.hid hR
  obtain ⟨hmx, ao, c, rfl, _, _, _⟩ := hR _ _ h
  unfold maxLen at hmx
  clear hQ hX h G hR
  go_enter Try.func17, Try.ntmps17
  go_wp2_with fail
  go_loopw [5, 10] (fun t5 t10 wr => ∃ (k n : Nat) (zs : List PairD), k ≤ ps.length ∧ n ≤ k ∧ t10 = .int .i64 k ∧ t5 = .int .i64 n ∧ Hid (fillP cap xs (ps.take k) = (zs, n)) ∧ Hid (Good cap zs) ∧ Hid (LSt (BookS b cap zs) Q X w0 wr)) (fun _ t10 _ => ps.length - (intOf t10).toNat)
  case atStart => exact ⟨0, 0, xs, Nat.zero_le _, Nat.le_refl _, rfl, rfl, Lib.hid rfl, HG, HV⟩
  case round =>
    clear HV HG
    obtain ⟨k, n, zs, hk, hn, rfl, rfl, HF, G, V⟩ := hrel
    by_cases hlt : k < ps.length
    · obtain ⟨_, ao', cap', hao, _, _, hx⟩ := HR.out _ _ V.out
      obtain ⟨rfl, _, rfl⟩ : ao = ao' ∧ ps.length = ps.length ∧ c = cap' := by simpa using hao
      obtain ⟨sb, off, rfl, hc⟩ := hx (by omega)
      obtain ⟨c0, c1⟩ := pair_cells hc k hlt
      have hi0 : (0 : Int) ≤ (k : Int) := by omega
      have hi1 : (k : Int) < (ps.length : Int) := by omega
      have HS := Lib.hid (show fillP cap xs (ps.take (k + 1)) = ((doP cap zs 2 ps[k].1 ps[k].2).2, if (doP cap zs 2 ps[k].1 ps[k].2).1.1 = 0 then n + 1 else n) by rw [List.take_succ_eq_append_getElem hlt, fillP_snoc, HF.out])
      clear hc hx hao
      generalize ps[k].1 = p0 at *
      generalize ps[k].2 = p1 at *
      obtain ⟨r, ys, hd⟩ : ∃ r ys, doP cap zs 2 p0 p1 = (r, ys) := ⟨_, _, rfl⟩
      rw [hd] at HS
      have HD := Lib.hid hd
      have HG2 := Lib.hid (good_mid G.out hd)
      have HVA := Lib.hid (V.out.fresh BookS.framed HQ.out HX.out (Only.alloc _ _ (.cells #[.int .u64 p0, .int .u64 p1] 39)))
      clear hd
      have hfl := res_field0 r.1 r.2.2.1 r.2.2.2.2.1 r.2.2.2.2.2 r.2.1 r.2.2.2.1
      by_cases hr : r.1 = 0
      · have HS2 := Lib.hid (show fillP cap xs (ps.take (k + 1)) = (ys, n + 1) by rw [HS.out]; simp [hr])
        rw [hr] at hfl
        clear HS
        go_wp2_with fail
        refine (doV HQ.out HX.out HVA.out G.out HD.out).mono ?_
        rintro e w2 ⟨rfl, hL2⟩
        have HL2 := Lib.hid hL2
        clear hL2
        go_wp2_with fail
        go_roundw
        case rel => exact ⟨k + 1, n + 1, ys, by omega, by omega, by go_num, by go_num, HS2, HG2, HL2⟩
        case measure => simp [intOf]; omega
      · have HS2 := Lib.hid (show fillP cap xs (ps.take (k + 1)) = (ys, n) by rw [HS.out]; simp [hr])
        clear HS
        go_wp2_with fail
        refine (doV HQ.out HX.out HVA.out G.out HD.out).mono ?_
        rintro e w2 ⟨rfl, hL2⟩
        have HL2 := Lib.hid hL2
        clear hL2
        go_wp2_with fail
        go_roundw
        case rel => exact ⟨k + 1, n, ys, by omega, by omega, by go_num, rfl, HS2, HG2, HL2⟩
        case measure => simp [intOf]; omega
    · have HE := Lib.hid (show fillP cap xs ps = (zs, n) by have := HF.out; rwa [List.take_of_length_le (by omega)] at this)
      go_wp2_with fail
      go_ret
      rw [HE.out]
      exact ⟨rfl, V.out⟩
end Go.Proofs.Ythekjeghodpcoaa
