/- lru: Fill, Touch. -/
import Derived.Test.YtodacnpbhlkoiaaLruSt
import Derived.Test.YtodacnpbhlkoiaaSt2
import Derived.Test.YtodacnpbhlkoiaaBookMore
namespace Go.Proofs.Ytodacnpbhlkoiaa
open Go.RowKit
set_option linter.unusedVariables false
set_option linter.unusedSimpArgs false

theorem res_field1' (x0 x2 x4 x5 : Int) (x1 x3 : Bool) (w : World) : (Instr.field 35 (.agg #[.int .i64 x0, .bool x1, .int .u64 x2, .bool x3, .int .u64 x4, .int .u64 x5]) 1).run Try.prog w = .ok (.bool x1) w := by kernel_rfl
/-- puts, one behind the other -/
def fillL (cap : Int) (s : List PairD × List Int) (ps : List PairD) : List PairD × List Int := ps.foldl (fun s p => (lruP cap s 2 p.1 p.2).2) s
theorem fillL_snoc (cap : Int) (s : List PairD × List Int) (ps : List PairD) (p : PairD) : fillL cap s (ps ++ [p]) = (lruP cap (fillL cap s ps) 2 p.1 p.2).2 := by unfold fillL; rw [List.foldl_append]; rfl
theorem fillL_good {cap : Int} {s : List PairD × List Int} (G : LGood cap s) (ps : List PairD) : LGood cap (fillL cap s ps) := by
  unfold fillL
  induction ps generalizing s with
  | nil => exact G
  | cons p ps ih => exact ih (lru_good G)
/-- gets, one behind the other, and how many were found -/
def touchL (cap : Int) (s : List PairD × List Int) (ks : List Int) : (List PairD × List Int) × Nat := ks.foldl (fun s k => ((lruP cap s.1 0 k 0).2, if hasP s.1.1 k then s.2 + 1 else s.2)) (s, 0)
theorem touchL_snoc (cap : Int) (s : List PairD × List Int) (ks : List Int) (k : Int) : touchL cap s (ks ++ [k]) = ((lruP cap (touchL cap s ks).1 0 k 0).2, if hasP (touchL cap s ks).1.1 k then (touchL cap s ks).2 + 1 else (touchL cap s ks).2) := by unfold touchL; rw [List.foldl_append]; rfl
theorem get_val (cap : Int) (s : List PairD × List Int) (k v : Int) : lruP cap s 0 k v = ((0, hasP s.1 k, oldP s.1 k, false, 0, 0), (s.1, ordP s.1 s.2 0 k)) := rfl
theorem touchL_fst (cap : Int) (s : List PairD × List Int) (ks : List Int) : (touchL cap s ks).1.1 = s.1 := by
  unfold touchL
  suffices h : ∀ (t : (List PairD × List Int) × Nat), (ks.foldl (fun s k => ((lruP cap s.1 0 k 0).2, if hasP s.1.1 k then s.2 + 1 else s.2)) t).1.1 = t.1.1 from h _
  induction ks with
  | nil => intro t; rfl
  | cons k ks ih => intro t; exact (ih _).trans rfl
theorem touchL_good {cap : Int} {s : List PairD × List Int} (G : LGood cap s) (ks : List Int) : ∀ j, j ≤ ks.length → LGood cap (touchL cap s (ks.take j)).1 ∧ (touchL cap s (ks.take j)).2 ≤ j := by
  intro j
  induction j with
  | zero => intro _; exact ⟨G, Nat.le_refl _⟩
  | succ j ih =>
    intro h
    obtain ⟨i1, i2⟩ := ih (by omega)
    rw [List.take_succ_eq_append_getElem (by omega), touchL_snoc]
    refine ⟨lru_good i1, ?_⟩
    dsimp only
    split <;> omega

set_option maxHeartbeats 2000000 in
theorem lruFill_any (g b : Nat) (cap : Int) (s : List PairD × List Int) (ps : List PairD) (v : Value) (S : Nat → Prop) (w : World) (H : Sep (LruS g b cap s) (fun S w => OwS ePair 46 S w v ps) S w) (G : LGood cap s) :
    Calls Try.prog 23 #[.pointer (some ⟨g, 0, none⟩), v] w fun e w' => e = .returned (.int .i64 ps.length) ∧ Upd (Sep (LruS g b cap (fillL cap s ps)) (fun S w => OwS ePair 46 S w v ps)) S w w' := by
  have HU := Lib.hid (Upd.refl (Sep.framed LruS.framed OwS.framed) H)
  have HG := Lib.hid G
  obtain ⟨⟨hmx, ao, c, rfl, _⟩, _⟩ := H.right OwS.framed
  unfold maxLen at hmx
  clear H G
  go_enter Try.func23, Try.ntmps23
  go_wp2_with fail
  go_loopw [9] (fun t9 wr => ∃ (k : Nat) (s2 : List PairD × List Int), k ≤ ps.length ∧ t9 = .int .i64 k ∧ Hid (fillL cap s (ps.take k) = s2) ∧ Hid (LGood cap s2) ∧ Hid (Upd (Sep (LruS g b cap s2) (fun S w => OwS ePair 46 S w (.slice ao ps.length c) ps)) S w wr)) (fun t9 _ => ps.length - (intOf t9).toNat)
  case atStart => exact ⟨0, s, Nat.zero_le _, rfl, Lib.hid rfl, HG, HU⟩
  case round =>
    clear HU HG
    obtain ⟨k, s2, hk, rfl, HF, HG, V⟩ := hrel
    by_cases hlt : k < ps.length
    · obtain ⟨_, hown⟩ := V.out.getR
      obtain ⟨_, ao', cap', hao, _, _, hx⟩ := hown.rd
      obtain ⟨rfl, _, rfl⟩ : ao = ao' ∧ ps.length = ps.length ∧ c = cap' := by simpa using hao
      obtain ⟨sb, off, rfl, hc⟩ := hx (by omega)
      obtain ⟨c0, c1⟩ := pair_cells hc k hlt
      have hi0 : (0 : Int) ≤ (k : Int) := by omega
      have hi1 : (k : Int) < (ps.length : Int) := by omega
      have HS := Lib.hid (show fillL cap s (ps.take (k + 1)) = (lruP cap s2 2 ps[k].1 ps[k].2).2 by rw [List.take_succ_eq_append_getElem hlt, fillL_snoc, HF.out])
      clear hc hx hao hown
      generalize ps[k].1 = p0 at *
      generalize ps[k].2 = p1 at *
      obtain ⟨r, s3, hd⟩ : ∃ r s3, lruP cap s2 2 p0 p1 = (r, s3) := ⟨_, _, rfl⟩
      rw [hd] at HS
      have HD := Lib.hid hd
      have HG2 := Lib.hid (show LGood cap s3 by have := lru_good (op := 2) (k := p0) (v := p1) HG.out; rwa [hd] at this)
      have HVA := Lib.hid (V.out.fresh (Sep.framed LruS.framed OwS.framed) (Only.alloc _ _ (.cells #[.int .u64 p0, .int .u64 p1] 46)))
      clear hd
      go_wp2_with fail
      refine (lruDoU OwS.framed HVA.out HG.out HD.out).mono ?_
      rintro e w2 ⟨rfl, hL2⟩
      have HL2 := Lib.hid hL2
      clear hL2
      go_wp2_with fail
      go_roundw
      case rel => exact ⟨k + 1, s3, by omega, by go_num, HS, HG2, HL2⟩
      case measure => simp [intOf]; omega
    · obtain rfl : k = ps.length := by omega
      have HF2 := Lib.hid (show fillL cap s ps = s2 by have := HF.out; rwa [List.take_length] at this)
      go_wp2_with fail
      go_ret
      exact ⟨rfl, by rw [HF2.out]; exact V.out⟩

set_option maxHeartbeats 2000000 in
theorem lruTouch_any (g b : Nat) (cap : Int) (s : List PairD × List Int) (ks : List Int) (v : Value) (S : Nat → Prop) (w : World) (H : Sep (LruS g b cap s) (fun S w => OwS eU64 28 S w v ks) S w) (G : LGood cap s) :
    Calls Try.prog 24 #[.pointer (some ⟨g, 0, none⟩), v] w fun e w' => e = .returned (.int .i64 (touchL cap s ks).2) ∧ Upd (Sep (LruS g b cap (touchL cap s ks).1) (fun S w => OwS eU64 28 S w v ks)) S w w' := by
  have HU := Lib.hid (Upd.refl (Sep.framed LruS.framed OwS.framed) H)
  have HG := Lib.hid G
  obtain ⟨⟨hmx, ao, c, rfl, _⟩, _⟩ := H.right OwS.framed
  unfold maxLen at hmx
  clear H G
  go_enter Try.func24, Try.ntmps24
  go_wp2_with fail
  go_loopw [5, 7, 10] (fun t5 _ t10 wr => ∃ (k n : Nat) (s2 : List PairD × List Int), k ≤ ks.length ∧ n ≤ k ∧ t10 = .int .i64 k ∧ t5 = .int .i64 n ∧ Hid (touchL cap s (ks.take k) = (s2, n)) ∧ Hid (LGood cap s2) ∧ Hid (Upd (Sep (LruS g b cap s2) (fun S w => OwS eU64 28 S w (.slice ao ks.length c) ks)) S w wr)) (fun _ _ t10 _ => ks.length - (intOf t10).toNat)
  case atStart => exact ⟨0, 0, s, Nat.zero_le _, Nat.le_refl _, rfl, rfl, Lib.hid rfl, HG, HU⟩
  case round =>
    clear HU HG
    obtain ⟨k, n, s2, hk, hn, rfl, rfl, HF, HG, V⟩ := hrel
    by_cases hlt : k < ks.length
    · obtain ⟨_, hown⟩ := V.out.getR
      obtain ⟨_, ao', cap', hao, _, _, hx⟩ := hown.rd
      obtain ⟨rfl, _, rfl⟩ : ao = ao' ∧ ks.length = ks.length ∧ c = cap' := by simpa using hao
      obtain ⟨sb, off, rfl, hc⟩ := hx (by omega)
      have c0 := hc k _ (eU64_at ks k hlt)
      have hi0 : (0 : Int) ≤ (k : Int) := by omega
      have hi1 : (k : Int) < (ks.length : Int) := by omega
      have HS := Lib.hid (show touchL cap s (ks.take (k + 1)) = ((lruP cap s2 0 ks[k] 0).2, if hasP s2.1 ks[k] then n + 1 else n) by rw [List.take_succ_eq_append_getElem hlt, touchL_snoc, HF.out])
      clear hc hx hao hown
      generalize ks[k] = p0 at *
      have HG2 := Lib.hid (lru_good (op := 0) (k := p0) (v := 0) HG.out)
      have HD := Lib.hid (get_val cap s2 p0 0)
      rw [HD.out] at HG2 HS
      have hfl := res_field1' 0 (oldP s2.1 p0) 0 0 (hasP s2.1 p0) false
      generalize (s2.1, ordP s2.1 s2.2 0 p0) = s3 at *
      generalize oldP s2.1 p0 = oo at *
      generalize hasP s2.1 p0 = hh at *
      cases hh
      all_goals
        go_wp2_with fail
        refine (lruDoU OwS.framed V.out HG.out HD.out).mono ?_
        rintro e w2 ⟨rfl, hL2⟩
        have HL2 := Lib.hid hL2
        clear hL2
        dsimp only
        go_wp2_with fail
        go_roundw
        case rel => first | exact ⟨k + 1, n, s3, by omega, by omega, by go_num, rfl, HS, HG2, HL2⟩ | exact ⟨k + 1, n + 1, s3, by omega, by omega, by go_num, by go_num, HS, HG2, HL2⟩
        case measure => simp [intOf]; omega
    · obtain rfl : k = ks.length := by omega
      have HF2 := Lib.hid (show touchL cap s ks = (s2, n) by have := HF.out; rwa [List.take_length] at this)
      go_wp2_with fail
      go_ret
      exact ⟨by rw [HF2.out]; try rfl, by rw [HF2.out]; exact V.out⟩
end Go.Proofs.Ytodacnpbhlkoiaa
