/- CmapParts, plain: a batch over the shards is, shard by shard, the items of its keys alone. -/
import Derived.Test.YthppleegiieneaaCMapBatch
namespace Go.Proofs.Ythppleegiieneaa
open Go.RowKit
set_option linter.unusedVariables false
set_option linter.unusedSimpArgs false

def oneStep (kind cap n s : Int) (st : Sh) (i : ItemD) : Sh := if ofS i.2.2.1 n = s then (shP (decide (kind = 1)) cap st i.2.1 i.2.2.1 i.2.2.2).2 else st
def oneRun (kind cap n s : Int) (st : Sh) (is : List ItemD) : Sh := is.foldl (oneStep kind cap n s) st
theorem oneRun_snoc (kind cap n s : Int) (st : Sh) (is : List ItemD) (i : ItemD) : oneRun kind cap n s st (is ++ [i]) = oneStep kind cap n s (oneRun kind cap n s st is) i := by simp [oneRun]
theorem oneRun_good {kind cap n s : Int} {st : Sh} (G : SGood (decide (kind = 1)) cap st) (is : List ItemD) : SGood (decide (kind = 1)) cap (oneRun kind cap n s st is) := by
  induction is generalizing st with
  | nil => exact G
  | cons i is ih =>
    refine ih ?_
    unfold oneStep
    split
    · exact sh_good G
    · exact G
theorem mDo_len (kind cap : Int) (ss : List Sh) (op key val : Int) : (mDo kind cap ss op key val).2.length = ss.length := by
  unfold mDo
  split
  · rfl
  · simp
theorem ofS_lt {ss : List Sh} (key : Int) (h : 0 < ss.length) : (ofS key ss.length).toNat < ss.length ∧ ((ofS key ss.length).toNat : Int) = ofS key ss.length := by
  rcases ofS_range key ss.length with ⟨h0, h1 | h1⟩ <;> omega
theorem mDo_eq (kind cap : Int) (ss : List Sh) (op key val : Int) (h : 0 < ss.length) : mDo kind cap ss op key val = ((shP (decide (kind = 1)) cap (ss[(ofS key ss.length).toNat]'(ofS_lt key h).1) op key val).1, ss.set (ofS key ss.length).toNat (shP (decide (kind = 1)) cap (ss[(ofS key ss.length).toNat]'(ofS_lt key h).1) op key val).2) := by
  unfold mDo
  rw [List.getElem?_eq_getElem (ofS_lt key h).1]
theorem mDo_at (kind cap : Int) (ss : List Sh) (i : ItemD) (s : Nat) (hs : s < ss.length) : (mDo kind cap ss i.2.1 i.2.2.1 i.2.2.2).2[s]? = some (oneStep kind cap ss.length s ss[s] i) := by
  have h0 : 0 < ss.length := by omega
  rw [mDo_eq kind cap ss _ _ _ h0]
  have h1 := ofS_lt i.2.2.1 h0
  unfold oneStep
  by_cases h : ofS i.2.2.1 ss.length = s
  · have he : (ofS i.2.2.1 ss.length).toNat = s := by omega
    rw [if_pos h]
    simp only [he, List.getElem?_set_self hs]
  · have he : ¬ (ofS i.2.2.1 ss.length).toNat = s := by omega
    rw [if_neg h]
    simp only
    rw [List.getElem?_set_ne he, List.getElem?_eq_getElem hs]
theorem mBatch_len2 (kind cap : Int) (is : List ItemD) (ss : List Sh) : (mBatch kind cap ss is).2.length = ss.length := by
  induction is generalizing ss with
  | nil => rfl
  | cons i is ih => simp only [mBatch]; rw [ih, mDo_len]
theorem mBatch_at (kind cap : Int) (is : List ItemD) (ss : List Sh) (s : Nat) (hs : s < ss.length) : (mBatch kind cap ss is).2[s]? = some (oneRun kind cap ss.length s ss[s] is) := by
  induction is generalizing ss with
  | nil => exact List.getElem?_eq_getElem hs
  | cons i is ih =>
    have h1 := mDo_at kind cap ss i s hs
    have hl := mDo_len kind cap ss i.2.1 i.2.2.1 i.2.2.2
    have h2 := ih (mDo kind cap ss i.2.1 i.2.2.1 i.2.2.2).2 (by omega)
    simp only [mBatch]
    rw [List.getElem?_eq_getElem (by omega)] at h1
    rw [h2, Option.some.inj h1, hl]
    rfl
theorem mBatch_ans (kind cap : Int) (is : List ItemD) (ss : List Sh) (k : Nat) (hk : k < is.length) : (mBatch kind cap ss is).1[k]? = some (mDo kind cap (mBatch kind cap ss (is.take k)).2 is[k].2.1 is[k].2.2.1 is[k].2.2.2).1 := by
  induction is generalizing ss k with
  | nil => simp at hk
  | cons i is ih =>
    cases k with
    | zero => rfl
    | succ k =>
      simp only [mBatch, List.getElem?_cons_succ, List.take_succ_cons, List.getElem_cons_succ]
      exact ih _ k (by simpa using hk)
/-- what a shard by itself answers is what the batch answers -/
theorem part_ans {kind cap : Int} {ss : List Sh} {s : Nat} (hs : s < ss.length) {is : List ItemD} {k : Nat} (hk : k < is.length) (h : ofS is[k].2.2.1 ss.length = s) :
    (mBatch kind cap ss is).1[k]? = some (shP (decide (kind = 1)) cap (oneRun kind cap ss.length s ss[s] (is.take k)) is[k].2.1 is[k].2.2.1 is[k].2.2.2).1 := by
  rw [mBatch_ans kind cap is ss k hk]
  have hl := mBatch_len2 kind cap (is.take k) ss
  have ha := mBatch_at kind cap (is.take k) ss s hs
  generalize (mBatch kind cap ss (is.take k)).2 = st at *
  have hs2 : s < st.length := by omega
  rw [List.getElem?_eq_getElem hs2] at ha
  rw [mDo_eq kind cap st _ _ _ (by omega)]
  have he : (ofS is[k].2.2.1 st.length).toNat = s := by rw [hl]; omega
  simp only [he]
  rw [Option.some.inj ha]
end Go.Proofs.Ythppleegiieneaa
