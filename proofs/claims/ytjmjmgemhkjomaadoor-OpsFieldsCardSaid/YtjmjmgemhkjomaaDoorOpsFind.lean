/- ops: Find. -/
import Derived.Test.YtjmjmgemhkjomaaDoorOpsRefFind
import Derived.Laws.Rows
namespace Go.Proofs.YtjmjmgemhkjomaaDoor
open Go.RowKit
set_option linter.unusedVariables false

theorem index_form (cs : Array Value) (hs : cs.size = 46) (k : Nat) (hk : k < 23) (a b : Value) (ha : cs[k * 2]? = some a) (hb : cs[k * 2 + 1]? = some b) (w : World) :
    (Instr.index 46 (.agg cs) (.int .i64 (k : Int))).run Tryd.prog w = .ok (.agg #[a, b]) w := by
  have hsz : ∀ w : World, (sizeOf 45).run Tryd.prog w = .ok 2 w := fun w => by kernel_rfl
  have hag : ∀ w : World, (isAgg 45).run Tryd.prog w = .ok true w := fun w => by kernel_rfl
  have h2 : 2 + k * 2 = k * 2 + 2 := by omega
  have h23 : (k : Int) < 23 := by omega
  have e1 : (cs.extract (k * 2) (k * 2 + 2)) = #[a, b] := by
    apply Array.ext'
    apply List.ext_getElem?
    intro i
    rw [Array.getElem?_toList, Array.getElem?_extract]
    match i with
    | 0 => rw [if_pos (by omega)]; simpa using ha
    | 1 => rw [if_pos (by omega)]; simpa using hb
    | n + 2 => rw [if_neg (by omega)]; simp
  simp [Instr.index, run_underlying Tryd.underlying46, asIntOf, hsz, hag, part, go_sem, e1]
  omega

set_option maxHeartbeats 4000000 in
theorem find_any (s : ByteArray) (w : World) (hF : FormsB w) :
    Calls Tryd.prog 8 #[.string s] w fun e w' => e = .returned (.tuple #[.int .i64 (findR s).1, .bool (findR s).2]) ∧ Only (fun _ => False) w w' := by
  obtain ⟨cs, ty, fr, hblk, hs, hrows⟩ := hF
  have HR := Lib.hid hrows
  have HS := Lib.hid hs
  have HB := Lib.hid hblk
  have hi : (Tryd.prog.info? 46).map (·.size) = some cs.size := by rw [HS.out]; kernel_rfl
  have HI := Lib.hid hi
  clear hi hrows hs hblk
  go_enter Tryd.func8, Tryd.ntmps8
  go_wp2_with (refine wpList_load_row rfl 46 _ rfl 0 rfl ty cs fr _ HB.out Tryd.underlying46 rfl HI.out ?_)
  clear HB
  go_loopw [4, 5, 7] (fun _ _ v wr => ∃ k : Nat, k ≤ 23 ∧ v = .int .i64 k ∧ NotYet s k ∧ Only (fun _ => False) w wr) (fun _ _ v _ => 23 - (intOf v).toNat)
  case atStart => exact ⟨0, by omega, rfl, fun j _ h => by omega, Only.refl _ _⟩
  case round =>
    obtain ⟨k, hk, rfl, hn, ho⟩ := hrel
    have HN := Lib.hid hn
    clear hn
    by_cases hlt : k < 23
    · obtain ⟨nb, fb, hk1, hk2⟩ := names_all k (by rw [namesB_len]; exact hlt)
      have hix := index_form cs HS.out k hlt _ _ (HR.out k nb fb hk1).1 (HR.out k nb fb hk1).2
      have hi0 : (0 : Int) ≤ (k : Int) := by omega
      have hi1 : (k : Int) < 23 := by omega
      rw [← hk2] at hix
      have HL := Lib.hid (show k < namesB.length by rw [namesB_len]; exact hlt)
      clear hk1 hk2
      cases hb : (namesB[k]'HL.out).toList == s.toList
      · have HB := Lib.hid (show NotYet s (k + 1) from fun j h hj => by
          by_cases hjk : j < k
          · exact HN.out j h hjk
          · obtain rfl : j = k := by omega
            exact hb)
        generalize namesB[k]'HL.out = nm at *
        go_wp2_with fail
        go_roundw
        case rel => exact ⟨k + 1, by omega, by go_num, HB.out, ho.tr (Only.alloc _ _ _)⟩
        case measure => simp [intOf]; omega
      · have HF := Lib.hid (findR_at HL.out hb HN.out)
        generalize namesB[k]'HL.out = nm at *
        go_wp2_with fail
        go_ret2
        exact ⟨by rw [HF.out]; rfl, ho.tr (Only.alloc _ _ _)⟩
    · have HF := Lib.hid (findR_none (s := s) fun j h => HN.out j h (by rw [namesB_len] at h; omega))
      obtain rfl : k = 23 := by omega
      go_wp2_with fail
      go_ret2
      exact ⟨by rw [HF.out]; rfl, ho⟩
end Go.Proofs.YtjmjmgemhkjomaaDoor
