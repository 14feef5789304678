/- book: the document's Pairs. -/
import Derived.Test.YtodacnpbhlkoiaaBookBest
namespace Go.Proofs.Ytodacnpbhlkoiaa
open Go.RowKit
set_option linter.unusedVariables false
set_option linter.unusedSimpArgs false

def BestV (L : List PairD) (t : Int) (i : Nat) (v : Value) : Prop := ∃ b, v = .int .i64 b ∧ Best L t i b
set_option maxRecDepth 100000 in
set_option maxHeartbeats 4000000 in
theorem refPairs_any (x : Nat) (cap : Int) (xs L : List PairD) (S : Nat → Prop) (w : World) (A : Alike cap xs L) (H : RefS x cap L S w) :
    Calls Try.prog 22 #[.pointer (some ⟨x, 0, none⟩)] w fun e w' => ∃ v', e = .returned v' ∧ OwS ePair 46 (fun k => w.heap.size ≤ k) w' v' xs ∧ Only (fun _ => False) w w' := by
  have HA := Lib.hid A
  have hl16 : L.length ≤ 16 := by have := A.len; have := A.good.len; have := A.good.hi; omega
  have hxl : xs.length = L.length := A.len
  obtain ⟨v, hg, hown, hS, hvS⟩ := H
  obtain ⟨_, ao, cap2, rfl, _, _, _⟩ := id hown.rd
  have HG := Lib.hid hg
  have HRD := Lib.hid hown.rd
  clear hg hown hS hvS A
  go_enter Try.func22, Try.ntmps22
  go_wp2_with fail
  go_loopw [3] (fun t3 wr => ∃ (k c : Nat) (lo : Option Addr), k ≤ L.length ∧ t3 = .slice lo k c ∧ Hid (OwS ePair 46 (fun k => w.heap.size ≤ k) wr (.slice lo k c) (xs.take k)) ∧ Hid (Only (fun _ => False) w wr)) (fun t3 _ => L.length - lenOfV t3)
  case atStart => exact ⟨0, 0, none, Nat.zero_le _, rfl, Lib.hid (OwS.nil _ _), Lib.hid (Only.refl _ _)⟩
  case round =>
    obtain ⟨k, oc, lo, hk, rfl, HLO, HOR⟩ := hrel
    have hgr := HOR.out.heap HG.out (fun h => h)
    have c1 := cells_of_heap hgr 1 _ rfl
    clear hgr
    by_cases hlt : k < L.length
    · have hkx : k < xs.length := by omega
      obtain ⟨t, htk⟩ : ∃ t, t = xs[k].1 := ⟨_, rfl⟩
      have HT := Lib.hid htk
      clear htk
      go_wp2_with fail
      go_loopw [4, 5] (fun t4 t5 wq => ∃ (i : Nat), i ≤ L.length ∧ t5 = .int .i64 i ∧ Hid (BestV L t i t4) ∧ wq = wr) (fun _ t5 _ => L.length - (intOf t5).toNat)
      case atStart => exact ⟨0, Nat.zero_le _, rfl, Lib.hid ⟨-1, rfl, Best.zero L t⟩, rfl⟩
      case round =>
        obtain ⟨i, hi, rfl, HBV, rfl⟩ := hrel
        obtain ⟨b, rfl, hB⟩ := HBV.out
        have HB := Lib.hid hB
        clear hB HBV
        by_cases hil : i < L.length
        · obtain ⟨_, ao', cap', hao, _, _, hx⟩ := HRD.out.only HOR.out
          obtain ⟨rfl, _, rfl⟩ : ao = ao' ∧ L.length = L.length ∧ cap2 = cap' := by simpa using hao
          obtain ⟨sb, off, rfl, hc⟩ := hx (by omega)
          have HC := Lib.hid hc
          have d0 := (pair_cells hc i hil).1
          have hi0 : (0 : Int) ≤ (i : Int) := by omega
          have hi1 : (i : Int) < (L.length : Int) := by omega
          have HL0 := Lib.hid (show (0 : Int) ≤ 0 from Int.le_refl _)
          clear hc hx hao
          rcases Nat.eq_zero_or_pos k with rfl | hkp
          · have HFI := Lib.hid (show t ≤ L[i].1 by rw [HT.out]; exact first HA.out hkx hil)
            have hti := HFI.out
            rcases (show b = -1 ∨ ∃ m : Nat, ∃ hm : m < L.length, b = m from HB.out.elim (fun h => .inl h.1) (fun ⟨m, hm, e, _⟩ => .inr ⟨m, hm, e⟩)) with rfl | ⟨m, hm, rfl⟩
            · have HN := Lib.hid (HB.out.take hil hti (fun m hm e => by omega))
              clear hti
              go_wp2_with fail
              go_roundw
              case rel => first | exact ⟨i + 1, by omega, by go_num, Lib.hid ⟨_, rfl, HN.out⟩⟩ | exact ⟨i + 1, by omega, by go_num, Lib.hid ⟨_, rfl, HN.out⟩, by first | rfl | trivial⟩
              case measure => simp [intOf]; omega
            · have e0 := (pair_cells HC.out m hm).1
              have hm0 : (0 : Int) ≤ (m : Int) := by omega
              have hm1 : (m : Int) < (L.length : Int) := by omega
              by_cases hlm : L[i].1 < L[m].1
              · have HN := Lib.hid (HB.out.take hil hti (fun m' hm' e => by
                  obtain rfl : m = m' := by omega
                  exact hlm))
                clear hti
                go_wp2_with fail
                go_roundw
                case rel => first | exact ⟨i + 1, by omega, by go_num, Lib.hid ⟨_, rfl, HN.out⟩⟩ | exact ⟨i + 1, by omega, by go_num, Lib.hid ⟨_, rfl, HN.out⟩, by first | rfl | trivial⟩
                case measure => simp [intOf]; omega
              · have HN := Lib.hid (HB.out.keep hm hil hlm)
                clear hti
                go_wp2_with fail
                go_roundw
                case rel => first | exact ⟨i + 1, by omega, by go_num, Lib.hid ⟨_, rfl, HN.out⟩⟩ | exact ⟨i + 1, by omega, by go_num, Lib.hid ⟨_, rfl, HN.out⟩, by first | rfl | trivial⟩
                case measure => simp [intOf]; omega
          · obtain ⟨q, rfl⟩ : ∃ q, k = q + 1 := ⟨k - 1, by omega⟩
            have hqx : q < xs.length := by omega
            have HQ := Lib.hid (show ∃ (ob oo : Nat), lo = some ⟨ob, oo, none⟩ ∧ wr.cell? ⟨ob, oo + q * 2, none⟩ = some (.int .u64 xs[q].1) by
              obtain ⟨_, lo', oc', hlo, _, _, hxo⟩ := HLO.out.rd
              have hlq : q < (xs.take (q + 1)).length := by simp; omega
              obtain ⟨ob, oo, hob, hco⟩ := hxo (by omega)
              refine ⟨ob, oo, ?_, ?_⟩
              · rw [← hob]
                simp at hlo
                exact hlo.1
              · have := (pair_cells hco q hlq).1
                rwa [List.getElem_take] at this)
            obtain ⟨ob, oo, rfl, g0⟩ := HQ.out
            have HAB := Lib.hid (show xs[q].1 < L[i].1 ↔ t ≤ L[i].1 by rw [HT.out]; exact above HA.out hkx hil)
            have hq0 : (0 : Int) ≤ (q : Int) := by omega
            have hq1 : (q : Int) < (q : Int) + 1 := by omega
            have hw2 : IntKind.i64.wrap (q : Int) = (q : Int) := by rw [IntKind.wrap_i64]; omega
            clear HQ
            by_cases hab : xs[q].1 < L[i].1
            · skip
              have hti := HAB.out.1 hab
              rcases (show b = -1 ∨ ∃ m : Nat, ∃ hm : m < L.length, b = m from HB.out.elim (fun h => .inl h.1) (fun ⟨m, hm, e, _⟩ => .inr ⟨m, hm, e⟩)) with rfl | ⟨m, hm, rfl⟩
              · have HN := Lib.hid (HB.out.take hil hti (fun m hm e => by omega))
                clear hti
                go_wp2_with fail
                go_roundw
                case rel => first | exact ⟨i + 1, by omega, by go_num, Lib.hid ⟨_, rfl, HN.out⟩⟩ | exact ⟨i + 1, by omega, by go_num, Lib.hid ⟨_, rfl, HN.out⟩, by first | rfl | trivial⟩
                case measure => simp [intOf]; omega
              · have e0 := (pair_cells HC.out m hm).1
                have hm0 : (0 : Int) ≤ (m : Int) := by omega
                have hm1 : (m : Int) < (L.length : Int) := by omega
                by_cases hlm : L[i].1 < L[m].1
                · have HN := Lib.hid (HB.out.take hil hti (fun m' hm' e => by
                    obtain rfl : m = m' := by omega
                    exact hlm))
                  clear hti
                  go_wp2_with fail
                  go_roundw
                  case rel => first | exact ⟨i + 1, by omega, by go_num, Lib.hid ⟨_, rfl, HN.out⟩⟩ | exact ⟨i + 1, by omega, by go_num, Lib.hid ⟨_, rfl, HN.out⟩, by first | rfl | trivial⟩
                  case measure => simp [intOf]; omega
                · have HN := Lib.hid (HB.out.keep hm hil hlm)
                  clear hti
                  go_wp2_with fail
                  go_roundw
                  case rel => first | exact ⟨i + 1, by omega, by go_num, Lib.hid ⟨_, rfl, HN.out⟩⟩ | exact ⟨i + 1, by omega, by go_num, Lib.hid ⟨_, rfl, HN.out⟩, by first | rfl | trivial⟩
                  case measure => simp [intOf]; omega
            · have HN := Lib.hid (HB.out.low hil (fun h => hab (HAB.out.2 h)))
              have hle : L[i].1 ≤ xs[q].1 := by omega
              go_wp2_with fail
              go_roundw
              case rel => first | exact ⟨i + 1, by omega, by go_num, Lib.hid ⟨_, rfl, HN.out⟩⟩ | exact ⟨i + 1, by omega, by go_num, Lib.hid ⟨_, rfl, HN.out⟩, by first | rfl | trivial⟩
              case measure => simp [intOf]; omega
        · obtain rfl : i = L.length := by omega
          obtain ⟨m, hm, rfl, hme⟩ := Best.done HA.out hkx (by rw [← HT.out]; exact HB.out)
          obtain ⟨_, ao', cap', hao, _, _, hx⟩ := HRD.out.only HOR.out
          obtain ⟨rfl, _, rfl⟩ : ao = ao' ∧ L.length = L.length ∧ cap2 = cap' := by simpa using hao
          obtain ⟨sb, off, rfl, hc⟩ := hx (by omega)
          obtain ⟨d0, d1⟩ := pair_cells hc m hm
          obtain ⟨p0, p1, hpe⟩ : ∃ p0 p1, xs[k] = ((p0, p1) : PairD) := ⟨_, _, rfl⟩
          rw [hme, hpe] at d0 d1
          have HE := Lib.hid (show xs.take (k + 1) = xs.take k ++ [(p0, p1)] by rw [← hpe]; exact List.take_succ_eq_append_getElem hkx)
          have HTL := Lib.hid (show (xs.take k).length = k by simp; omega)
          have hm0 : (0 : Int) ≤ (m : Int) := by omega
          have hm1 : (m : Int) < (L.length : Int) := by omega
          have HOA := Lib.hid (OwS.framed.alloc HLO.out (.cells #[.int .u64 p0, .int .u64 p1] 46))
          have HRL := Lib.hid (Rd.lit (E := ePair) wr #[.int .u64 p0, .int .u64 p1] 46 (0, 0) 1 1 [(p0, p1)] rfl rfl (by simp) (by simp [maxLen]))
          clear hc hx hao hpe hme HB
          go_wp2_with (at_builtin; refine wl_appendS (E := ePair) rfl _ (.tmp 69) _ rfl 46 16 ePair_slice (fun k => w.heap.size ≤ k) _ (xs.take k) rfl HOA.out _ [(p0, p1)] rfl HRL.out (by have := HTL.out; simp only [List.length_cons, List.length_nil]; omega) (by have := HTL.out; unfold maxLen; simp only [List.length_cons, List.length_nil]; omega) ?_)
          intro v5 w5 h5 hO5
          rw [← HE.out] at h5
          obtain ⟨_, ao5, c5, he5, _⟩ := id h5.1
          obtain rfl : v5 = .slice ao5 (k + 1) c5 := by rw [he5]; simp; omega
          have HO5 := Lib.hid ((HOR.out.tr (Only.alloc _ _ _)).trans hO5 fun k hk h => by omega)
          have hsz := HOR.out.size
          have H5 := Lib.hid (OwS.framed.mono _ (fun k => w.heap.size ≤ k) _ h5 fun k _ h => by
            rcases h with h | h
            · exact h
            · first | omega | (have := size_le_alloc wr (.cells #[.int .u64 p0, .int .u64 p1] 46); omega))
          clear h5 hO5 hsz d0 d1 c1 he5
          go_wp2_with fail
          go_roundw
          case rel => exact ⟨k + 1, c5, ao5, by omega, by go_num, H5, HO5⟩
          case measure => simp [lenOfV]; omega
    · have hE : xs.take k = xs := by rw [List.take_of_length_le (by omega)]
      have HO := HLO.out
      rw [hE] at HO
      have HF := Lib.hid HO
      clear hE HO
      go_wp2_with fail
      go_ret
      exact ⟨_, rfl, HF.out, HOR.out⟩
theorem refPairsL {P X : (Nat → Prop) → World → Prop} {w0 w : World} {x : Nat} {cap : Int} {xs L : List PairD} (hP : Framed P) (hX : Framed X) (h : LSt P (RefS x cap L) X w0 w) (A : Alike cap xs L) :
    Calls Try.prog 22 #[.pointer (some ⟨x, 0, none⟩)] w fun e w' => ∃ v', e = .returned v' ∧ LSt P (RefS x cap L) (fun S w => X S w ∧ OwS ePair 46 S w v' xs) w0 w' := by
  obtain ⟨S, hS⟩ := h.second
  exact (refPairs_any x cap xs L S w A hS).mono fun e w' ⟨v', he, hv, ho⟩ => ⟨v', he, h.newX hP RefS.framed hX OwS.framed hv ho⟩
end Go.Proofs.Ytodacnpbhlkoiaa
