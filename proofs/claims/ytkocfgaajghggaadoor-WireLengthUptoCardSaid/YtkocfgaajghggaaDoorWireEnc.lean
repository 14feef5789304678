/- wire: Encode. -/
import Derived.Test.YtkocfgaajghggaaDoorLSt
import Derived.Test.YtkocfgaajghggaaDoorWireForm
import Derived.Test.YtkocfgaajghggaaDoorLebRefGet
import Derived.Test.YtkocfgaajghggaaDoorOpsRefRight
import Derived.Lib.SlBytesConst
namespace Go.Proofs.YtkocfgaajghggaaDoor
open Go.RowKit
set_option linter.unusedVariables false
set_option linter.unusedSimpArgs false

theorem puts_o (xs : List Int) (v : Value) (w : World) (hv : Rd eU64 w v xs) (hx : ∀ x ∈ xs, 0 ≤ x ∧ x ≤ 18446744073709551615) (hl : xs.length ≤ 1000) :
    Calls Tryd.prog 22 #[v] w fun e w' => ∃ v', e = .returned v' ∧ OwS eU8 5 (fun k => w.heap.size ≤ k) w' v' (lebs xs) ∧ Only (fun _ => False) w w' :=
  (puts_any xs v w hv hx (by omega)).mono fun e w' ⟨v', he, ho, hb⟩ => ⟨v', he, OwS.of_ow ho, Only.of_below hb fun k h1 h2 => by omega⟩
theorem putInts_o (xs : List Int) (v : Value) (w : World) (hv : Rd (eInt .i64) w v xs) (hx : ∀ x ∈ xs, -9223372036854775808 ≤ x ∧ x ≤ 9223372036854775807) (hl : xs.length ≤ 1000) :
    Calls Tryd.prog 17 #[v] w fun e w' => ∃ v', e = .returned v' ∧ OwS eU8 5 (fun k => w.heap.size ≤ k) w' v' (lebs (xs.map zz)) ∧ Only (fun _ => False) w w' :=
  (putInts_any xs v w hv hx (by omega)).mono fun e w' ⟨v', he, ho, hb⟩ => ⟨v', he, OwS.of_ow ho, Only.of_below hb fun k h1 h2 => by omega⟩
/-- append to a full slice that is only read -/
theorem wl_append_full {α : Type} {E : Enc α} {P : Program} {w : World} {ops : Array Oper} {rest : List Oper} {o : Oper} {a : Act} {Q : Exit → Act → World → Prop} (hgd : o.guard = none) (s x : Operand) (t : TypeId)
    (ho : o.op = .call { callee := .builtin .append, args := #[s, x], argTypes := #[t, t] })
    (e bytes : Nat) (hI : SliceInfo P t e E.size bytes) (ao : Option Addr) (cap : Nat) (xs : List α) (hs : a.eval s = .slice ao xs.length cap) (hr0 : Rd E w (.slice ao xs.length cap) xs)
    (u : Value) (ys : List α) (hx : a.eval x = u) (hr : Rd E w u ys) (h0 : 0 < ys.length) (hfull : cap < xs.length + ys.length) (hn0 : 0 < xs.length)
    (hbytes : (5 * (xs.length + ys.length) + 2816) * bytes ≤ 1125899906842624) (h63 : xs.length + ys.length ≤ maxLen)
    (h : ∀ v' w', OwS E e (fun k => w.heap.size ≤ k) w' v' (xs ++ ys) → Only (fun _ => False) w w' → wpList P ops Q rest (a.put o.dst v') w') : wpList P ops Q (o :: rest) a w :=
  wpList_plain hgd fun _ hK => by
    obtain ⟨ht, i, z, hi, hz, hsize, hby, hzs⟩ := hI
    obtain ⟨_, ax, capx, hax, _, hnone, hcx⟩ := hr0
    obtain ⟨rfl, _, rfl⟩ : ao = ax ∧ xs.length = xs.length ∧ cap = capx := by simpa using hax
    obtain ⟨b0, off0, rfl, hcy⟩ := hcx hn0
    obtain ⟨hm, ad, cap2, rfl, hlc, hn, hc⟩ := hr
    obtain ⟨b, off, rfl, hcell⟩ := hc h0
    obtain ⟨v', w', hrun, r1, r2⟩ := run_grow_own (P := P) (w := w) t o.type e i z E.size bytes ht hi hz hsize hby hzs E.pos (some ⟨b0, off0, none⟩) xs.length cap (E.all xs) (E.all_len xs) (fun h => by simp at h) (fun b hb j u hj => by
      obtain rfl : (⟨b0, off0, none⟩ : Addr) = b := by simpa using hb
      rw [Addr.add_lit]; exact hcy j u hj) ⟨b, off, none⟩ ys.length cap2 (E.all ys) (E.all_len ys) (fun j u hj => by rw [Addr.add_lit]; exact hcell j u hj) h0 hfull h63 hbytes
    have ho' : Ow E w.heap.size e w' v' (xs ++ ys) := Ow.of_row (by simpa using h63) (by rw [List.length_append, E.all_append]; exact r1)
    unfold Oper.wp
    simp [execOp, ho, resolve, invoke, builtin, hs, hx, hrun, Result.andThen]
    exact hK _ _ (h v' w' (OwS.of_ow ho') (Only.of_grown r2 (by simp)))
/-- what an append leaves -/
theorem app_done {B : Nat} {wb wr w1 w2 w3 : World} {v3 : Value} {zs : List Int} (hB : B = wb.heap.size) (h0 : Only (fun _ => False) wb wr) (h1 : Only (fun _ => False) wr w1) (h2 : Only (fun _ => False) w1 w2)
    (h3 : OwS eU8 5 (fun k => B ≤ k ∨ w2.heap.size ≤ k) w3 v3 zs) (h4 : Only (fun k => B ≤ k) w2 w3) : OwS eU8 5 (fun k => B ≤ k) w3 v3 zs ∧ Only (fun _ => False) wb w3 := by
  have s0 := h0.size
  have s1 := h1.size
  have s2 := h2.size
  refine ⟨OwS.framed.mono _ _ _ h3 fun k _ h => ?_, ((h0.tr h1).tr h2).trans h4 fun k hk h => by omega⟩
  rcases h with h | h
  · exact h
  · show B ≤ k
    omega
theorem OwS.keep0 {α : Type} {E : Enc α} {ty : Nat} {S : Nat → Prop} {w w' : World} {v : Value} {xs : List α} (h : OwS E ty S w v xs) (ho : Only (fun _ => False) w w') : OwS E ty S w' v xs := OwS.framed.only _ _ _ _ h ho (fun _ _ _ h => h)
theorem one_range {n : Int} (h0 : 0 ≤ n) (h1 : n ≤ 18446744073709551615) : ∀ x ∈ [n], 0 ≤ x ∧ x ≤ 18446744073709551615 := fun x hx => by
  obtain rfl : x = n := by simpa using hx
  exact ⟨h0, h1⟩
theorem four_range {a b c d : Int} (ha : 0 ≤ a ∧ a ≤ 63) (hb : 0 ≤ b ∧ b ≤ 63) (hc : 0 ≤ c ∧ c ≤ 63) (hd : 0 ≤ d ∧ d ≤ 63) : ∀ x ∈ [a, b, c, d], 0 ≤ x ∧ x ≤ 18446744073709551615 := fun x hx => by
  simp only [List.mem_cons, List.not_mem_nil, or_false] at hx
  rcases hx with rfl | rfl | rfl | rfl <;> omega
theorem sone_range {n : Int} (h : -9223372036854775808 ≤ n ∧ n ≤ 9223372036854775807) : ∀ x ∈ [n], -9223372036854775808 ≤ x ∧ x ≤ 9223372036854775807 := fun x hx => by
  obtain rfl : x = n := by simpa using hx
  exact h
def encM (ms : List Int) (k : Nat) : List Int := 84 :: 80 :: 1 :: (leb1 (ms.length : Int) ++ mapsB (ms.take k))
def encC (ms : List Int) (cs : List InstD) (k : Nat) : List Int := encM ms ms.length ++ (leb1 (cs.length : Int) ++ codeB (cs.take k))
theorem encM_step {ms : List Int} {k : Nat} (h : k < ms.length) : encM ms (k + 1) = encM ms k ++ leb1 ms[k] := by
  unfold encM mapsB; rw [List.take_succ_eq_append_getElem h, List.flatMap_append]; simp
theorem encC_zero (ms : List Int) (cs : List InstD) : encC ms cs 0 = encM ms ms.length ++ leb1 (cs.length : Int) := by simp [encC, codeB]
theorem encC_step {ms : List Int} {cs : List InstD} {k : Nat} (h : k < cs.length) : encC ms cs (k + 1) = encC ms cs k ++ lebs [cs[k].1, cs[k].2.1, cs[k].2.2.1, cs[k].2.2.2.1] ++ lebs ([cs[k].2.2.2.2].map zz) := by
  unfold encC codeB; rw [List.take_succ_eq_append_getElem h, List.flatMap_append]; simp [lebs, instB]
theorem encC_all (ms : List Int) (cs : List InstD) : encC ms cs cs.length = encP ms cs := by simp [encC, encM, encP]
theorem encM_len (ms : List Int) (k : Nat) : (encM ms k).length ≤ 13 + 10 * k := by
  unfold encM mapsB
  have h1 := leb1_len (ms.length : Int)
  have h2 := (lebs_len (ms.take k)).2
  unfold lebs at h2
  have h3 : (ms.take k).length ≤ k := by simp; omega
  simp only [List.length_cons, List.length_append]
  omega
theorem codeB_len (cs : List InstD) : (codeB cs).length ≤ 50 * cs.length := by
  induction cs with
  | nil => simp [codeB]
  | cons i cs ih =>
    have h1 := leb1_len i.1
    have h2 := leb1_len i.2.1
    have h3 := leb1_len i.2.2.1
    have h4 := leb1_len i.2.2.2.1
    have h5 := leb1_len (zz i.2.2.2.2)
    have : codeB (i :: cs) = instB i ++ codeB cs := rfl
    rw [this]
    simp only [instB, List.length_append, List.length_cons]
    omega
theorem encC_len (ms : List Int) (cs : List InstD) (k : Nat) : (encC ms cs k).length ≤ 23 + 10 * ms.length + 50 * k := by
  have h1 := encM_len ms ms.length
  have h2 := leb1_len (cs.length : Int)
  have h3 := codeB_len (cs.take k)
  have h4 : (cs.take k).length ≤ k := by simp; omega
  unfold encC
  simp only [List.length_append]
  omega

set_option maxRecDepth 100000 in
set_option maxHeartbeats 4000000 in
theorem encode_bad (ms : List Int) (cs : List InstD) (vm vc : Value) (w : World) (hm : Rd (eInt .i64) w vm ms) (hc : Rd eInst w vc cs) (hF : Forms w) (h : modP ms cs = false) :
    Calls Tryd.prog 11 #[.agg #[vm, vc]] w fun e w' => e = .returned (.tuple #[.slice none 0 0, .int .i64 2]) ∧ Only (fun _ => False) w w' := by
  have HFM := Lib.hid (fun W (h : Rd (eInt .i64) W vm ms) => formed_any ms vm W h)
  have HM := Lib.hid hm
  have HC := Lib.hid hc
  have HF := Lib.hid hF
  obtain ⟨hmx, ao, cap, rfl, hcap, _, _⟩ := hc
  unfold maxLen at hmx
  clear hm hF
  unfold modP at h
  go_enter Tryd.func11, Tryd.ntmps11
  go_wp2_with fail
  obtain ⟨wb, hwb⟩ : ∃ wb, wb = w.alloc (.cells #[vm, .slice ao cs.length cap] 25) := ⟨_, rfl⟩
  have HB := Lib.hid (show wb.heap[w.heap.size]? = some (.cells #[vm, .slice ao cs.length cap] 25 (0, 0)) by rw [hwb]; exact heap_alloc_new w _)
  have HO := Lib.hid (show Only (fun _ => False) w wb by rw [hwb]; exact Only.alloc _ _ _)
  rw [← hwb]
  clear hwb
  have c1 := cells_of_heap HB.out 1 _ rfl
  refine (HFM.out _ (HM.out.only HO.out)).mono ?_
  rintro e w1 ⟨rfl, rfl⟩
  cases hf : formedP ms
  · clear h
    go_wp2_with fail
    go_ret2
    exact ⟨rfl, HO.out⟩
  · rw [hf] at h
    by_cases h1 : cs.length < 1
    · clear h
      have h1' : (cs.length : Int) < 1 := by omega
      go_wp2_with fail
      go_ret2
      exact ⟨rfl, HO.out⟩
    · by_cases h64 : 64 < cs.length
      · clear h
        have h1' : ¬ (cs.length : Int) < 1 := by omega
        have h64' : (64 : Int) < (cs.length : Int) := by omega
        go_wp2_with fail
        go_ret2
        exact ⟨rfl, HO.out⟩
      · have hA : allP cs = false := by
          rw [decide_eq_true (by omega), decide_eq_true (by omega)] at h
          simpa using h
        have HAL := Lib.hid (fun W h h2 => rightAll_any cs (.slice ao cs.length cap) W h h2)
        rw [hA] at HAL
        clear h hA
        have h1' : ¬ (cs.length : Int) < 1 := by omega
        have h64' : ¬ (64 : Int) < (cs.length : Int) := by omega
        go_wp2_with fail
        refine (HAL.out _ (HC.out.only HO.out) (HF.out.only HO.out)).mono ?_
        rintro e w2 ⟨rfl, hO2⟩
        go_wp2_with fail
        go_ret2
        exact ⟨rfl, HO.out.tr hO2⟩
end Go.Proofs.YtkocfgaajghggaaDoor
