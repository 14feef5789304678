/- slices.Insert of one pair into a row of the call's own. -/
import Derived.Test.YtodacnpbhlkoiaaCopy
import Derived.Test.YtodacnpbhlkoiaaInsert3
import Derived.Laws.Externs
namespace Go.Proofs.Ytodacnpbhlkoiaa
open Go.RowKit
set_option linter.unusedVariables false
set_option linter.unusedSimpArgs false

theorem eU64_sl : SliceInfo Try.prog 31 28 eU64.size 8 := SliceInfo.mk' Try.underlying31 (z := .int .u64 0) (by kernel_rfl) rfl
theorem u64_size : (Try.prog.info? 28).map (·.size) = some 1 := by kernel_rfl
/-- a row in its parts -/
theorem urow_split (cur : Array Value) (off i : Nat) (xs : List Int) (hi : i ≤ xs.length) (hs : off + xs.length ≤ cur.size) (ht : (cur.toList.drop off).take (xs.length) = eU64.all xs) :
    ∃ P R, cur.toList = P ++ (eU64.all (xs.take i) ++ (eU64.all (xs.drop i) ++ R)) ∧ P.length = off ∧ off + xs.length + R.length = cur.size := by
  refine ⟨cur.toList.take off, cur.toList.drop (off + xs.length), ?_, by simp; omega, by simp; omega⟩
  have h1 : eU64.all (xs.take i) ++ eU64.all (xs.drop i) = eU64.all xs := by rw [← Enc.all_append, List.take_append_drop]
  rw [← List.append_assoc (eU64.all (xs.take i)), h1, ← ht, ← List.drop_drop, List.take_append_drop, List.take_append_drop]
/-- what Insert leaves of a row -/
def UInsPost (g off n ty : Nat) (size : Nat) (ys : List Value) (w w' : World) : Prop :=
  (∃ cur', w'.heap[g]? = some (.cells cur' ty (0, 0)) ∧ cur'.size = size ∧ (cur'.toList.drop off).take (n) = ys) ∧ Only (fun k => k = g) w w'

set_option maxHeartbeats 400000 in
set_option maxRecDepth 100000 in
theorem uins_room (g off cap i vb : Nat) (cur : Array Value) (xs : List Int) (x : Int) (w : World) (hi : i < xs.length) (hroom : xs.length + 1 ≤ cap) (hcap : cap ≤ 9223372036854775807)
    (hh : w.heap[g]? = some (.cells cur 28 (0, 0))) (hs : off + cap ≤ cur.size) (ht : (cur.toList.drop off).take (xs.length) = eU64.all xs)
    (hvb : w.heap[vb]? = some (.cells #[.int .u64 x] 28 (0, 0))) (hne : vb ≠ g) :
    Calls Try.prog 36 #[.slice (some ⟨g, off, none⟩) xs.length cap, .int .i64 i, .slice (some ⟨vb, 0, none⟩) 1 1] w fun e w' =>
      e = .returned (.slice (some ⟨g, off, none⟩) (xs.length + 1) cap) ∧ UInsPost g off (xs.length + 1) 28 cur.size (eU64.all (xs.take i ++ x :: xs.drop i)) w w' := by
  have hov : ∀ (W : World) lb cb, W.heap[g]? = some (.cells cur 28 (0, 0)) → W.heap[vb]? = some (.cells #[.int .u64 x] 28 (0, 0)) →
      (callFunc 44 #[.slice (some ⟨vb, 0, none⟩) 1 1, .slice (some ⟨g, off + (i + 1), none⟩) lb cb]).run Try.prog W = .ok (.value (.bool false)) W := fun W lb cb h1 h2 => by
    rw [run_callFunc_extern Try.func44 (by kernel_rfl) (by kernel_rfl) (by kernel_rfl) (e := Extern.SlicesOverlaps.overlaps #[31, 31] #[4]) (by kernel_rfl),
      Lib.run_overlaps_apart W 31 4 28 Try.underlying31 1 (fun _ => by kernel_rfl) ⟨vb, 0, none⟩ ⟨g, off + (i + 1), none⟩ 1 1 lb cb hne 28 28 1 cur.size
        (by simp [World.shape?, h2]) (by simp [World.shape?, h1]) (by omega) (by simp [World.frozen?, h2]) (by simp [World.frozen?, h2])]
    rfl
  obtain ⟨n, hn⟩ : ∃ n, n = xs.length := ⟨_, rfl⟩
  obtain ⟨P, R, hcur, hP, hR⟩ := urow_split cur off i xs (by omega) (by omega) ht
  have hAl : (eU64.all (xs.take i)).length = i := by have h : (eU64.all (xs.take i)).length = (xs.take i).length * 1 := eU64.all_len _; rw [h, List.length_take]; omega
  have hBl : (eU64.all (xs.drop i)).length = (n - i) := by have h : (eU64.all (xs.drop i)).length = (xs.drop i).length * 1 := eU64.all_len _; rw [h, List.length_drop]; omega
  have hall : eU64.all (xs.take i ++ x :: xs.drop i) = eU64.all (xs.take i) ++ (eU64.cells x ++ eU64.all (xs.drop i)) := by rw [Enc.all_append, Enc.all_cons]
  have hBone := eU64.all_one (xs.drop i)
  have hXone := eU64.one x
  have hXl : (eU64.cells x).length = 1 := rfl
  have hsz2 : cur.toList.length = cur.size := by simp
  rw [hall]
  clear hall ht
  rw [← hn] at hi hroom hR ⊢
  obtain ⟨A, hA⟩ : ∃ A, A = eU64.all (xs.take i) := ⟨_, rfl⟩
  obtain ⟨B, hB⟩ : ∃ B, B = eU64.all (xs.drop i) := ⟨_, rfl⟩
  rw [← hA, ← hB] at hcur ⊢
  rw [← hA] at hAl
  rw [← hB] at hBl hBone
  clear hA hB hn
  obtain ⟨w1, cur1, hr1, hh1, hc1, ho1⟩ := run_copyE (P := Try.prog) w.drew 31 31 28 1 g (off + (i + 1)) (n - i) ⟨g, off + i, none⟩ cur 28 B Try.underlying31 u64_size hh (hBl.trans (Nat.mul_one _).symm)
    (fun j v hj => by rw [Addr.add_lit]; exact cell_split (w := w.drew) hh hcur (off + i) (by omega) j v hj) (by omega) hBone
  have hl1 : cur1.toList.length = cur1.size := by simp
  have hs1 : cur1.size = cur.size := by rw [← hl1, hc1, lay_len _ _ _ (by rw [hsz2]; omega), hsz2]
  obtain ⟨w2, cur2, hr2, hh2, hc2, ho2⟩ := run_copyE (P := Try.prog) w1 31 31 28 1 g (off + i) 1 ⟨vb, 0, none⟩ cur1 28 (eU64.cells x) Try.underlying31 u64_size hh1 rfl
    (fun j v hj => by
      rw [Addr.add_lit, cell_of_row w1 vb _ _ _ _ (ho1.heap (w := w.drew) hvb (fun h => hne h)), Nat.zero_add]
      exact (Array.getElem?_toList).symm.trans hj) (by rw [hs1, hXl]; omega) hXone
  have hl2 : cur2.toList.length = cur2.size := by simp
  have hs2 : cur2.size = cur.size := by rw [← hl2, hc2, lay_len _ _ _ (by rw [hl1, hs1, hXl]; omega), hl1, hs1]
  have hT : (cur2.toList.drop off).take ((n + 1)) = A ++ (eU64.cells x ++ B) := by
    have h := ins_cells P A B R (eU64.cells x) (by rw [hXl]; omega) cur.toList hcur
    rw [hXl, hP, hAl, hBl, show off + i + 1 = off + (i + 1) by omega, ← hc1, ← hc2, show i + 1 + (n - i) = (n + 1) by omega] at h
    exact h
  have HP := Lib.hid (show (∃ cur', w2.heap[g]? = some (.cells cur' 28 (0, 0)) ∧ cur'.size = cur.size ∧ (cur'.toList.drop off).take ((n + 1)) = A ++ (eU64.cells x ++ B)) ∧ Only (fun k => k = g) w w2 from
    ⟨⟨cur2, hh2, hs2, hT⟩, ((Only.refl _ w).drew_.tr ho1).tr ho2⟩)
  have HR1 := Lib.hid hr1
  have HR2 := Lib.hid hr2
  have hb1 : (0 : Int) ≤ (i : Int) + 1 := by omega
  have hin : i ≤ n := by omega
  have hb2 : ¬ cap = i + 1 := by omega
  have hb4 : ¬ cap = i := by omega
  have hb3 : (i : Int) ≤ (n : Int) + 1 := by omega
  have hb5 : i ≤ n + 1 := by omega
  clear hr1 hh1 hc1 ho1 hl1 hs1 hr2 hh2 hc2 ho2 hl2 hs2 hT hcur hP hR hAl hBl hBone hXone hXl hsz2
  have HOV := Lib.hid (fun lb cb => hov w lb cb hh hvb)
  have hz2 : ¬ ((i : Int) = (n : Int)) := by omega
  have hz3 : ((i : Int) == (n : Int)) = false := by simp; omega
  have hw1 : IntKind.i64.wrap ((i : Int) + 1) = (i : Int) + 1 := by rw [IntKind.wrap_i64]; omega
  have hw2 : IntKind.i64.wrap ((n : Int) + 1) = (n : Int) + 1 := by rw [IntKind.wrap_i64]; omega
  have htn : ((i : Int) + 1).toNat = i + 1 := by omega
  have htn2 : ((n : Int) + 1).toNat = n + 1 := by omega
  have HH := Lib.hid hh
  have HVB := Lib.hid hvb
  clear hov hh hvb
  go_enter Try.func36, Try.ntmps36
  go_wp2_with (simp only [HOV.out])
  go_region_law (refine step_copyE rfl (.tmp 73) (.tmp 76) 31 31 rfl _ _ (by simp [Act.eval, Act.put]) (by simp [Act.eval, Act.put]) (HR1.out _ (n - i) (cap - (i + 1)) (n + 1 - i) (cap - i) (by simp only [Nat.min_def]; split <;> omega)) ?_)
  go_wp2_with (refine wl_copyE rfl _ _ 31 31 rfl _ _ rfl rfl (HR2.out _ (n + 1 - i) (cap - i) 1 1 (by simp only [Nat.min_def]; split <;> omega)) ?_)
  go_ret
  exact ⟨rfl, HP.out⟩
end Go.Proofs.Ytodacnpbhlkoiaa
