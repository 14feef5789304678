/- ops: the reference's Reads, walked. -/
import Derived.Test.YtjmjmgemhkjomaaDoorOpsRefReads
import Derived.Test.YtjmjmgemhkjomaaDoorOpsRightLaw
namespace Go.Proofs.YtjmjmgemhkjomaaDoor
open Go.RowKit
set_option linter.unusedVariables false
set_option linter.unusedSimpArgs false

/-- the flags, in cells -/
def IsArr (cs : Array Value) (f : Nat → Bool) : Prop := cs.size = 8 ∧ ∀ r, r < 8 → cs[r]? = some (.bool (f r))
theorem IsArr.set {cs : Array Value} {f : Nat → Bool} (h : IsArr cs f) (n : Nat) (hn : n < 8) : IsArr (cs.setIfInBounds n (.bool true)) (fun r => f r || n == r) := by
  refine ⟨by simpa using h.1, fun r hr => ?_⟩
  rw [Array.getElem?_setIfInBounds]
  by_cases e : n = r
  · subst e; rw [if_pos rfl, if_pos (by rw [h.1]; exact hn)]; simp
  · rw [if_neg e, h.2 r hr]; simp [e]
theorem IsArr.zero : IsArr #[.bool false, .bool false, .bool false, .bool false, .bool false, .bool false, .bool false, .bool false] (fun _ => false) :=
  ⟨rfl, fun r hr => match r, hr with
    | 0, _ | 1, _ | 2, _ | 3, _ | 4, _ | 5, _ | 6, _ | 7, _ => rfl
    | n + 8, h => absurd h (by omega)⟩
theorem IsArr.congr {cs : Array Value} {f g : Nat → Bool} (h : IsArr cs f) (e : ∀ r, f r = g r) : IsArr cs g := by
  rw [show g = f from funext fun r => (e r).symm]; exact h
/-- the flags' block, and what is else as it was -/
structure FState (w : World) (g : Nat) (f : Nat → Bool) (wr : World) : Prop where
  arr : ∃ cs, wr.heap[g]? = some (.cells cs 53 (0, 0)) ∧ IsArr cs f
  hw : w.heap.size ≤ g
  only : Only (fun _ => False) w wr
theorem FState.set {w wr : World} {g : Nat} {f : Nat → Bool} (h : FState w g f wr) (n : Nat) (hn : n < 8) : FState w g (fun r => f r || n == r) (wr.setCell ⟨g, n, none⟩ (.bool true)) := by
  obtain ⟨cs, hb, ha⟩ := h.arr
  exact ⟨⟨_, heap_setCell_same wr g n _ _ _ hb, ha.set n hn⟩, h.hw, only_set h.only h.hw _ _⟩
theorem FState.on {w wr w' : World} {g : Nat} {f : Nat → Bool} (h : FState w g f wr) (ho : Only (fun _ => False) wr w') : FState w g f w' := by
  obtain ⟨cs, hb, ha⟩ := h.arr
  exact ⟨⟨cs, ho.heap hb (fun h => h), ha⟩, h.hw, h.only.tr ho⟩

theorem FState.congr {w wr : World} {g : Nat} {f h : Nat → Bool} (V : FState w g f wr) (e : ∀ r, h r = f r) : FState w g h wr := by
  rw [show h = f from funext e]; exact V
theorem FState.over {w wr w' : World} {g : Nat} {f : Nat → Bool} {o : Obj} (h : FState w g f wr) (ho : Only (fun j => g < j) (wr.alloc o) w') : FState w g f w' := by
  obtain ⟨cs, hb, ha⟩ := h.arr
  refine ⟨⟨cs, ho.heap (heap_alloc hb) (fun h => Nat.lt_irrefl _ h), ha⟩, h.hw, ?_⟩
  have := h.hw
  exact (h.only.tr (Only.alloc _ _ _)).trans ho fun j hj h => by omega
theorem IsArr.listSet (n : Nat) (hn : n < 8) : IsArr ([Value.bool false, .bool false, .bool false, .bool false, .bool false, .bool false, .bool false, .bool false].set n (.bool true)).toArray (fun r => n == r) := by
  have h := IsArr.zero.set n hn
  rw [List.setIfInBounds_toArray] at h
  exact h.congr fun r => by simp
theorem sliceI : SliceInfo Tryd.prog 37 3 (eInt .i64).size 8 := SliceInfo.mk' Tryd.underlying37 (z := .int .i64 0) (by kernel_rfl) rfl
theorem OwS.base {α : Type} {E : Enc α} {ty b : Nat} {S : Nat → Prop} {w : World} {v : Value} {xs : List α} (h : OwS E ty S w v xs) (hS : ∀ k, S k → b ≤ k) : Ow E b ty w v xs := by
  obtain ⟨⟨hn, ao, cap, rfl, h1, h2, h3, hx⟩, hs⟩ := h
  refine ⟨hn, ao, cap, rfl, h1, h2, h3, fun a ha => ?_⟩
  obtain ⟨g, off, cur, rfl, hg, r⟩ := hx a ha
  subst ha
  exact ⟨g, off, cur, rfl, hS g (hs g rfl), r⟩
theorem oneInt (w : World) (k : Int) : Rd (eInt .i64) (w.alloc (.cells #[.int .i64 k] 3)) (.slice (some ⟨w.heap.size, 0, none⟩) 1 1) [k] := Rd.lit w #[.int .i64 k] 3 (0, 0) 1 1 [k] rfl rfl (Nat.le_refl _) (by decide)

def listTo (f : Nat → Bool) (k : Nat) : List Int := ((List.range k).filter f).map fun (r : Nat) => (r : Int)
theorem listTo_len (f : Nat → Bool) (k : Nat) : (listTo f k).length ≤ k := by
  unfold listTo; rw [List.length_map]
  have := List.length_filter_le f (List.range k); simpa using this
theorem listTo_yes {f : Nat → Bool} {k : Nat} (h : f k = true) : listTo f (k + 1) = listTo f k ++ [(k : Int)] := by
  unfold listTo; rw [List.range_succ, List.filter_append, List.map_append]; simp [h]
theorem listTo_no {f : Nat → Bool} {k : Nat} (h : f k = false) : listTo f (k + 1) = listTo f k := by
  unfold listTo; rw [List.range_succ, List.filter_append, List.map_append]; simp [h]

theorem refReads_no (i : In) (h : rightR i = false) (w : World) :
    Calls Tryd.prog 17 #[i.v] w fun e w' => e = .returned (.slice none 0 0) ∧ Only (fun _ => False) w w' := by
  have HR := Lib.hid (fun W => refRight_b i _ h W)
  clear h
  obtain ⟨op, d, a, b, imm⟩ := i
  go_enter Tryd.func17, Tryd.ntmps17
  go_wp2_with fail
  refine (HR.out _).mono ?_
  rintro e w1 ⟨rfl, ho⟩
  go_wp2_with fail
  go_ret
  exact ⟨rfl, (Only.alloc _ w _).tr ho⟩

/-- the operation's kinds -/
theorem kinds (op : Int) : ∃ b3 b12 bj b20 b22 : Bool, threeR op = b3 ∧ (op == 12) = b12 ∧ jumpR op = bj ∧ (op == 20) = b20 ∧ (op == 22) = b22 ∧ fA op = (b3 || b12 || bj || b20 || b22) ∧
    ((b3, b12, bj, b20, b22) = (true, false, false, false, false) ∨ (b3, b12, bj, b20, b22) = (false, true, false, false, false) ∨ (b3, b12, bj, b20, b22) = (false, false, true, false, false) ∨
      (b3, b12, bj, b20, b22) = (false, false, false, true, false) ∨ (b3, b12, bj, b20, b22) = (false, false, false, false, true) ∨ (b3, b12, bj, b20, b22) = (false, false, false, false, false)) := by
  refine ⟨_, _, _, _, _, rfl, rfl, rfl, rfl, rfl, rfl, ?_⟩
  by_cases h3 : 1 ≤ op ∧ op ≤ 10
  · left; rw [three_in op h3]; simp [jumpR]; omega
  by_cases h12 : op = 12
  · subst h12; right; left; decide
  by_cases hj : 16 ≤ op ∧ op ≤ 19
  · right; right; left; rw [jump_in op hj]; simp [threeR]; omega
  by_cases h20 : op = 20
  · subst h20; right; right; right; left; decide
  by_cases h22 : op = 22
  · subst h22; right; right; right; right; left; decide
  right; right; right; right; right
  simp [threeR, jumpR]; omega

set_option maxRecDepth 100000 in
set_option maxHeartbeats 8000000 in
theorem refReads_true_n (op d a b imm : Int) (hr : rightR ⟨op, d, a, b, imm⟩ = true) (hf : fA op = true) (hsc : sourceR ⟨op, d, a, b, imm⟩ = false) (hb : True) (w : World) :
    Calls Tryd.prog 17 #[(In.mk op d a b imm).v] w fun e w' => ∃ v, e = .returned v ∧ Ow (eInt .i64) w.heap.size 3 w' v (readsR ⟨op, d, a, b, imm⟩) ∧ Only (fun _ => False) w w' := by
  have HR := Lib.hid (fun W => refRight_b ⟨op, d, a, b, imm⟩ _ hr W)
  obtain ⟨b3, b12, bj, b20, b22, h3, h12, hj, h20, h22, hfa, hk⟩ := kinds op
  have HP := Lib.hid (show readsR ⟨op, d, a, b, imm⟩ = listTo (isAt ⟨op, d, a, b, imm⟩) 8 from by unfold readsR listTo; rw [hr]; rfl)
  rw [HP.out]
  obtain ⟨na, hna, ha8⟩ : ∃ na : Nat, a = (na : Int) ∧ na < 8 := by
    have := right_a hr (show fA op = true from hf)
    exact ⟨a.toNat, by dsimp only at this; omega, by dsimp only at this; omega⟩
  subst hna
  generalize hf0 : isAt ⟨op, d, (na : Int), b, imm⟩ = f
  have HAT := Lib.hid (show ∀ r, f r = (na == r) from fun r => by rw [← hf0]; unfold isAt fS; dsimp only; rw [hf, hsc]; simp [true_and, cast_beq])
  have HSC := Lib.hid hsc
  have H3 := Lib.hid h3
  have HJ := Lib.hid hj
  rw [hf] at hfa
  clear hr hf hsc h3 hj HP hf0
  rcases hk with hk | hk | hk | hk | hk | hk
  all_goals
    simp only [Prod.mk.injEq] at hk
    obtain ⟨rfl, rfl, rfl, rfl, rfl⟩ := hk
  all_goals try (exfalso; revert hfa; decide)
  all_goals
    clear hfa
    go_enter Tryd.func17, Tryd.ntmps17
    go_wp2_with fail
    refine (HR.out _).mono ?_
    rintro e w1 ⟨rfl, ho⟩
    have hb1 := ho.heap (heap_alloc_new w _) (fun h => h)
    have hz1 : w.heap.size < w1.heap.size := heap_lt hb1
    have c0 := cells_of_heap hb1 0 (.int .i64 op) rfl
    have c1 := cells_of_heap hb1 1 (.int .i64 d) rfl
    have c2 := cells_of_heap hb1 2 (.int .i64 (na : Int)) rfl
    have c3 := cells_of_heap hb1 3 (.int .i64 b) rfl
    have c4 := cells_of_heap hb1 4 (.int .i64 imm) rfl
    have HO := Lib.hid ((Only.alloc _ w _).tr ho)
    have HB1 := Lib.hid hb1
    have n1 : ¬ w1.heap.size = w.heap.size := by omega
    have n2 : ¬ w.heap.size = w1.heap.size := by omega
    have HF0 := Lib.hid (show FState w w1.heap.size (fun r => na == r) (w1.alloc (.cells ([Value.bool false, .bool false, .bool false, .bool false, .bool false, .bool false, .bool false, .bool false].set na (.bool true)).toArray 53)) from ⟨⟨_, heap_alloc_new _ _, IsArr.listSet na ha8⟩, by omega, HO.out.tr (Only.alloc _ _ _)⟩)
    clear ho hb1
    go_wp2_with (first | (go_at_call 26; refine (three_b _ _ H3.out _).mono ?_; rintro e w2 ⟨rfl, rfl⟩) | (go_at_call 27; refine (jump_b _ _ HJ.out _).mono ?_; rintro e w2 ⟨rfl, rfl⟩))
    refine (refSource_b ⟨op, d, (na : Int), b, imm⟩ _ HSC.out _).mono ?_
    rintro e w3 ⟨rfl, ho3⟩
    have hb3 := ho3.heap (heap_alloc HB1.out) (fun h => h)
    have d3 := cells_of_heap hb3 3 (.int .i64 b) rfl
    have V3 := HF0.out.on ho3
    have hz3 := heap_lt hb3
    clear c0 c1 c2 c3 c4 ho3 hb3
    have HV := Lib.hid (V3.congr (h := f) fun r => by rw [HAT.out r])
    clear V3
    go_wp2_with fail
    go_loopw [5, 6] (fun v t wr => ∃ k : Nat, k ≤ 8 ∧ t = .int .i64 k ∧ OwS (eInt .i64) 3 (fun j => w1.heap.size < j) wr v (listTo f k) ∧ FState w w1.heap.size f wr) (fun _ t _ => 8 - (intOf t).toNat)
    case atStart => exact ⟨0, by omega, rfl, OwS.nil _ _, HV.out⟩
    case round =>
      obtain ⟨k, hk, rfl, how, V⟩ := hrel
      by_cases hlt : k < 8
      · obtain ⟨cs2, hbk2, hA2⟩ := V.arr
        have q2 := cells_of_heap hbk2 k _ (hA2.2 k hlt)
        have hz2 := heap_lt hbk2
        have hi0 : (0 : Int) ≤ (k : Int) := by omega
        have hi1 : (k : Int) < 8 := by omega
        clear hbk2 hA2
        cases hfk : f k
        · rw [hfk] at q2
          have HL := Lib.hid (listTo_no hfk)
          have HW := Lib.hid how
          have HV2 := Lib.hid V
          clear how V hfk
          go_wp2_with fail
          go_roundw
          case rel => exact ⟨k + 1, by omega, by go_num, by rw [HL.out]; exact HW.out, HV2.out⟩
          case measure => simp [intOf]; omega
        · rw [hfk] at q2
          have HL := Lib.hid (listTo_yes hfk)
          have hll := listTo_len f k
          have HV2 := Lib.hid V
          have hob := OwS.framed.alloc how (.cells #[.int .i64 (k : Int)] 3)
          have hrd := oneInt wr (k : Int)
          clear how V hfk
          go_wp2_with (at_builtin; refine wl_appendS (E := eInt .i64) rfl _ (.tmp 52) _ rfl 3 8 sliceI _ _ (listTo f k) rfl hob _ [(k : Int)] rfl hrd (by simp; omega) (by unfold maxLen; simp; omega) ?_)
          intro v2 w4 hn4 hO4
          have HV4 := Lib.hid (HV2.out.over hO4)
          have hn4 := OwS.framed.mono _ (fun j => w1.heap.size < j) _ hn4 fun j _ h => h.elim id fun h => by first | omega | (simp at h; omega)
          rw [← HL.out] at hn4
          have HW := Lib.hid hn4
          clear hob hrd hn4 hO4
          go_wp2_with fail
          go_roundw
          case rel => exact ⟨k + 1, by omega, by go_num, HW.out, HV4.out⟩
          case measure => simp [intOf]; omega
      · obtain rfl : k = 8 := by omega
        have HW := Lib.hid (how.base (b := w.heap.size) fun j h => by have : w1.heap.size < j := h; omega)
        have HO9 := Lib.hid V.only
        clear how V
        go_wp2_with fail
        go_ret
        refine ⟨_, rfl, ?_, HO9.out⟩
        first | exact HW.out | simpa using HW.out

set_option maxRecDepth 100000 in
set_option maxHeartbeats 8000000 in
theorem refReads_true_ge (op d a b imm : Int) (hr : rightR ⟨op, d, a, b, imm⟩ = true) (hf : fA op = true) (hsc : sourceR ⟨op, d, a, b, imm⟩ = true) (hb : ¬ b < 8) (w : World) :
    Calls Tryd.prog 17 #[(In.mk op d a b imm).v] w fun e w' => ∃ v, e = .returned v ∧ Ow (eInt .i64) w.heap.size 3 w' v (readsR ⟨op, d, a, b, imm⟩) ∧ Only (fun _ => False) w w' := by
  have HR := Lib.hid (fun W => refRight_b ⟨op, d, a, b, imm⟩ _ hr W)
  obtain ⟨b3, b12, bj, b20, b22, h3, h12, hj, h20, h22, hfa, hk⟩ := kinds op
  have HP := Lib.hid (show readsR ⟨op, d, a, b, imm⟩ = listTo (isAt ⟨op, d, a, b, imm⟩) 8 from by unfold readsR listTo; rw [hr]; rfl)
  rw [HP.out]
  obtain ⟨na, hna, ha8⟩ : ∃ na : Nat, a = (na : Int) ∧ na < 8 := by
    have := right_a hr (show fA op = true from hf)
    exact ⟨a.toNat, by dsimp only at this; omega, by dsimp only at this; omega⟩
  subst hna
  generalize hf0 : isAt ⟨op, d, (na : Int), b, imm⟩ = f
  have HAT := Lib.hid (show ∀ r, f r = (na == r) from fun r => by rw [← hf0]; unfold isAt fS; dsimp only; rw [hf, hsc]; simp [hb, cast_beq])
  have HSC := Lib.hid hsc
  have H3 := Lib.hid h3
  have HJ := Lib.hid hj
  rw [hf] at hfa
  clear hr hf hsc h3 hj HP hf0
  rcases hk with hk | hk | hk | hk | hk | hk
  all_goals
    simp only [Prod.mk.injEq] at hk
    obtain ⟨rfl, rfl, rfl, rfl, rfl⟩ := hk
  all_goals try (exfalso; revert hfa; decide)
  all_goals
    clear hfa
    go_enter Tryd.func17, Tryd.ntmps17
    go_wp2_with fail
    refine (HR.out _).mono ?_
    rintro e w1 ⟨rfl, ho⟩
    have hb1 := ho.heap (heap_alloc_new w _) (fun h => h)
    have hz1 : w.heap.size < w1.heap.size := heap_lt hb1
    have c0 := cells_of_heap hb1 0 (.int .i64 op) rfl
    have c1 := cells_of_heap hb1 1 (.int .i64 d) rfl
    have c2 := cells_of_heap hb1 2 (.int .i64 (na : Int)) rfl
    have c3 := cells_of_heap hb1 3 (.int .i64 b) rfl
    have c4 := cells_of_heap hb1 4 (.int .i64 imm) rfl
    have HO := Lib.hid ((Only.alloc _ w _).tr ho)
    have HB1 := Lib.hid hb1
    have n1 : ¬ w1.heap.size = w.heap.size := by omega
    have n2 : ¬ w.heap.size = w1.heap.size := by omega
    have HF0 := Lib.hid (show FState w w1.heap.size (fun r => na == r) (w1.alloc (.cells ([Value.bool false, .bool false, .bool false, .bool false, .bool false, .bool false, .bool false, .bool false].set na (.bool true)).toArray 53)) from ⟨⟨_, heap_alloc_new _ _, IsArr.listSet na ha8⟩, by omega, HO.out.tr (Only.alloc _ _ _)⟩)
    clear ho hb1
    go_wp2_with (first | (go_at_call 26; refine (three_b _ _ H3.out _).mono ?_; rintro e w2 ⟨rfl, rfl⟩) | (go_at_call 27; refine (jump_b _ _ HJ.out _).mono ?_; rintro e w2 ⟨rfl, rfl⟩))
    refine (refSource_b ⟨op, d, (na : Int), b, imm⟩ _ HSC.out _).mono ?_
    rintro e w3 ⟨rfl, ho3⟩
    have hb3 := ho3.heap (heap_alloc HB1.out) (fun h => h)
    have d3 := cells_of_heap hb3 3 (.int .i64 b) rfl
    have V3 := HF0.out.on ho3
    have hz3 := heap_lt hb3
    clear c0 c1 c2 c3 c4 ho3 hb3
    have HV := Lib.hid (V3.congr (h := f) fun r => by rw [HAT.out r])
    clear V3
    go_wp2_with fail
    go_loopw [5, 6] (fun v t wr => ∃ k : Nat, k ≤ 8 ∧ t = .int .i64 k ∧ OwS (eInt .i64) 3 (fun j => w1.heap.size < j) wr v (listTo f k) ∧ FState w w1.heap.size f wr) (fun _ t _ => 8 - (intOf t).toNat)
    case atStart => exact ⟨0, by omega, rfl, OwS.nil _ _, HV.out⟩
    case round =>
      obtain ⟨k, hk, rfl, how, V⟩ := hrel
      by_cases hlt : k < 8
      · obtain ⟨cs2, hbk2, hA2⟩ := V.arr
        have q2 := cells_of_heap hbk2 k _ (hA2.2 k hlt)
        have hz2 := heap_lt hbk2
        have hi0 : (0 : Int) ≤ (k : Int) := by omega
        have hi1 : (k : Int) < 8 := by omega
        clear hbk2 hA2
        cases hfk : f k
        · rw [hfk] at q2
          have HL := Lib.hid (listTo_no hfk)
          have HW := Lib.hid how
          have HV2 := Lib.hid V
          clear how V hfk
          go_wp2_with fail
          go_roundw
          case rel => exact ⟨k + 1, by omega, by go_num, by rw [HL.out]; exact HW.out, HV2.out⟩
          case measure => simp [intOf]; omega
        · rw [hfk] at q2
          have HL := Lib.hid (listTo_yes hfk)
          have hll := listTo_len f k
          have HV2 := Lib.hid V
          have hob := OwS.framed.alloc how (.cells #[.int .i64 (k : Int)] 3)
          have hrd := oneInt wr (k : Int)
          clear how V hfk
          go_wp2_with (at_builtin; refine wl_appendS (E := eInt .i64) rfl _ (.tmp 52) _ rfl 3 8 sliceI _ _ (listTo f k) rfl hob _ [(k : Int)] rfl hrd (by simp; omega) (by unfold maxLen; simp; omega) ?_)
          intro v2 w4 hn4 hO4
          have HV4 := Lib.hid (HV2.out.over hO4)
          have hn4 := OwS.framed.mono _ (fun j => w1.heap.size < j) _ hn4 fun j _ h => h.elim id fun h => by first | omega | (simp at h; omega)
          rw [← HL.out] at hn4
          have HW := Lib.hid hn4
          clear hob hrd hn4 hO4
          go_wp2_with fail
          go_roundw
          case rel => exact ⟨k + 1, by omega, by go_num, HW.out, HV4.out⟩
          case measure => simp [intOf]; omega
      · obtain rfl : k = 8 := by omega
        have HW := Lib.hid (how.base (b := w.heap.size) fun j h => by have : w1.heap.size < j := h; omega)
        have HO9 := Lib.hid V.only
        clear how V
        go_wp2_with fail
        go_ret
        refine ⟨_, rfl, ?_, HO9.out⟩
        first | exact HW.out | simpa using HW.out

set_option maxRecDepth 100000 in
set_option maxHeartbeats 8000000 in
theorem refReads_true_lt (op d a b imm : Int) (hr : rightR ⟨op, d, a, b, imm⟩ = true) (hf : fA op = true) (hsc : sourceR ⟨op, d, a, b, imm⟩ = true) (hb : b < 8) (w : World) :
    Calls Tryd.prog 17 #[(In.mk op d a b imm).v] w fun e w' => ∃ v, e = .returned v ∧ Ow (eInt .i64) w.heap.size 3 w' v (readsR ⟨op, d, a, b, imm⟩) ∧ Only (fun _ => False) w w' := by
  have HR := Lib.hid (fun W => refRight_b ⟨op, d, a, b, imm⟩ _ hr W)
  obtain ⟨b3, b12, bj, b20, b22, h3, h12, hj, h20, h22, hfa, hk⟩ := kinds op
  have HP := Lib.hid (show readsR ⟨op, d, a, b, imm⟩ = listTo (isAt ⟨op, d, a, b, imm⟩) 8 from by unfold readsR listTo; rw [hr]; rfl)
  rw [HP.out]
  obtain ⟨na, hna, ha8⟩ : ∃ na : Nat, a = (na : Int) ∧ na < 8 := by
    have := right_a hr (show fA op = true from hf)
    exact ⟨a.toNat, by dsimp only at this; omega, by dsimp only at this; omega⟩
  subst hna
  obtain ⟨nb, hnb, hb8⟩ : ∃ nb : Nat, b = (nb : Int) ∧ nb < 8 := by
    have := right_s (i := ⟨op, d, na, b, imm⟩) (by unfold fS; rw [hsc]; simpa using hb)
    exact ⟨b.toNat, by dsimp only at this; omega, by dsimp only at this; omega⟩
  subst hnb
  generalize hf0 : isAt ⟨op, d, (na : Int), (nb : Int), imm⟩ = f
  have HAT := Lib.hid (show ∀ r, f r = (na == r || nb == r) from fun r => by rw [← hf0]; unfold isAt fS; dsimp only; rw [hf, hsc]; simp [hb, cast_beq])
  have HSC := Lib.hid hsc
  have H3 := Lib.hid h3
  have HJ := Lib.hid hj
  rw [hf] at hfa
  clear hr hf hsc h3 hj HP hf0
  rcases hk with hk | hk | hk | hk | hk | hk
  all_goals
    simp only [Prod.mk.injEq] at hk
    obtain ⟨rfl, rfl, rfl, rfl, rfl⟩ := hk
  all_goals try (exfalso; revert hfa; decide)
  all_goals
    clear hfa
    go_enter Tryd.func17, Tryd.ntmps17
    go_wp2_with fail
    refine (HR.out _).mono ?_
    rintro e w1 ⟨rfl, ho⟩
    have hb1 := ho.heap (heap_alloc_new w _) (fun h => h)
    have hz1 : w.heap.size < w1.heap.size := heap_lt hb1
    have c0 := cells_of_heap hb1 0 (.int .i64 op) rfl
    have c1 := cells_of_heap hb1 1 (.int .i64 d) rfl
    have c2 := cells_of_heap hb1 2 (.int .i64 (na : Int)) rfl
    have c3 := cells_of_heap hb1 3 (.int .i64 (nb : Int)) rfl
    have c4 := cells_of_heap hb1 4 (.int .i64 imm) rfl
    have HO := Lib.hid ((Only.alloc _ w _).tr ho)
    have HB1 := Lib.hid hb1
    have n1 : ¬ w1.heap.size = w.heap.size := by omega
    have n2 : ¬ w.heap.size = w1.heap.size := by omega
    have HF0 := Lib.hid (show FState w w1.heap.size (fun r => na == r) (w1.alloc (.cells ([Value.bool false, .bool false, .bool false, .bool false, .bool false, .bool false, .bool false, .bool false].set na (.bool true)).toArray 53)) from ⟨⟨_, heap_alloc_new _ _, IsArr.listSet na ha8⟩, by omega, HO.out.tr (Only.alloc _ _ _)⟩)
    clear ho hb1
    go_wp2_with (first | (go_at_call 26; refine (three_b _ _ H3.out _).mono ?_; rintro e w2 ⟨rfl, rfl⟩) | (go_at_call 27; refine (jump_b _ _ HJ.out _).mono ?_; rintro e w2 ⟨rfl, rfl⟩))
    refine (refSource_b ⟨op, d, (na : Int), (nb : Int), imm⟩ _ HSC.out _).mono ?_
    rintro e w3 ⟨rfl, ho3⟩
    have hb3 := ho3.heap (heap_alloc HB1.out) (fun h => h)
    have d3 := cells_of_heap hb3 3 (.int .i64 (nb : Int)) rfl
    have V3 := HF0.out.on ho3
    have hz3 := heap_lt hb3
    clear c0 c1 c2 c3 c4 ho3 hb3
    obtain ⟨cs, hbk, hA⟩ := V3.arr
    have q := cells_of_heap hbk nb _ (hA.2 nb hb8)
    have fz := frozen_of_row w3 w1.heap.size nb _ _ hbk
    have HV := Lib.hid ((V3.set nb hb8).congr (h := f) fun r => by rw [HAT.out r])
    clear hbk hA V3
    go_wp2_with fail
    go_loopw [5, 6] (fun v t wr => ∃ k : Nat, k ≤ 8 ∧ t = .int .i64 k ∧ OwS (eInt .i64) 3 (fun j => w1.heap.size < j) wr v (listTo f k) ∧ FState w w1.heap.size f wr) (fun _ t _ => 8 - (intOf t).toNat)
    case atStart => exact ⟨0, by omega, rfl, OwS.nil _ _, HV.out⟩
    case round =>
      obtain ⟨k, hk, rfl, how, V⟩ := hrel
      by_cases hlt : k < 8
      · obtain ⟨cs2, hbk2, hA2⟩ := V.arr
        have q2 := cells_of_heap hbk2 k _ (hA2.2 k hlt)
        have hz2 := heap_lt hbk2
        have hi0 : (0 : Int) ≤ (k : Int) := by omega
        have hi1 : (k : Int) < 8 := by omega
        clear hbk2 hA2
        cases hfk : f k
        · rw [hfk] at q2
          have HL := Lib.hid (listTo_no hfk)
          have HW := Lib.hid how
          have HV2 := Lib.hid V
          clear how V hfk
          go_wp2_with fail
          go_roundw
          case rel => exact ⟨k + 1, by omega, by go_num, by rw [HL.out]; exact HW.out, HV2.out⟩
          case measure => simp [intOf]; omega
        · rw [hfk] at q2
          have HL := Lib.hid (listTo_yes hfk)
          have hll := listTo_len f k
          have HV2 := Lib.hid V
          have hob := OwS.framed.alloc how (.cells #[.int .i64 (k : Int)] 3)
          have hrd := oneInt wr (k : Int)
          clear how V hfk
          go_wp2_with (at_builtin; refine wl_appendS (E := eInt .i64) rfl _ (.tmp 52) _ rfl 3 8 sliceI _ _ (listTo f k) rfl hob _ [(k : Int)] rfl hrd (by simp; omega) (by unfold maxLen; simp; omega) ?_)
          intro v2 w4 hn4 hO4
          have HV4 := Lib.hid (HV2.out.over hO4)
          have hn4 := OwS.framed.mono _ (fun j => w1.heap.size < j) _ hn4 fun j _ h => h.elim id fun h => by first | omega | (simp at h; omega)
          rw [← HL.out] at hn4
          have HW := Lib.hid hn4
          clear hob hrd hn4 hO4
          go_wp2_with fail
          go_roundw
          case rel => exact ⟨k + 1, by omega, by go_num, HW.out, HV4.out⟩
          case measure => simp [intOf]; omega
      · obtain rfl : k = 8 := by omega
        have HW := Lib.hid (how.base (b := w.heap.size) fun j h => by have : w1.heap.size < j := h; omega)
        have HO9 := Lib.hid V.only
        clear how V
        go_wp2_with fail
        go_ret
        refine ⟨_, rfl, ?_, HO9.out⟩
        first | exact HW.out | simpa using HW.out

set_option maxRecDepth 100000 in
set_option maxHeartbeats 8000000 in
theorem refReads_false_n (op d a b imm : Int) (hr : rightR ⟨op, d, a, b, imm⟩ = true) (hf : fA op = false) (hsc : sourceR ⟨op, d, a, b, imm⟩ = false) (hb : True) (w : World) :
    Calls Tryd.prog 17 #[(In.mk op d a b imm).v] w fun e w' => ∃ v, e = .returned v ∧ Ow (eInt .i64) w.heap.size 3 w' v (readsR ⟨op, d, a, b, imm⟩) ∧ Only (fun _ => False) w w' := by
  have HR := Lib.hid (fun W => refRight_b ⟨op, d, a, b, imm⟩ _ hr W)
  obtain ⟨b3, b12, bj, b20, b22, h3, h12, hj, h20, h22, hfa, hk⟩ := kinds op
  have HP := Lib.hid (show readsR ⟨op, d, a, b, imm⟩ = listTo (isAt ⟨op, d, a, b, imm⟩) 8 from by unfold readsR listTo; rw [hr]; rfl)
  rw [HP.out]
  skip
  generalize hf0 : isAt ⟨op, d, a, b, imm⟩ = f
  have HAT := Lib.hid (show ∀ r, f r = (false) from fun r => by rw [← hf0]; unfold isAt fS; dsimp only; rw [hf, hsc]; simp [true_and, cast_beq])
  have HSC := Lib.hid hsc
  have H3 := Lib.hid h3
  have HJ := Lib.hid hj
  rw [hf] at hfa
  clear hr hf hsc h3 hj HP hf0
  rcases hk with hk | hk | hk | hk | hk | hk
  all_goals
    simp only [Prod.mk.injEq] at hk
    obtain ⟨rfl, rfl, rfl, rfl, rfl⟩ := hk
  all_goals try (exfalso; revert hfa; decide)
  all_goals
    clear hfa
    go_enter Tryd.func17, Tryd.ntmps17
    go_wp2_with fail
    refine (HR.out _).mono ?_
    rintro e w1 ⟨rfl, ho⟩
    have hb1 := ho.heap (heap_alloc_new w _) (fun h => h)
    have hz1 : w.heap.size < w1.heap.size := heap_lt hb1
    have c0 := cells_of_heap hb1 0 (.int .i64 op) rfl
    have c1 := cells_of_heap hb1 1 (.int .i64 d) rfl
    have c2 := cells_of_heap hb1 2 (.int .i64 a) rfl
    have c3 := cells_of_heap hb1 3 (.int .i64 b) rfl
    have c4 := cells_of_heap hb1 4 (.int .i64 imm) rfl
    have HO := Lib.hid ((Only.alloc _ w _).tr ho)
    have HB1 := Lib.hid hb1
    have n1 : ¬ w1.heap.size = w.heap.size := by omega
    have n2 : ¬ w.heap.size = w1.heap.size := by omega
    have HF0 := Lib.hid (show FState w w1.heap.size (fun _ => false) (w1.alloc (.cells #[.bool false, .bool false, .bool false, .bool false, .bool false, .bool false, .bool false, .bool false] 53)) from ⟨⟨_, heap_alloc_new _ _, IsArr.zero⟩, by omega, HO.out.tr (Only.alloc _ _ _)⟩)
    clear ho hb1
    go_wp2_with (first | (go_at_call 26; refine (three_b _ _ H3.out _).mono ?_; rintro e w2 ⟨rfl, rfl⟩) | (go_at_call 27; refine (jump_b _ _ HJ.out _).mono ?_; rintro e w2 ⟨rfl, rfl⟩))
    refine (refSource_b ⟨op, d, a, b, imm⟩ _ HSC.out _).mono ?_
    rintro e w3 ⟨rfl, ho3⟩
    have hb3 := ho3.heap (heap_alloc HB1.out) (fun h => h)
    have d3 := cells_of_heap hb3 3 (.int .i64 b) rfl
    have V3 := HF0.out.on ho3
    have hz3 := heap_lt hb3
    clear c0 c1 c2 c3 c4 ho3 hb3
    have HV := Lib.hid (V3.congr (h := f) fun r => by rw [HAT.out r])
    clear V3
    go_wp2_with fail
    go_loopw [5, 6] (fun v t wr => ∃ k : Nat, k ≤ 8 ∧ t = .int .i64 k ∧ OwS (eInt .i64) 3 (fun j => w1.heap.size < j) wr v (listTo f k) ∧ FState w w1.heap.size f wr) (fun _ t _ => 8 - (intOf t).toNat)
    case atStart => exact ⟨0, by omega, rfl, OwS.nil _ _, HV.out⟩
    case round =>
      obtain ⟨k, hk, rfl, how, V⟩ := hrel
      by_cases hlt : k < 8
      · obtain ⟨cs2, hbk2, hA2⟩ := V.arr
        have q2 := cells_of_heap hbk2 k _ (hA2.2 k hlt)
        have hz2 := heap_lt hbk2
        have hi0 : (0 : Int) ≤ (k : Int) := by omega
        have hi1 : (k : Int) < 8 := by omega
        clear hbk2 hA2
        cases hfk : f k
        · rw [hfk] at q2
          have HL := Lib.hid (listTo_no hfk)
          have HW := Lib.hid how
          have HV2 := Lib.hid V
          clear how V hfk
          go_wp2_with fail
          go_roundw
          case rel => exact ⟨k + 1, by omega, by go_num, by rw [HL.out]; exact HW.out, HV2.out⟩
          case measure => simp [intOf]; omega
        · rw [hfk] at q2
          have HL := Lib.hid (listTo_yes hfk)
          have hll := listTo_len f k
          have HV2 := Lib.hid V
          have hob := OwS.framed.alloc how (.cells #[.int .i64 (k : Int)] 3)
          have hrd := oneInt wr (k : Int)
          clear how V hfk
          go_wp2_with (at_builtin; refine wl_appendS (E := eInt .i64) rfl _ (.tmp 52) _ rfl 3 8 sliceI _ _ (listTo f k) rfl hob _ [(k : Int)] rfl hrd (by simp; omega) (by unfold maxLen; simp; omega) ?_)
          intro v2 w4 hn4 hO4
          have HV4 := Lib.hid (HV2.out.over hO4)
          have hn4 := OwS.framed.mono _ (fun j => w1.heap.size < j) _ hn4 fun j _ h => h.elim id fun h => by first | omega | (simp at h; omega)
          rw [← HL.out] at hn4
          have HW := Lib.hid hn4
          clear hob hrd hn4 hO4
          go_wp2_with fail
          go_roundw
          case rel => exact ⟨k + 1, by omega, by go_num, HW.out, HV4.out⟩
          case measure => simp [intOf]; omega
      · obtain rfl : k = 8 := by omega
        have HW := Lib.hid (how.base (b := w.heap.size) fun j h => by have : w1.heap.size < j := h; omega)
        have HO9 := Lib.hid V.only
        clear how V
        go_wp2_with fail
        go_ret
        refine ⟨_, rfl, ?_, HO9.out⟩
        first | exact HW.out | simpa using HW.out

set_option maxRecDepth 100000 in
set_option maxHeartbeats 8000000 in
theorem refReads_false_ge (op d a b imm : Int) (hr : rightR ⟨op, d, a, b, imm⟩ = true) (hf : fA op = false) (hsc : sourceR ⟨op, d, a, b, imm⟩ = true) (hb : ¬ b < 8) (w : World) :
    Calls Tryd.prog 17 #[(In.mk op d a b imm).v] w fun e w' => ∃ v, e = .returned v ∧ Ow (eInt .i64) w.heap.size 3 w' v (readsR ⟨op, d, a, b, imm⟩) ∧ Only (fun _ => False) w w' := by
  have HR := Lib.hid (fun W => refRight_b ⟨op, d, a, b, imm⟩ _ hr W)
  obtain ⟨b3, b12, bj, b20, b22, h3, h12, hj, h20, h22, hfa, hk⟩ := kinds op
  have HP := Lib.hid (show readsR ⟨op, d, a, b, imm⟩ = listTo (isAt ⟨op, d, a, b, imm⟩) 8 from by unfold readsR listTo; rw [hr]; rfl)
  rw [HP.out]
  skip
  generalize hf0 : isAt ⟨op, d, a, b, imm⟩ = f
  have HAT := Lib.hid (show ∀ r, f r = (false) from fun r => by rw [← hf0]; unfold isAt fS; dsimp only; rw [hf, hsc]; simp [hb, cast_beq])
  have HSC := Lib.hid hsc
  have H3 := Lib.hid h3
  have HJ := Lib.hid hj
  rw [hf] at hfa
  clear hr hf hsc h3 hj HP hf0
  rcases hk with hk | hk | hk | hk | hk | hk
  all_goals
    simp only [Prod.mk.injEq] at hk
    obtain ⟨rfl, rfl, rfl, rfl, rfl⟩ := hk
  all_goals try (exfalso; revert hfa; decide)
  all_goals
    clear hfa
    go_enter Tryd.func17, Tryd.ntmps17
    go_wp2_with fail
    refine (HR.out _).mono ?_
    rintro e w1 ⟨rfl, ho⟩
    have hb1 := ho.heap (heap_alloc_new w _) (fun h => h)
    have hz1 : w.heap.size < w1.heap.size := heap_lt hb1
    have c0 := cells_of_heap hb1 0 (.int .i64 op) rfl
    have c1 := cells_of_heap hb1 1 (.int .i64 d) rfl
    have c2 := cells_of_heap hb1 2 (.int .i64 a) rfl
    have c3 := cells_of_heap hb1 3 (.int .i64 b) rfl
    have c4 := cells_of_heap hb1 4 (.int .i64 imm) rfl
    have HO := Lib.hid ((Only.alloc _ w _).tr ho)
    have HB1 := Lib.hid hb1
    have n1 : ¬ w1.heap.size = w.heap.size := by omega
    have n2 : ¬ w.heap.size = w1.heap.size := by omega
    have HF0 := Lib.hid (show FState w w1.heap.size (fun _ => false) (w1.alloc (.cells #[.bool false, .bool false, .bool false, .bool false, .bool false, .bool false, .bool false, .bool false] 53)) from ⟨⟨_, heap_alloc_new _ _, IsArr.zero⟩, by omega, HO.out.tr (Only.alloc _ _ _)⟩)
    clear ho hb1
    go_wp2_with (first | (go_at_call 26; refine (three_b _ _ H3.out _).mono ?_; rintro e w2 ⟨rfl, rfl⟩) | (go_at_call 27; refine (jump_b _ _ HJ.out _).mono ?_; rintro e w2 ⟨rfl, rfl⟩))
    refine (refSource_b ⟨op, d, a, b, imm⟩ _ HSC.out _).mono ?_
    rintro e w3 ⟨rfl, ho3⟩
    have hb3 := ho3.heap (heap_alloc HB1.out) (fun h => h)
    have d3 := cells_of_heap hb3 3 (.int .i64 b) rfl
    have V3 := HF0.out.on ho3
    have hz3 := heap_lt hb3
    clear c0 c1 c2 c3 c4 ho3 hb3
    have HV := Lib.hid (V3.congr (h := f) fun r => by rw [HAT.out r])
    clear V3
    go_wp2_with fail
    go_loopw [5, 6] (fun v t wr => ∃ k : Nat, k ≤ 8 ∧ t = .int .i64 k ∧ OwS (eInt .i64) 3 (fun j => w1.heap.size < j) wr v (listTo f k) ∧ FState w w1.heap.size f wr) (fun _ t _ => 8 - (intOf t).toNat)
    case atStart => exact ⟨0, by omega, rfl, OwS.nil _ _, HV.out⟩
    case round =>
      obtain ⟨k, hk, rfl, how, V⟩ := hrel
      by_cases hlt : k < 8
      · obtain ⟨cs2, hbk2, hA2⟩ := V.arr
        have q2 := cells_of_heap hbk2 k _ (hA2.2 k hlt)
        have hz2 := heap_lt hbk2
        have hi0 : (0 : Int) ≤ (k : Int) := by omega
        have hi1 : (k : Int) < 8 := by omega
        clear hbk2 hA2
        cases hfk : f k
        · rw [hfk] at q2
          have HL := Lib.hid (listTo_no hfk)
          have HW := Lib.hid how
          have HV2 := Lib.hid V
          clear how V hfk
          go_wp2_with fail
          go_roundw
          case rel => exact ⟨k + 1, by omega, by go_num, by rw [HL.out]; exact HW.out, HV2.out⟩
          case measure => simp [intOf]; omega
        · rw [hfk] at q2
          have HL := Lib.hid (listTo_yes hfk)
          have hll := listTo_len f k
          have HV2 := Lib.hid V
          have hob := OwS.framed.alloc how (.cells #[.int .i64 (k : Int)] 3)
          have hrd := oneInt wr (k : Int)
          clear how V hfk
          go_wp2_with (at_builtin; refine wl_appendS (E := eInt .i64) rfl _ (.tmp 52) _ rfl 3 8 sliceI _ _ (listTo f k) rfl hob _ [(k : Int)] rfl hrd (by simp; omega) (by unfold maxLen; simp; omega) ?_)
          intro v2 w4 hn4 hO4
          have HV4 := Lib.hid (HV2.out.over hO4)
          have hn4 := OwS.framed.mono _ (fun j => w1.heap.size < j) _ hn4 fun j _ h => h.elim id fun h => by first | omega | (simp at h; omega)
          rw [← HL.out] at hn4
          have HW := Lib.hid hn4
          clear hob hrd hn4 hO4
          go_wp2_with fail
          go_roundw
          case rel => exact ⟨k + 1, by omega, by go_num, HW.out, HV4.out⟩
          case measure => simp [intOf]; omega
      · obtain rfl : k = 8 := by omega
        have HW := Lib.hid (how.base (b := w.heap.size) fun j h => by have : w1.heap.size < j := h; omega)
        have HO9 := Lib.hid V.only
        clear how V
        go_wp2_with fail
        go_ret
        refine ⟨_, rfl, ?_, HO9.out⟩
        first | exact HW.out | simpa using HW.out

set_option maxRecDepth 100000 in
set_option maxHeartbeats 8000000 in
theorem refReads_false_lt (op d a b imm : Int) (hr : rightR ⟨op, d, a, b, imm⟩ = true) (hf : fA op = false) (hsc : sourceR ⟨op, d, a, b, imm⟩ = true) (hb : b < 8) (w : World) :
    Calls Tryd.prog 17 #[(In.mk op d a b imm).v] w fun e w' => ∃ v, e = .returned v ∧ Ow (eInt .i64) w.heap.size 3 w' v (readsR ⟨op, d, a, b, imm⟩) ∧ Only (fun _ => False) w w' := by
  have HR := Lib.hid (fun W => refRight_b ⟨op, d, a, b, imm⟩ _ hr W)
  obtain ⟨b3, b12, bj, b20, b22, h3, h12, hj, h20, h22, hfa, hk⟩ := kinds op
  have HP := Lib.hid (show readsR ⟨op, d, a, b, imm⟩ = listTo (isAt ⟨op, d, a, b, imm⟩) 8 from by unfold readsR listTo; rw [hr]; rfl)
  rw [HP.out]
  obtain ⟨nb, hnb, hb8⟩ : ∃ nb : Nat, b = (nb : Int) ∧ nb < 8 := by
    have := right_s (i := ⟨op, d, a, b, imm⟩) (by unfold fS; rw [hsc]; simpa using hb)
    exact ⟨b.toNat, by dsimp only at this; omega, by dsimp only at this; omega⟩
  subst hnb
  generalize hf0 : isAt ⟨op, d, a, (nb : Int), imm⟩ = f
  have HAT := Lib.hid (show ∀ r, f r = (nb == r) from fun r => by rw [← hf0]; unfold isAt fS; dsimp only; rw [hf, hsc]; simp [hb, cast_beq])
  have HSC := Lib.hid hsc
  have H3 := Lib.hid h3
  have HJ := Lib.hid hj
  rw [hf] at hfa
  clear hr hf hsc h3 hj HP hf0
  rcases hk with hk | hk | hk | hk | hk | hk
  all_goals
    simp only [Prod.mk.injEq] at hk
    obtain ⟨rfl, rfl, rfl, rfl, rfl⟩ := hk
  all_goals try (exfalso; revert hfa; decide)
  all_goals
    clear hfa
    go_enter Tryd.func17, Tryd.ntmps17
    go_wp2_with fail
    refine (HR.out _).mono ?_
    rintro e w1 ⟨rfl, ho⟩
    have hb1 := ho.heap (heap_alloc_new w _) (fun h => h)
    have hz1 : w.heap.size < w1.heap.size := heap_lt hb1
    have c0 := cells_of_heap hb1 0 (.int .i64 op) rfl
    have c1 := cells_of_heap hb1 1 (.int .i64 d) rfl
    have c2 := cells_of_heap hb1 2 (.int .i64 a) rfl
    have c3 := cells_of_heap hb1 3 (.int .i64 (nb : Int)) rfl
    have c4 := cells_of_heap hb1 4 (.int .i64 imm) rfl
    have HO := Lib.hid ((Only.alloc _ w _).tr ho)
    have HB1 := Lib.hid hb1
    have n1 : ¬ w1.heap.size = w.heap.size := by omega
    have n2 : ¬ w.heap.size = w1.heap.size := by omega
    have HF0 := Lib.hid (show FState w w1.heap.size (fun _ => false) (w1.alloc (.cells #[.bool false, .bool false, .bool false, .bool false, .bool false, .bool false, .bool false, .bool false] 53)) from ⟨⟨_, heap_alloc_new _ _, IsArr.zero⟩, by omega, HO.out.tr (Only.alloc _ _ _)⟩)
    clear ho hb1
    go_wp2_with (first | (go_at_call 26; refine (three_b _ _ H3.out _).mono ?_; rintro e w2 ⟨rfl, rfl⟩) | (go_at_call 27; refine (jump_b _ _ HJ.out _).mono ?_; rintro e w2 ⟨rfl, rfl⟩))
    refine (refSource_b ⟨op, d, a, (nb : Int), imm⟩ _ HSC.out _).mono ?_
    rintro e w3 ⟨rfl, ho3⟩
    have hb3 := ho3.heap (heap_alloc HB1.out) (fun h => h)
    have d3 := cells_of_heap hb3 3 (.int .i64 (nb : Int)) rfl
    have V3 := HF0.out.on ho3
    have hz3 := heap_lt hb3
    clear c0 c1 c2 c3 c4 ho3 hb3
    obtain ⟨cs, hbk, hA⟩ := V3.arr
    have q := cells_of_heap hbk nb _ (hA.2 nb hb8)
    have fz := frozen_of_row w3 w1.heap.size nb _ _ hbk
    have HV := Lib.hid ((V3.set nb hb8).congr (h := f) fun r => by rw [HAT.out r]; simp)
    clear hbk hA V3
    go_wp2_with fail
    go_loopw [5, 6] (fun v t wr => ∃ k : Nat, k ≤ 8 ∧ t = .int .i64 k ∧ OwS (eInt .i64) 3 (fun j => w1.heap.size < j) wr v (listTo f k) ∧ FState w w1.heap.size f wr) (fun _ t _ => 8 - (intOf t).toNat)
    case atStart => exact ⟨0, by omega, rfl, OwS.nil _ _, HV.out⟩
    case round =>
      obtain ⟨k, hk, rfl, how, V⟩ := hrel
      by_cases hlt : k < 8
      · obtain ⟨cs2, hbk2, hA2⟩ := V.arr
        have q2 := cells_of_heap hbk2 k _ (hA2.2 k hlt)
        have hz2 := heap_lt hbk2
        have hi0 : (0 : Int) ≤ (k : Int) := by omega
        have hi1 : (k : Int) < 8 := by omega
        clear hbk2 hA2
        cases hfk : f k
        · rw [hfk] at q2
          have HL := Lib.hid (listTo_no hfk)
          have HW := Lib.hid how
          have HV2 := Lib.hid V
          clear how V hfk
          go_wp2_with fail
          go_roundw
          case rel => exact ⟨k + 1, by omega, by go_num, by rw [HL.out]; exact HW.out, HV2.out⟩
          case measure => simp [intOf]; omega
        · rw [hfk] at q2
          have HL := Lib.hid (listTo_yes hfk)
          have hll := listTo_len f k
          have HV2 := Lib.hid V
          have hob := OwS.framed.alloc how (.cells #[.int .i64 (k : Int)] 3)
          have hrd := oneInt wr (k : Int)
          clear how V hfk
          go_wp2_with (at_builtin; refine wl_appendS (E := eInt .i64) rfl _ (.tmp 52) _ rfl 3 8 sliceI _ _ (listTo f k) rfl hob _ [(k : Int)] rfl hrd (by simp; omega) (by unfold maxLen; simp; omega) ?_)
          intro v2 w4 hn4 hO4
          have HV4 := Lib.hid (HV2.out.over hO4)
          have hn4 := OwS.framed.mono _ (fun j => w1.heap.size < j) _ hn4 fun j _ h => h.elim id fun h => by first | omega | (simp at h; omega)
          rw [← HL.out] at hn4
          have HW := Lib.hid hn4
          clear hob hrd hn4 hO4
          go_wp2_with fail
          go_roundw
          case rel => exact ⟨k + 1, by omega, by go_num, HW.out, HV4.out⟩
          case measure => simp [intOf]; omega
      · obtain rfl : k = 8 := by omega
        have HW := Lib.hid (how.base (b := w.heap.size) fun j h => by have : w1.heap.size < j := h; omega)
        have HO9 := Lib.hid V.only
        clear how V
        go_wp2_with fail
        go_ret
        refine ⟨_, rfl, ?_, HO9.out⟩
        first | exact HW.out | simpa using HW.out

theorem refReads_any (i : In) (w : World) :
    Calls Tryd.prog 17 #[i.v] w fun e w' => ∃ v, e = .returned v ∧ Ow (eInt .i64) w.heap.size 3 w' v (readsR i) ∧ Only (fun _ => False) w w' := by
  cases hr : rightR i
  · refine (refReads_no i hr w).mono ?_
    rintro e w' ⟨rfl, ho⟩
    exact ⟨_, rfl, by unfold readsR; rw [hr]; exact Ow.nil _ _ _, ho⟩
  · obtain ⟨op, d, a, b, imm⟩ := i
    cases hf : fA op <;> cases hs : sourceR ⟨op, d, a, b, imm⟩
    · exact refReads_false_n op d a b imm hr hf hs trivial w
    · by_cases h8 : b < 8
      · exact refReads_false_lt op d a b imm hr hf hs h8 w
      · exact refReads_false_ge op d a b imm hr hf hs h8 w
    · exact refReads_true_n op d a b imm hr hf hs trivial w
    · by_cases h8 : b < 8
      · exact refReads_true_lt op d a b imm hr hf hs h8 w
      · exact refReads_true_ge op d a b imm hr hf hs h8 w
end Go.Proofs.YtjmjmgemhkjomaaDoor
