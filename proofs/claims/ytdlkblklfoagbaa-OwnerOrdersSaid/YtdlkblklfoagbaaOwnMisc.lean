/- owner: Waiting, End, Ended, Pairs. -/
import Derived.Test.YtdlkblklfoagbaaOwn
import Derived.WalkSpells
namespace Go.Proofs.Ytdlkblklfoagbaa
open Go.RowKit
set_option linter.unusedVariables false
set_option linter.unusedSimpArgs false

set_option maxHeartbeats 1000000 in
theorem cloneR_any (xs : List ReqD) (v : Value) (w : World) (hr : Rd eReq w v xs) (hb : (5 * xs.length + 2816) * 56 ≤ 1125899906842624) :
    Calls Try.prog 26 #[v] w fun e w' => ∃ v', e = .returned v' ∧ OwS eReq 37 (fun k => w.heap.size ≤ k) w' v' xs ∧ Only (fun _ => False) w w' := by
  have HR := Lib.hid (hr.alloc (.cells #[] 37))
  obtain ⟨hmx, ao, cap, rfl, _, hnone, hx⟩ := hr
  have hE0 : OwS eReq 37 (fun k => w.heap.size ≤ k) (w.alloc (.cells #[] 37)) (.slice (some ⟨w.heap.size, 0, none⟩) 0 0) [] :=
    ⟨Ow.lit (E := eReq) w 0 #[] 37 0 [] (by simp [Enc.all]) rfl (by simp) (Nat.zero_le _), fun k hk => by simp [Value.ownBlock] at hk; omega⟩
  have HE := Lib.hid hE0
  clear hE0
  cases ao with
  | none =>
    have h0 : xs = [] := by
      cases xs with
      | nil => rfl
      | cons x xs => obtain ⟨b, off, h, _⟩ := hx (by simp); cases h
    subst h0
    obtain rfl : cap = 0 := hnone rfl
    clear hx hnone
    have hz : ∀ w : World, (binOp .eql 25 (.slice none 0 0) (.slice none 0 0)).run Try.prog w = .ok (.bool true) w := fun w => Lib.run_eql_slice_nil w _ _ none _ _ _ _ Try.underlying25
    go_enter Try.func26, Try.ntmps26
    go_wp2_with fail
    go_ret
    exact ⟨_, rfl, OwS.nil _ _, Only.refl _ _⟩
  | some a =>
    clear hx hnone
    have hz : ∀ w : World, (binOp .eql 25 (.slice (some a) xs.length cap) (.slice none 0 0)).run Try.prog w = .ok (.bool false) w := fun w => Lib.run_eql_slice_nil w _ _ (some a) _ _ _ _ Try.underlying25
    go_enter Try.func26, Try.ntmps26
    go_wp2_with (at_builtin; refine wl_appendS (E := eReq) rfl _ (.tmp 6) _ rfl 37 56 eReq_slice _ _ [] rfl HE.out _ xs rfl HR.out (by simp only [List.length_nil, Nat.zero_add]; omega) (by unfold maxLen; simp only [List.length_nil]; omega) ?_)
    intro v' w5 h5 hO5
    have H5 := Lib.hid h5
    have HO5 := Lib.hid hO5
    clear h5 hO5
    go_wp2_with fail
    go_ret
    refine ⟨_, rfl, ?_, ?_⟩
    · exact OwS.framed.mono _ _ _ H5.out fun k _ h => by
        rcases h with h | h
        · exact h
        · have := size_le_alloc w (.cells #[] 37); omega
    · exact (Only.alloc (fun _ => False) w _).trans HO5.out fun k hk h => by omega
section
variable {T : Nat → Prop} {w : World} {g : Nat} {sd n : Int} {ml : List MSh} {ss : List Sh} {line : List ReqD} {en : Bool}
theorem waiting_ (hT : OwnS g sd n ml ss line en T w) (hb : (5 * line.length + 2816) * 56 ≤ 1125899906842624) :
    Calls Try.prog 10 #[.pointer (some ⟨g, 0, none⟩)] w fun e w' => ∃ v', e = .returned v' ∧ OwS eReq 37 (fun k => w.heap.size ≤ k) w' v' line ∧ Only (fun _ => False) w w' := by
  obtain ⟨vm, vl, hV⟩ := hT
  have g3 : w.cell? ⟨g, 3, none⟩ = some vl := blk_cell hV.obj.1 3
  have HC := Lib.hid (cloneR_any line vl w hV.obj.2.2 hb)
  obtain ⟨_, ⟨al, cl, rfl⟩⟩ := hV.shapes
  clear hV hb
  go_enter Try.func10, Try.ntmps10
  go_wp2_with fail
  refine HC.out.mono ?_
  rintro e w1 ⟨v', rfl, ho, hO⟩
  go_wp2_with fail
  go_ret
  exact ⟨_, rfl, ho, hO⟩
theorem ended_ (hT : OwnS g sd n ml ss line en T w) :
    Calls Try.prog 22 #[.pointer (some ⟨g, 0, none⟩)] w fun e w' => e = .returned (.bool en) ∧ Only (fun _ => False) w w' := by
  obtain ⟨vm, vl, hV⟩ := hT
  have g4 : w.cell? ⟨g, 4, none⟩ = some (.bool en) := blk_cell hV.obj.1 4
  clear hV
  go_enter Try.func22, Try.ntmps22
  go_wp2_with fail
  go_ret
  exact ⟨rfl, Only.refl _ _⟩
/-- End -/
def endP (en : Bool) (line : List ReqD) : Int × Bool := if line.isEmpty then (0, true) else (42, en)
theorem end_ (hT : OwnS g sd n ml ss line en T w) :
    Calls Try.prog 19 #[.pointer (some ⟨g, 0, none⟩)] w fun e w' => e = .returned (.int .i64 (endP en line).1) ∧ Upd (OwnS g sd n ml ss line (endP en line).2) T w w' := by
  obtain ⟨vm, vl, hV⟩ := hT
  obtain ⟨_, ⟨al, cl, rfl⟩⟩ := hV.shapes
  have hg := hV.obj.1
  have g3 : w.cell? ⟨g, 3, none⟩ = some (.slice al line.length cl) := blk_cell hg 3
  have g4 : w.cell? ⟨g, 4, none⟩ = some (.bool en) := blk_cell hg 4
  have f4 := frozen_of_row w g 4 _ _ hg
  have HV := Lib.hid hV
  clear hV hg
  cases line with
  | nil =>
    have h0 : ¬ ((0 : Nat) : Int) > 0 := by omega
    go_enter Try.func19, Try.ntmps19
    go_wp2_with fail
    go_ret
    obtain ⟨A, hA, hback⟩ := HV.out.own
    exact ⟨rfl, (hback _ _ _ true _ (hA.set (by decide) (by decide) 4 (.bool true) rfl)).imp fun _ h => h.plain⟩
  | cons q rest =>
    have h0 : (0 : Int) < ((q :: rest).length : Int) := by simp only [List.length_cons]; omega
    generalize hz : (q :: rest).length = L at *
    go_enter Try.func19, Try.ntmps19
    go_wp2_with fail
    go_ret
    exact ⟨rfl, (Upd.refl OwnV.framed HV.out).imp fun _ h => h.plain⟩
theorem opairs_bad (hT : OwnS g sd n ml ss line en T w) (m : Int) (h : m < 0 ∨ (ml.length : Int) ≤ m) :
    Calls Try.prog 13 #[.pointer (some ⟨g, 0, none⟩), .int .i64 m] w fun e w' => e = .returned (.tuple #[.slice none 0 0, .int .i64 2]) ∧ Only (fun _ => False) w w' := by
  obtain ⟨vm, vl, hV⟩ := hT
  obtain ⟨⟨am, cm, rfl⟩, _⟩ := hV.shapes
  have g2 : w.cell? ⟨g, 2, none⟩ = some (.slice am ml.length cm) := blk_cell hV.obj.1 2
  clear hV
  rcases h with h | h
  · go_enter Try.func13, Try.ntmps13
    go_wp2_with fail
    go_ret2
    exact ⟨rfl, Only.refl _ _⟩
  · have h0 : 0 ≤ m := by omega
    go_enter Try.func13, Try.ntmps13
    go_wp2_with fail
    go_ret2
    exact ⟨rfl, Only.refl _ _⟩
set_option maxRecDepth 100000 in
set_option maxHeartbeats 1000000 in
theorem opairs_ok (hT : OwnS g sd n ml ss line en T w) (G : OGood ml ss) (i : Nat) (h : i < ss.length) :
    Calls Try.prog 13 #[.pointer (some ⟨g, 0, none⟩), .int .i64 i] w fun e w' => ∃ v', e = .returned (.tuple #[v', .int .i64 0]) ∧ OwS ePair 50 (fun k => w.heap.size ≤ k) w' v' ss[i].1 ∧ Only (fun _ => False) w w' := by
  obtain ⟨vm, vl, hV⟩ := hT
  obtain ⟨⟨am, cm, rfl⟩, _⟩ := hV.shapes
  have h1 : i < ml.length := by rw [G.len]; exact h
  have g2 : w.cell? ⟨g, 2, none⟩ = some (.slice am ml.length cm) := blk_cell hV.obj.1 2
  obtain ⟨sb, off, rfl, c1⟩ := hV.slot h1
  obtain ⟨A, hA, -⟩ := hV.at i h1 h
  have HG := Lib.hid (G.good i h1 h)
  have hi0 : (0 : Int) ≤ (i : Int) := by omega
  have hi1 : (i : Int) < (ml.length : Int) := by omega
  clear hV G
  cases hai : ml[i].1 with
  | plain b =>
    rw [hai] at c1 hA
    have hcm := cm_book_pairs b
    have HL := Lib.hid (shPairs_plain hA HG.out)
    replace c1 : w.cell? ⟨sb, off + i, none⟩ = some (.iface 96 (.pointer (some ⟨b, 0, none⟩))) := c1
    clear hA
    go_enter Try.func13, Try.ntmps13
    go_wp2_with fail
    refine HL.out.mono ?_
    rintro e w1 ⟨v', rfl, hv, ho⟩
    go_wp2_with fail
    go_ret2
    exact ⟨_, rfl, hv, ho⟩
  | bound b0 b =>
    rw [hai] at c1 hA
    have HP := Lib.hid hA.ptr
    have HL := Lib.hid (shPairs_bound hA HG.out)
    replace c1 : w.cell? ⟨sb, off + i, none⟩ = some (.iface 99 (.pointer (some ⟨b0, 0, none⟩))) := c1
    clear hA
    go_enter Try.func13, Try.ntmps13
    go_wp2_with fail
    rw [cm_lru_n b0 b w HP.out "Pairs" 58 (by kernel_rfl) (by kernel_rfl)]
    go_wp2_with fail
    refine HL.out.mono ?_
    rintro e w1 ⟨v', rfl, hv, ho⟩
    go_wp2_with fail
    go_ret2
    exact ⟨_, rfl, hv, ho⟩
end
end Go.Proofs.Ytdlkblklfoagbaa
