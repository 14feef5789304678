/- wire: the reader: fail, number. -/
import Derived.Test.YtkocfgaajghggaaDoorWireEqual
namespace Go.Proofs.YtkocfgaajghggaaDoor
open Go.RowKit
set_option linter.unusedVariables false
set_option linter.unusedSimpArgs false

/-- the reader: its bytes, the next field's place, the last one's, the first error -/
def RdrB (g : Nat) (bv : Value) (p f : Nat) (e : Int) (w : World) : Prop := w.heap[g]? = some (.cells #[bv, .int .i64 (p : Int), .int .i64 (f : Int), .int .i64 e] 56 (0, 0))
theorem RdrB.cells {g : Nat} {bv : Value} {p f : Nat} {e : Int} {w : World} (h : RdrB g bv p f e w) : w.cell? ⟨g, 0, none⟩ = some bv ∧ w.cell? ⟨g, 1, none⟩ = some (.int .i64 (p : Int)) ∧ w.cell? ⟨g, 2, none⟩ = some (.int .i64 (f : Int)) ∧ w.cell? ⟨g, 3, none⟩ = some (.int .i64 e) :=
  ⟨cells_of_heap h 0 _ rfl, cells_of_heap h 1 _ rfl, cells_of_heap h 2 _ rfl, cells_of_heap h 3 _ rfl⟩
theorem RdrB.free {g : Nat} {bv : Value} {p f : Nat} {e : Int} {w : World} (h : RdrB g bv p f e w) : ∀ i, w.frozen? ⟨g, i, none⟩ = false := fun i => blk_free h i
theorem RdrB.lt {g : Nat} {bv : Value} {p f : Nat} {e : Int} {w : World} (h : RdrB g bv p f e w) : g < w.heap.size := heap_lt h
theorem RdrB.at_ {g : Nat} {bv : Value} {p f : Nat} {e : Int} {w : World} (h : RdrB g bv p f e w) (q : Nat) : RdrB g bv q f e (w.setCell ⟨g, 1, none⟩ (.int .i64 (q : Int))) := blk_set h 1 _
theorem RdrB.field {g : Nat} {bv : Value} {p f : Nat} {e : Int} {w : World} (h : RdrB g bv p f e w) (q : Nat) : RdrB g bv p q e (w.setCell ⟨g, 2, none⟩ (.int .i64 (q : Int))) := blk_set h 2 _
theorem RdrB.err {g : Nat} {bv : Value} {p f : Nat} {e : Int} {w : World} (h : RdrB g bv p f e w) (q : Int) : RdrB g bv p f q (w.setCell ⟨g, 3, none⟩ (.int .i64 q)) := blk_set h 3 _
theorem RdrB.drew {g : Nat} {bv : Value} {p f : Nat} {e : Int} {w : World} (h : RdrB g bv p f e w) (n : Nat) : RdrB g bv p f e (w.drewN n) := h
theorem Only.cellG {g i : Nat} {w : World} {v : Value} : Only (fun k => k = g) w (w.setCell ⟨g, i, none⟩ v) := Only.setCell _ w g i v rfl
theorem Only.falseG {g : Nat} {w w' : World} (h : Only (fun _ => False) w w') : Only (fun k => k = g) w w' := h.mono fun _ _ h => h.elim
/-- what is read beside the reader -/
theorem Rd.beside {α : Type} {E : Enc α} {g : Nat} {w w' : World} {v : Value} {xs : List α} (h : Rd E w v xs) (hO : Only (fun k => k = g) w w') (hne : 0 < xs.length → v.ownBlock ≠ some g) : Rd E w' v xs :=
  h.kept fun a n c e h0 => hO.block a.block (Rd.lt (e ▸ h) h0) fun he => hne (by
    obtain ⟨_, ao', cap', he', _⟩ := h
    rw [e] at he'
    simp at he'
    omega) (by rw [e]; simp [Value.ownBlock, he])

theorem fail_live (g : Nat) (bv : Value) (p f : Nat) (er : Int) (w : World) (hR : RdrB g bv p f 0 w) :
    Calls Tryd.prog 28 #[.pointer (some ⟨g, 0, none⟩), .int .i64 er] w fun en w' => en = .returned (.tuple #[]) ∧ RdrB g bv p f er w' ∧ Only (fun k => k = g) w w' := by
  have HR := Lib.hid hR
  obtain ⟨c0, c1, c2, c3⟩ := hR.cells
  have hf := hR.free
  clear hR
  go_enter Tryd.func28, Tryd.ntmps28
  go_wp2_with fail
  go_end0
  exact ⟨rfl, HR.out.err er, Only.cellG⟩
theorem fail_dead (g : Nat) (bv : Value) (p f : Nat) (e er : Int) (w : World) (hR : RdrB g bv p f e w) (he : e ≠ 0) :
    Calls Tryd.prog 28 #[.pointer (some ⟨g, 0, none⟩), .int .i64 er] w fun en w' => en = .returned (.tuple #[]) ∧ w = w' := by
  obtain ⟨c0, c1, c2, c3⟩ := hR.cells
  have hq : (e == 0) = false := by simpa using he
  clear hR he
  go_enter Tryd.func28, Tryd.ntmps28
  go_wp2_with fail
  go_end0
  exact ⟨rfl, rfl⟩
theorem number_dead (g : Nat) (bv : Value) (p f : Nat) (e most er : Int) (w : World) (hR : RdrB g bv p f e w) (he : e ≠ 0) :
    Calls Tryd.prog 26 #[.pointer (some ⟨g, 0, none⟩), .int .u64 most, .int .i64 er] w fun en w' => en = .returned (.int .i64 0) ∧ w = w' := by
  obtain ⟨c0, c1, c2, c3⟩ := hR.cells
  have hq : (e != 0) = true := by simpa using he
  clear hR he
  go_enter Tryd.func26, Tryd.ntmps26
  go_wp2_with fail
  go_ret
  exact ⟨rfl, rfl⟩
/-- what number leaves: it goes on, or the first error -/
def NumPost (g : Nat) (b : List Int) (bv : Value) (p : Nat) (most er : Int) (w : World) (en : Ending) (w' : World) : Prop :=
  ∃ (n : Int) (p' f' : Nat) (e' : Int), en = .returned (.int .i64 n) ∧ RdrB g bv p' f' e' w' ∧ Only (fun k => k = g) w w' ∧
      ((e' = 0 ∧ f' = p ∧ 0 ≤ n ∧ n ≤ most ∧ p' ≤ b.length ∧ ∀ K, fieldP b p most er K = K n p') ∨ (e' ≠ 0 ∧ n = 0 ∧ ∀ K, fieldP b p most er K = .bad f' e'))
set_option maxHeartbeats 4000000 in
theorem number_live (g : Nat) (b : List Int) (bv : Value) (p f : Nat) (most er : Int) (w : World) (hR : RdrB g bv p f 0 w) (hb : Rd eU8 w bv b) (hby : ∀ x ∈ b, 0 ≤ x ∧ x ≤ 255) (hne : 0 < b.length → bv.ownBlock ≠ some g) (hp : p ≤ b.length)
    (hmost : 0 ≤ most ∧ most ≤ 9223372036854775807) (her : er ≠ 0) :
    Calls Tryd.prog 26 #[.pointer (some ⟨g, 0, none⟩), .int .u64 most, .int .i64 er] w (NumPost g b bv p most er w) := by
  obtain ⟨n, wd, eg, hg⟩ : ∃ n wd eg, get1 (b.drop p) = (n, wd, eg) := ⟨_, _, _, rfl⟩
  have HF := Lib.hid (fun K => show fieldP b p most er K = if eg ≠ 0 then .bad p eg else if most < n then .bad p er else K n (p + wd.toNat) by unfold fieldP; rw [hg])
  have HG := Lib.hid (fun v W (h : Rd eU8 W v (b.drop p)) => get_any (b.drop p) v W h (drop_bytes hby p))
  rw [hg] at HG
  have herr := get1_err (b.drop p)
  rw [hg] at herr
  have hback := fun h0 : eg = 0 => get1_back (b.drop p) n wd (drop_bytes hby p) (by rw [hg, h0])
  have HR := Lib.hid hR
  have HRf := Lib.hid (hR.field p)
  have HRD := Lib.hid (hb.beside (Only.cellG (i := 2) (v := .int .i64 (p : Int))) hne)
  obtain ⟨hmx, ao, cap, rfl, hcap, _, _⟩ := hb
  unfold maxLen at hmx
  have HSL := Lib.hid (fun nq => ((HRD.out.sliced p p (by simp [eInt]) hp).drewN nq))
  obtain ⟨c0, c1, c2, c3⟩ := hR.cells
  have hfz := hR.free
  clear hR hg hby HRD
  go_enter Tryd.func26, Tryd.ntmps26
  go_wp2_with fail
  generalize hw1 : w.setCell ⟨g, 2, none⟩ (.int .i64 (p : Int)) = w1 at *
  have HO1 := Lib.hid (show Only (fun k => k = g) w w1 by rw [← hw1]; exact Only.cellG)
  clear hw1 c0 c1 c2 c3 hfz
  obtain ⟨c0, c1, c2, c3⟩ := HRf.out.cells
  have hi0 : (0 : Int) ≤ (p : Int) := by omega
  have hi1 : (p : Int) ≤ (b.length : Int) := by omega
  have hi2 : (p : Int) ≤ (cap : Int) := by omega
  go_quiet ((go_at_call 41; exact Calls.quiet_of_same ((HG.out _ _ (HSL.out _)).mono fun _ _ ⟨h1, h2⟩ => ⟨h1, h2.symm⟩)))
  generalize (if cap = p then ao else Option.map (fun x => x.add p) ao) = aq at *
  generalize hwq : w1.drewN nq = wq at *
  have HRq := Lib.hid (show RdrB g (.slice ao b.length cap) p p 0 wq by rw [← hwq]; exact HRf.out.drew nq)
  have HOq := Lib.hid (show Only (fun k => k = g) w wq by rw [← hwq]; exact HO1.out.drewN nq)
  clear hwq c0 c1 c2 c3 HSL HRf HO1
  obtain ⟨c0, c1, c2, c3⟩ := HRq.out.cells
  have hfz := HRq.out.free
  have hpw : IntKind.i64.wrap (p : Int) = (p : Int) := by rw [IntKind.wrap_i64]; omega
  by_cases he : eg = 0
  · subst he
    obtain ⟨n0, n1, rfl, hl, _⟩ := hback rfl
    generalize (leb1 n).length = wn at *
    have hl2 : p + wn ≤ b.length := by simp at hl; omega
    have HRa := Lib.hid (show RdrB g (.slice ao b.length cap) (p + wn) p 0 (wq.setCell ⟨g, 1, none⟩ (.int .i64 ((p : Int) + (wn : Int)))) by
      have h := HRq.out.at_ (p + wn)
      rwa [Int.natCast_add] at h)
    have HF2 := Lib.hid (fun K => (HF.out K).trans (if_neg (by simp)))
    clear HF herr hback hl
    by_cases hm : most < n
    · have HF3 := Lib.hid (fun K => (HF2.out K).trans (if_pos hm))
      clear HF2
      go_wp2_with fail
      refine (fail_live g _ (p + wn) p er _ HRa.out).mono ?_
      rintro e w3 ⟨rfl, hR3, hO3⟩
      have HR3 := Lib.hid hR3
      have HO3 := Lib.hid ((HOq.out.tr Only.cellG).tr hO3)
      clear hR3 hO3 hfz
      go_wp2_with fail
      go_ret
      exact ⟨_, _, _, _, rfl, HR3.out, HO3.out, .inr ⟨her, rfl, HF3.out⟩⟩
    · have HF3 := Lib.hid (fun K => (HF2.out K).trans (if_neg hm))
      have hnw : IntKind.i64.wrap n = n := by rw [IntKind.wrap_i64]; omega
      clear HF2
      go_wp2_with fail
      go_ret
      refine ⟨_, _, _, _, rfl, HRa.out, HOq.out.tr Only.cellG, .inl ⟨rfl, rfl, n0, by omega, hl2, ?_⟩⟩
      exact fun K => by have h := HF3.out K; rwa [Int.toNat_natCast] at h
  · have HF2 := Lib.hid (fun K => (HF.out K).trans (if_pos he))
    have hz : n = 0 ∧ wd = 0 := by
      rcases herr with h | h | h
      · exact absurd h he
      · simp at h; exact ⟨h.1, h.2.1⟩
      · simp at h; exact ⟨h.1, h.2.1⟩
    obtain ⟨rfl, rfl⟩ := hz
    have HRa := Lib.hid (HRq.out.at_ p)
    have hq : (eg != 0) = true := by simpa using he
    clear HF herr hback
    go_wp2_with fail
    refine (fail_live g _ p p eg _ HRa.out).mono ?_
    rintro e w3 ⟨rfl, hR3, hO3⟩
    have HR3 := Lib.hid hR3
    have HO3 := Lib.hid ((HOq.out.tr Only.cellG).tr hO3)
    clear hR3 hO3 hfz
    go_wp2_with fail
    go_ret
    exact ⟨_, _, _, _, rfl, HR3.out, HO3.out, .inr ⟨he, rfl, HF2.out⟩⟩
end Go.Proofs.YtkocfgaajghggaaDoor
