/- wire: the reader's inst. -/
import Derived.Test.YtkocfgaajghggaaDoorWireRdr
namespace Go.Proofs.YtkocfgaajghggaaDoor
open Go.RowKit
set_option linter.unusedVariables false
set_option linter.unusedSimpArgs false

/-- what is left of the whole: it goes on at p, or the first error stands -/
def StR (b : List Int) (total : Res) (R : Nat → Res) (p f : Nat) (e : Int) : Prop := (e = 0 ∧ p ≤ b.length ∧ total = R p) ∨ (e ≠ 0 ∧ total = .bad f e)
def NumSt (g : Nat) (b : List Int) (bv : Value) (p : Nat) (most : Int) (total : Res) (K : Int → Nat → Res) (w : World) (en : Ending) (w' : World) : Prop :=
  ∃ (n : Int) (p' f' : Nat) (e' : Int), en = .returned (.int .i64 n) ∧ RdrB g bv p' f' e' w' ∧ Only (fun k => k = g) w w' ∧ (0 ≤ n ∧ n ≤ most) ∧ ((e' ≠ 0 → n = 0) ∧ (e' = 0 → f' = p)) ∧ StR b total (K n) p' f' e'
theorem number_st (g : Nat) (b : List Int) (bv : Value) (p f : Nat) (e most er : Int) (w : World) (total : Res) (K : Int → Nat → Res) (hR : RdrB g bv p f e w) (hb : Rd eU8 w bv b) (hby : ∀ x ∈ b, 0 ≤ x ∧ x ≤ 255) (hne : 0 < b.length → bv.ownBlock ≠ some g)
    (hmost : 0 ≤ most ∧ most ≤ 9223372036854775807) (her : er ≠ 0) (hS : StR b total (fun q => fieldP b q most er K) p f e) :
    Calls Tryd.prog 26 #[.pointer (some ⟨g, 0, none⟩), .int .u64 most, .int .i64 er] w (NumSt g b bv p most total K w) := by
  rcases hS with ⟨rfl, hp, ht⟩ | ⟨he, ht⟩
  · refine (number_live g b bv p f most er w hR hb hby hne hp hmost her).mono ?_
    rintro en w' ⟨n, p', f', e', h1, h2, h3, h4⟩
    rcases h4 with ⟨h5, hf, h6, h7, h8, h9⟩ | ⟨h5, h6, h7⟩
    · exact ⟨n, p', f', e', h1, h2, h3, ⟨h6, h7⟩, ⟨fun h => absurd h5 h, fun _ => hf⟩, .inl ⟨h5, h8, ht.trans (h9 K)⟩⟩
    · exact ⟨n, p', f', e', h1, h2, h3, by rw [h6]; omega, ⟨fun _ => h6, fun h => absurd h h5⟩, .inr ⟨h5, ht.trans (h7 K)⟩⟩
  · refine (number_dead g bv p f e most er w hR he).mono ?_
    rintro en w' ⟨h1, rfl⟩
    exact ⟨0, p, f, e, h1, hR, Only.refl _ _, by omega, ⟨fun _ => rfl, fun h => absurd h he⟩, .inr ⟨he, ht⟩⟩
theorem unzz_range (n : Int) (h : 0 ≤ n ∧ n ≤ 18446744073709551615) : -9223372036854775808 ≤ unzz n ∧ unzz n ≤ 9223372036854775807 := by unfold unzz; split <;> omega
theorem RdrB.far {g k i : Nat} {bv v : Value} {p f : Nat} {e : Int} {w : World} (h : RdrB g bv p f e w) (hne : g ≠ k) : RdrB g bv p f e (w.setCell ⟨k, i, none⟩ v) := heap_setCell_far h k i v hne
theorem RdrB.alloc {g : Nat} {bv : Value} {p f : Nat} {e : Int} {w : World} (h : RdrB g bv p f e w) (o : Obj) : RdrB g bv p f e (w.alloc o) := heap_alloc h
theorem Forms.beside {g : Nat} {w w' : World} (h : Forms w) (hg : 0 < g) (hl : g < w.heap.size) (hO : Only (fun k => k = g) w w') : Forms w' := h.below (hO.below (B := 1) (by omega) fun k hk => by omega) (by omega)
theorem only_setRow (w : World) (g : Nat) (cs : Array Value) : Only (fun k => k = g) w (w.setRow g cs) := ⟨rfl, rfl, rfl, by simp [World.setRow], fun k hk hn => setRow_other w g k cs hn⟩
theorem inst_one (a b c d e : Int) : (#[Value.int .i64 a, .int .i64 b, .int .i64 c, .int .i64 d, .int .i64 e].all (·.oneCell')) = true := by simp [Value.oneCell']
def InstPost (g : Nat) (b : List Int) (bv : Value) (total : Res) (K : InstD → Nat → Res) (w : World) (en : Ending) (w' : World) : Prop :=
  ∃ (i : InstD) (p' f' : Nat) (e' : Int), en = .returned i.v ∧ RdrB g bv p' f' e' w' ∧ Only (fun k => k = g) w w' ∧ (e' = 0 → ImmOk i) ∧ StR b total (K i) p' f' e'

set_option maxRecDepth 100000 in
set_option maxHeartbeats 8000000 in
theorem inst_st (g : Nat) (b : List Int) (bv : Value) (p f : Nat) (w : World) (total : Res) (K : InstD → Nat → Res) (hR : RdrB g bv p f 0 w) (hb : Rd eU8 w bv b) (hby : ∀ x ∈ b, 0 ≤ x ∧ x ≤ 255) (hne : 0 < b.length → bv.ownBlock ≠ some g)
    (hF : Forms w) (hg : 0 < g) (hp : p ≤ b.length) (ht : total = inst1 b K p) :
    Calls Tryd.prog 29 #[.pointer (some ⟨g, 0, none⟩)] w (InstPost g b bv total K w) := by
  have HN := Lib.hid (fun W (h : Rd eU8 W bv b) p f e most er K hR hmost her hS => number_st g b bv p f e most er W total K hR h hby hne hmost her hS)
  have HBY := Lib.hid hby
  have HF := Lib.hid hF
  have HT := Lib.hid (show StR b total (fun q => fieldP b q 22 12 fun op q => inst2 b p op K q) p f 0 from .inl ⟨rfl, hp, ht⟩)
  have hgl := hR.lt
  have HRD := Lib.hid hb
  obtain ⟨w1, hw1⟩ : ∃ w1, w1 = w.alloc (.cells #[.int .i64 0, .int .i64 0, .int .i64 0, .int .i64 0, .int .i64 0] 44) := ⟨_, rfl⟩
  have HW1 := Lib.hid hw1
  have HR1 := Lib.hid (show RdrB g bv p f 0 w1 by rw [hw1]; exact hR.alloc _)
  have HO1 := Lib.hid (show Only (fun k => k = g) w w1 by rw [hw1]; exact Only.alloc _ _ _)
  have HB2 := Lib.hid (show w1.heap[w.heap.size]? = some (.cells #[.int .i64 0, .int .i64 0, .int .i64 0, .int .i64 0, .int .i64 0] 44 (0, 0)) by rw [hw1]; exact heap_alloc_new w _)
  obtain ⟨c0, c1, c2, c3⟩ := hR.cells
  clear hR hw1 ht hF hb hby
  go_enter Tryd.func29, Tryd.ntmps29
  go_wp2_with fail
  rw [← HW1.out]
  have hg2 : g ≠ w.heap.size := by omega
  generalize hgs : w.heap.size = g2 at *
  have HG2 := Lib.hid hgs
  clear hgs
  clear c0 c1 c2 c3
  refine (HN.out _ (HRD.out.beside HO1.out hne) p f 0 22 12 _ HR1.out (by omega) (by omega) HT.out).mono ?_
  rintro en w3 ⟨op, p3, f3, e3, rfl, hR3, hO3, hop, hz3, hS3⟩
  have HB2b := Lib.hid (hO3.heap HB2.out (fun h => hg2 h.symm))
  have hgl3 := heap_lt HB2b.out
  have HOb := Lib.hid (HO1.out.tr hO3)
  have HR3 := Lib.hid hR3
  have HS3 := Lib.hid (show StR b total (inst2 b p op K) p3 f3 e3 from hS3)
  have HZ3 := Lib.hid hz3
  clear hR3 hO3 hS3 hz3 HR1 HB2 HO1 HT
  obtain ⟨w4, hw4⟩ : ∃ w4, w4 = w3.alloc (.cells #[.int .i64 op, .int .i64 0, .int .i64 0, .int .i64 0, .int .i64 0] 44) := ⟨_, rfl⟩
  have HW4 := Lib.hid hw4
  have HR4 := Lib.hid (show RdrB g bv p3 f3 e3 w4 by rw [hw4]; exact HR3.out.alloc _)
  have HO4 := Lib.hid (show Only (fun k => k = g) w w4 by rw [hw4]; exact HOb.out.tr (Only.alloc _ _ _))
  have HB2c := Lib.hid (show w4.heap[g2]? = some (.cells #[.int .i64 0, .int .i64 0, .int .i64 0, .int .i64 0, .int .i64 0] 44 (0, 0)) by rw [hw4]; exact heap_alloc HB2b.out)
  have HB4 := Lib.hid (show w4.heap[w3.heap.size]? = some (.cells #[.int .i64 op, .int .i64 0, .int .i64 0, .int .i64 0, .int .i64 0] 44 (0, 0)) by rw [hw4]; exact heap_alloc_new w3 _)
  clear hw4
  go_wp2_with fail
  rw [← HW4.out]
  have hg4 : g ≠ w3.heap.size := by omega
  have hg24 : g2 ≠ w3.heap.size := by omega
  have hg4l : g2 < w3.heap.size := hgl3
  generalize w3.heap.size = g4 at *
  clear HW4 HR3 HOb HB2b hgl3
  refine (HN.out _ (HRD.out.beside HO4.out hne) p3 f3 e3 63 12 (fun d q => inst3 b p op d K q) HR4.out (by omega) (by omega) HS3.out).mono ?_
  rintro en w5 ⟨d, p2q, f2q, e2q, rfl, hR2q, hO2q, hdr, hz2q, hS2q⟩
  have hb2q := hO2q.heap HB4.out (fun h => hg4 h.symm)
  have fz2q : ∀ i, w5.frozen? ⟨g4, i, none⟩ = false := fun i => blk_free hb2q i
  have ex2q := cells_of_heap hb2q 1 _ rfl
  have HB2q := Lib.hid (show (w5.setCell ⟨g4, 1, none⟩ (.int .i64 d)).heap[g4]? = some (.cells #[.int .i64 op, .int .i64 d, .int .i64 0, .int .i64 0, .int .i64 0] 44 (0, 0)) from blk_set hb2q 1 _)
  have HC2q := Lib.hid (heap_setCell_far (hO2q.heap HB2c.out (fun h => hg2 h.symm)) g4 1 (.int .i64 d) hg24)
  have HR2q := Lib.hid (hR2q.far (i := 1) (v := .int .i64 d) hg4)
  have HO2q := Lib.hid (((HO4.out.tr hO2q)).trans (Only.setCell (fun k => k = g4) w5 g4 1 (.int .i64 d) rfl) (fun k hk h => by have := HG2.out; omega))
  have HS2q := Lib.hid (show StR b total (inst3 b p op d K) p2q f2q e2q from hS2q)
  have HZ2q := Lib.hid hz2q
  clear hR2q hO2q hS2q hz2q hb2q HR4 HO4 HB2c HB4 HS3
  go_wp2_with fail
  clear fz2q ex2q
  generalize w5.setCell ⟨g4, 1, none⟩ (.int .i64 d) = w6 at *
  refine (HN.out _ (HRD.out.beside HO2q.out hne) p2q f2q e2q 63 12 (fun a q => inst4 b p op d a K q) HR2q.out (by omega) (by omega) HS2q.out).mono ?_
  rintro en w7 ⟨a, p3q, f3q, e3q, rfl, hR3q, hO3q, har, hz3q, hS3q⟩
  have hb3q := hO3q.heap HB2q.out (fun h => hg4 h.symm)
  have fz3q : ∀ i, w7.frozen? ⟨g4, i, none⟩ = false := fun i => blk_free hb3q i
  have ex3q := cells_of_heap hb3q 2 _ rfl
  have HB3q := Lib.hid (show (w7.setCell ⟨g4, 2, none⟩ (.int .i64 a)).heap[g4]? = some (.cells #[.int .i64 op, .int .i64 d, .int .i64 a, .int .i64 0, .int .i64 0] 44 (0, 0)) from blk_set hb3q 2 _)
  have HC3q := Lib.hid (heap_setCell_far (hO3q.heap HC2q.out (fun h => hg2 h.symm)) g4 2 (.int .i64 a) hg24)
  have HR3q := Lib.hid (hR3q.far (i := 2) (v := .int .i64 a) hg4)
  have HO3q := Lib.hid (((HO2q.out.tr hO3q)).trans (Only.setCell (fun k => k = g4) w7 g4 2 (.int .i64 a) rfl) (fun k hk h => by have := HG2.out; omega))
  have HS3q := Lib.hid (show StR b total (inst4 b p op d a K) p3q f3q e3q from hS3q)
  have HZ3q := Lib.hid hz3q
  clear hR3q hO3q hS3q hz3q hb3q HR2q HO2q HC2q HB2q HS2q
  go_wp2_with fail
  clear fz3q ex3q
  generalize w7.setCell ⟨g4, 2, none⟩ (.int .i64 a) = w8 at *
  refine (HN.out _ (HRD.out.beside HO3q.out hne) p3q f3q e3q 63 12 (fun x q => inst5 b p op d a x K q) HR3q.out (by omega) (by omega) HS3q.out).mono ?_
  rintro en w9 ⟨x, p4q, f4q, e4q, rfl, hR4q, hO4q, hxr, hz4q, hS4q⟩
  have hb4q := hO4q.heap HB3q.out (fun h => hg4 h.symm)
  have fz4q : ∀ i, w9.frozen? ⟨g4, i, none⟩ = false := fun i => blk_free hb4q i
  have ex4q := cells_of_heap hb4q 3 _ rfl
  have HB4q := Lib.hid (show (w9.setCell ⟨g4, 3, none⟩ (.int .i64 x)).heap[g4]? = some (.cells #[.int .i64 op, .int .i64 d, .int .i64 a, .int .i64 x, .int .i64 0] 44 (0, 0)) from blk_set hb4q 3 _)
  have HC4q := Lib.hid (heap_setCell_far (hO4q.heap HC3q.out (fun h => hg2 h.symm)) g4 3 (.int .i64 x) hg24)
  have HR4q := Lib.hid (hR4q.far (i := 3) (v := .int .i64 x) hg4)
  have HO4q := Lib.hid (((HO3q.out.tr hO4q)).trans (Only.setCell (fun k => k = g4) w9 g4 3 (.int .i64 x) rfl) (fun k hk h => by have := HG2.out; omega))
  have HS4q := Lib.hid (show StR b total (inst5 b p op d a x K) p4q f4q e4q from hS4q)
  have HZ4q := Lib.hid hz4q
  obtain ⟨c0, c1, c2, c3⟩ := hR4q.cells
  have hfz := hR4q.free
  have d0 := cells_of_heap hb4q 0 _ rfl
  have d1 := cells_of_heap hb4q 1 _ rfl
  have d2 := cells_of_heap hb4q 2 _ rfl
  have d4 := cells_of_heap hb4q 4 _ rfl
  clear hR4q hO4q hS4q hz4q hb4q HR3q HO3q HC3q HB3q HS3q
  by_cases he : e4q = 0
  · subst he
    have hS : p4q ≤ b.length ∧ total = inst5 b p op d a x K p4q := by
      rcases HS4q.out with ⟨_, h1, h2⟩ | ⟨h, _⟩
      · exact ⟨h1, h2⟩
      · exact absurd rfl h
    obtain ⟨hp4, ht⟩ := hS
    obtain ⟨n, wd, eg, hgt⟩ : ∃ n wd eg, get1 (b.drop p4q) = (n, wd, eg) := ⟨_, _, _, rfl⟩
    have HT := Lib.hid (show total = if eg ≠ 0 then .bad p4q eg else if rightP ⟨op, d, a, x, unzz n⟩ then K (op, d, a, x, unzz n) (p4q + wd.toNat) else .bad p 12 by rw [ht]; unfold inst5 immP; rw [hgt])
    have HG := Lib.hid (fun v W (h : Rd eU8 W v (b.drop p4q)) => getInt_any (b.drop p4q) v W h (drop_bytes HBY.out p4q))
    rw [hgt] at HG
    have herr := get1_err (b.drop p4q)
    rw [hgt] at herr
    have hback := fun h0 : eg = 0 => get1_back (b.drop p4q) n wd (drop_bytes HBY.out p4q) (by rw [hgt, h0])
    clear ht hgt
    go_wp2_with fail
    generalize w9.setCell ⟨g4, 3, none⟩ (.int .i64 x) = wA at *
    have HRf := Lib.hid (HR4q.out.field p4q)
    have HBf := Lib.hid (heap_setCell_far HB4q.out g 2 (.int .i64 (p4q : Int)) (fun h => hg4 h.symm))
    have HCf := Lib.hid (heap_setCell_far HC4q.out g 2 (.int .i64 (p4q : Int)) (fun h => hg2 h.symm))
    have HOf := Lib.hid (HO4q.out.tr (Only.cellG (i := 2) (v := .int .i64 (p4q : Int))))
    clear c0 c1 c2 c3 d0 d1 d2 d4 hfz fz4q ex4q HR4q HB4q HC4q HO4q
    generalize wA.setCell ⟨g, 2, none⟩ (.int .i64 (p4q : Int)) = wB at *
    have HRDB := Lib.hid (HRD.out.beside HOf.out hne)
    obtain ⟨hmx, ao, cap, rfl, hcap, _, _⟩ := id HRD.out
    unfold maxLen at hmx
    have HSL := Lib.hid (fun nq => ((HRDB.out.sliced p4q p4q (by simp [eInt]) hp4).drewN nq))
    obtain ⟨c0, c1, c2, c3⟩ := HRf.out.cells
    have hi0 : (0 : Int) ≤ (p4q : Int) := by omega
    have hi1 : (p4q : Int) ≤ (b.length : Int) := by omega
    have hi2 : (p4q : Int) ≤ (cap : Int) := by omega
    go_quiet ((go_at_call 43; exact Calls.quiet_of_same ((HG.out _ _ (HSL.out _)).mono fun _ _ ⟨h1, h2⟩ => ⟨h1, h2.symm⟩)))
    generalize (if cap = p4q then ao else Option.map (fun x => x.add p4q) ao) = aq at *
    generalize hwq : wB.drewN nq = wq at *
    have HRq := Lib.hid (show RdrB g (.slice ao b.length cap) p4q p4q 0 wq by rw [← hwq]; exact HRf.out.drew nq)
    have HOq := Lib.hid (show Only (fun k => k = g) w wq by rw [← hwq]; exact HOf.out.drewN nq)
    have HBq := Lib.hid (show wq.heap[g4]? = some (.cells #[.int .i64 op, .int .i64 d, .int .i64 a, .int .i64 x, .int .i64 0] 44 (0, 0)) by rw [← hwq]; exact HBf.out)
    have HCq := Lib.hid (show wq.heap[g2]? = some (.cells #[.int .i64 0, .int .i64 0, .int .i64 0, .int .i64 0, .int .i64 0] 44 (0, 0)) by rw [← hwq]; exact HCf.out)
    clear hwq c0 c1 c2 c3 HSL HRf HOf HBf HCf HRDB
    obtain ⟨c0, c1, c2, c3⟩ := HRq.out.cells
    have hfz := HRq.out.free
    have hfz4 : ∀ i, wq.frozen? ⟨g4, i, none⟩ = false := fun i => blk_free HBq.out i
    have d0 := cells_of_heap HBq.out 0 _ rfl
    have d1 := cells_of_heap HBq.out 1 _ rfl
    have d2 := cells_of_heap HBq.out 2 _ rfl
    have d3 := cells_of_heap HBq.out 3 _ rfl
    have d4 := cells_of_heap HBq.out 4 _ rfl
    have hpw : IntKind.i64.wrap (p4q : Int) = (p4q : Int) := by rw [IntKind.wrap_i64]; omega
    have hg42 : ¬ g4 = g := fun h => hg4 h.symm
    by_cases hz : eg = 0
    · subst hz
      obtain ⟨n0, n1, rfl, hl, _⟩ := hback rfl
      have him := unzz_range n ⟨n0, n1⟩
      generalize (leb1 n).length = wn at *
      generalize unzz n = im at *
      have hl2 : p4q + wn ≤ b.length := by simp at hl; omega
      have HT2 := Lib.hid (show total = if rightP ⟨op, d, a, x, im⟩ then K (op, d, a, x, im) (p4q + wn) else .bad p 12 by
        have h := HT.out
        rwa [if_neg (by simp), Int.toNat_natCast] at h)
      have HRc := Lib.hid (show RdrB g (.slice ao b.length cap) (p4q + wn) p4q 0 ((wq.setCell ⟨g, 1, none⟩ (.int .i64 ((p4q : Int) + (wn : Int)))).setCell ⟨g4, 4, none⟩ (.int .i64 im)) by
        have h := HRq.out.at_ (p4q + wn)
        rw [Int.natCast_add] at h
        exact h.far hg4)
      have HBc := Lib.hid (show ((wq.setCell ⟨g, 1, none⟩ (.int .i64 ((p4q : Int) + (wn : Int)))).setCell ⟨g4, 4, none⟩ (.int .i64 im)).heap[g4]? = some (.cells #[.int .i64 op, .int .i64 d, .int .i64 a, .int .i64 x, .int .i64 im] 44 (0, 0)) from
        blk_set (heap_setCell_far HBq.out g 1 _ hg42) 4 _)
      have HCc := Lib.hid (heap_setCell_far (heap_setCell_far HCq.out g 1 (.int .i64 ((p4q : Int) + (wn : Int))) (fun h => hg2 h.symm)) g4 4 (.int .i64 im) hg24)
      have HOc := Lib.hid ((HOq.out.tr (Only.cellG (i := 1) (v := .int .i64 ((p4q : Int) + (wn : Int))))).trans (Only.setCell (fun k => k = g4) _ g4 4 (.int .i64 im) rfl) (fun k hk h => by have := HG2.out; omega))
      have HFc := Lib.hid (HF.out.beside hg (by rw [HG2.out]; omega) HOc.out)
      have HAL := Lib.hid (fun W v (h : Rd eInst W v [((op, d, a, x, im) : InstD)]) h2 => rightAll_any [(op, d, a, x, im)] v W h h2)
      cases hr : rightP ⟨op, d, a, x, im⟩
      · rw [show allP [((op, d, a, x, im) : InstD)] = false by simp [allP, In.of, hr]] at HAL
        rw [hr] at HT2
        have HT3 := Lib.hid (show total = .bad p 12 from HT2.out)
        clear hr HT HT2 herr hback
        go_wp2_with fail
        have hsz : ((wq.setCell ⟨g, 1, none⟩ (.int .i64 ((p4q : Int) + (wn : Int)))).setCell ⟨g4, 4, none⟩ (.int .i64 im)).heap.size = wq.heap.size := by simp
        clear c0 c1 c2 c3 d0 d1 d2 d3 d4 hfz hfz4 HRq HOq HBq HCq
        generalize (wq.setCell ⟨g, 1, none⟩ (.int .i64 ((p4q : Int) + (wn : Int)))).setCell ⟨g4, 4, none⟩ (.int .i64 im) = wC at *
        have HRL := Lib.hid (Rd.lit (E := eInst) wC #[.int .i64 op, .int .i64 d, .int .i64 a, .int .i64 x, .int .i64 im] 44 (0, 0) 1 1 [((op, d, a, x, im) : InstD)] rfl rfl (by simp) (by simp [maxLen]))
        rw [hsz] at HRL
        clear hsz
        refine (HAL.out _ _ HRL.out (HFc.out.only (Only.alloc _ _ _))).mono ?_
        rintro en wD ⟨rfl, hOD⟩
        have hRD : RdrB g (.slice ao b.length cap) (p4q + wn) p4q 0 wD := hOD.heap (HRc.out.alloc _) (fun h => h)
        have hBD := hOD.heap (heap_alloc (p := .cells #[.int .i64 op, .int .i64 d, .int .i64 a, .int .i64 x, .int .i64 im] 44) HBc.out) (fun h => h)
        have hCD := hOD.heap (heap_alloc (p := .cells #[.int .i64 op, .int .i64 d, .int .i64 a, .int .i64 x, .int .i64 im] 44) HCc.out) (fun h => h)
        have HOD := Lib.hid ((HOc.out.tr (Only.falseG (Only.alloc _ _ _))).tr hOD.falseG)
        clear hOD HRL HRc HBc HCc HOc HFc HAL
        obtain ⟨c0, c1, c2, c3⟩ := hRD.cells
        have hfz := hRD.free
        have HRD2 := Lib.hid (hRD.field p)
        have HBD := Lib.hid (heap_setCell_far hBD g 2 (.int .i64 (p : Int)) hg42)
        have HCD := Lib.hid (heap_setCell_far hCD g 2 (.int .i64 (p : Int)) (fun h => hg2 h.symm))
        have HOD2 := Lib.hid (HOD.out.tr (Only.cellG (i := 2) (v := .int .i64 (p : Int))))
        clear hRD hBD hCD
        go_wp2_with fail
        refine (fail_live g _ (p4q + wn) p 12 _ HRD2.out).mono ?_
        rintro en wE ⟨rfl, hRC, hOC⟩
        have HRd := Lib.hid hRC
        have HBd := Lib.hid (hOC.heap HBD.out (fun h => hg42 h))
        have HCd := Lib.hid (hOC.heap HCD.out (fun h => hg2 h.symm))
        have HOd := Lib.hid (HOD2.out.tr hOC)
        have d0 := cells_of_heap HBd.out 0 _ rfl
        have d1 := cells_of_heap HBd.out 1 _ rfl
        have d2 := cells_of_heap HBd.out 2 _ rfl
        have d3 := cells_of_heap HBd.out 3 _ rfl
        have d4 := cells_of_heap HBd.out 4 _ rfl
        clear hRC hOC c0 c1 c2 c3 hfz HRD2 HBD HCD HOD HOD2
        go_wp2_with (refine wpList_store_row rfl 44 (.tmp 2) (.tmp 76) rfl g2 _ rfl rfl 44 _ HCd.out (by kernel_rfl) rfl (inst_one _ _ _ _ _) ?_)
        refine bodyPost_ret (results_cell_row rfl _ _ g2 _ _ _ _ rfl (setRow_heap _ _ _ _ _ _ HCd.out) Tryd.underlying44 rfl (by kernel_rfl)) rfl ?_
        exact ⟨(op, d, a, x, im), p4q + wn, p, 12, rfl, (only_setRow _ g2 _).heap HRd.out hg2, HOd.out.trans (only_setRow _ g2 _) (fun k hk h => by have := HG2.out; omega), fun h => absurd h (by decide), .inr ⟨by decide, HT3.out⟩⟩
      · rw [show allP [((op, d, a, x, im) : InstD)] = true by simp [allP, In.of, hr]] at HAL
        rw [hr] at HT2
        have HT3 := Lib.hid (show total = K (op, d, a, x, im) (p4q + wn) from HT2.out)
        clear hr HT HT2 herr hback
        go_wp2_with fail
        have hsz : ((wq.setCell ⟨g, 1, none⟩ (.int .i64 ((p4q : Int) + (wn : Int)))).setCell ⟨g4, 4, none⟩ (.int .i64 im)).heap.size = wq.heap.size := by simp
        clear c0 c1 c2 c3 d0 d1 d2 d3 d4 hfz hfz4 HRq HOq HBq HCq
        generalize (wq.setCell ⟨g, 1, none⟩ (.int .i64 ((p4q : Int) + (wn : Int)))).setCell ⟨g4, 4, none⟩ (.int .i64 im) = wC at *
        have HRL := Lib.hid (Rd.lit (E := eInst) wC #[.int .i64 op, .int .i64 d, .int .i64 a, .int .i64 x, .int .i64 im] 44 (0, 0) 1 1 [((op, d, a, x, im) : InstD)] rfl rfl (by simp) (by simp [maxLen]))
        rw [hsz] at HRL
        clear hsz
        refine (HAL.out _ _ HRL.out (HFc.out.only (Only.alloc _ _ _))).mono ?_
        rintro en wD ⟨rfl, hOD⟩
        have hRD : RdrB g (.slice ao b.length cap) (p4q + wn) p4q 0 wD := hOD.heap (HRc.out.alloc _) (fun h => h)
        have hBD := hOD.heap (heap_alloc (p := .cells #[.int .i64 op, .int .i64 d, .int .i64 a, .int .i64 x, .int .i64 im] 44) HBc.out) (fun h => h)
        have hCD := hOD.heap (heap_alloc (p := .cells #[.int .i64 op, .int .i64 d, .int .i64 a, .int .i64 x, .int .i64 im] 44) HCc.out) (fun h => h)
        have HOD := Lib.hid ((HOc.out.tr (Only.falseG (Only.alloc _ _ _))).tr hOD.falseG)
        clear hOD HRL HRc HBc HCc HOc HFc HAL
        obtain ⟨c0, c1, c2, c3⟩ := hRD.cells
        have d0 := cells_of_heap hBD 0 _ rfl
        have d1 := cells_of_heap hBD 1 _ rfl
        have d2 := cells_of_heap hBD 2 _ rfl
        have d3 := cells_of_heap hBD 3 _ rfl
        have d4 := cells_of_heap hBD 4 _ rfl
        have HCd := Lib.hid hCD
        have HRd := Lib.hid hRD
        clear hRD hBD hCD
        go_wp2_with (refine wpList_store_row rfl 44 (.tmp 2) (.tmp 76) rfl g2 _ rfl rfl 44 _ HCd.out (by kernel_rfl) rfl (inst_one _ _ _ _ _) ?_)
        refine bodyPost_ret (results_cell_row rfl _ _ g2 _ _ _ _ rfl (setRow_heap _ _ _ _ _ _ HCd.out) Tryd.underlying44 rfl (by kernel_rfl)) rfl ?_
        exact ⟨(op, d, a, x, im), p4q + wn, p4q, 0, rfl, (only_setRow _ g2 _).heap HRd.out hg2, HOD.out.trans (only_setRow _ g2 _) (fun k hk h => by have := HG2.out; omega), fun _ => him, .inl ⟨rfl, hl2, HT3.out⟩⟩
    · have HT2 := Lib.hid (show total = .bad p4q eg from (HT.out).trans (if_pos hz))
      have hzz : n = 0 ∧ wd = 0 := by
        rcases herr with h | h | h
        · exact absurd h hz
        · simp at h; exact ⟨h.1, h.2.1⟩
        · simp at h; exact ⟨h.1, h.2.1⟩
      obtain ⟨rfl, rfl⟩ := hzz
      have hu0 : unzz 0 = 0 := by decide
      rw [hu0]
      have HRc := Lib.hid ((HRq.out.at_ p4q).far (i := 4) (v := .int .i64 0) hg4)
      have HBc := Lib.hid (show ((wq.setCell ⟨g, 1, none⟩ (.int .i64 (p4q : Int))).setCell ⟨g4, 4, none⟩ (.int .i64 0)).heap[g4]? = some (.cells #[.int .i64 op, .int .i64 d, .int .i64 a, .int .i64 x, .int .i64 0] 44 (0, 0)) from
        blk_set (heap_setCell_far HBq.out g 1 _ hg42) 4 _)
      have HCc := Lib.hid (heap_setCell_far (heap_setCell_far HCq.out g 1 (.int .i64 (p4q : Int)) (fun h => hg2 h.symm)) g4 4 (.int .i64 0) hg24)
      have HOc := Lib.hid ((HOq.out.tr (Only.cellG (i := 1) (v := .int .i64 (p4q : Int)))).trans (Only.setCell (fun k => k = g4) _ g4 4 (.int .i64 0) rfl) (fun k hk h => by have := HG2.out; omega))
      have hq : (eg != 0) = true := by simpa using hz
      clear HT herr hback
      go_wp2_with fail
      refine (fail_live g _ p4q p4q eg _ HRc.out).mono ?_
      rintro en wC ⟨rfl, hRC, hOC⟩
      have HRd := Lib.hid hRC
      have HBd := Lib.hid (hOC.heap HBc.out (fun h => hg42 h))
      have HCd := Lib.hid (hOC.heap HCc.out (fun h => hg2 h.symm))
      have HOd := Lib.hid (HOc.out.tr hOC)
      have d0 := cells_of_heap HBd.out 0 _ rfl
      have d1 := cells_of_heap HBd.out 1 _ rfl
      have d2 := cells_of_heap HBd.out 2 _ rfl
      have d3 := cells_of_heap HBd.out 3 _ rfl
      have d4 := cells_of_heap HBd.out 4 _ rfl
      clear hRC hOC c0 c1 c2 c3 hfz hfz4 HRc HBc HCc HOc HRq HOq HBq HCq
      go_wp2_with (refine wpList_store_row rfl 44 (.tmp 2) (.tmp 76) rfl g2 _ rfl rfl 44 _ HCd.out (by kernel_rfl) rfl (inst_one _ _ _ _ _) ?_)
      refine bodyPost_ret (results_cell_row rfl _ _ g2 _ _ _ _ rfl (setRow_heap _ _ _ _ _ _ HCd.out) Tryd.underlying44 rfl (by kernel_rfl)) rfl ?_
      exact ⟨(op, d, a, x, 0), p4q, p4q, eg, rfl, (only_setRow _ g2 _).heap HRd.out hg2, HOd.out.trans (only_setRow _ g2 _) (fun k hk h => by have := HG2.out; omega), fun h => absurd h hz, .inr ⟨hz, HT2.out⟩⟩
  · have hq : (e4q != 0) = true := by simpa using he
    have HT := Lib.hid (show total = .bad f4q e4q by
      rcases HS4q.out with ⟨h, _⟩ | ⟨_, h⟩
      · exact absurd h he
      · exact h)
    go_wp2_with (refine wpList_store_row rfl 44 (.tmp 2) (.tmp 29) rfl g2 _ rfl rfl 44 _ HC4q.out (by kernel_rfl) rfl (inst_one _ _ _ _ _) ?_)
    refine bodyPost_ret (results_cell_row rfl _ _ g2 _ _ _ _ rfl (setRow_heap _ _ _ _ _ _ HC4q.out) Tryd.underlying44 rfl (by kernel_rfl)) rfl ?_
    exact ⟨(op, d, a, x, 0), p4q, f4q, e4q, rfl, (only_setRow _ g2 _).heap HR4q.out hg2, HO4q.out.trans (only_setRow _ g2 _) (fun k hk h => by have := HG2.out; omega), fun h => absurd h he, .inr ⟨he, HT.out⟩⟩
end Go.Proofs.YtkocfgaajghggaaDoor
