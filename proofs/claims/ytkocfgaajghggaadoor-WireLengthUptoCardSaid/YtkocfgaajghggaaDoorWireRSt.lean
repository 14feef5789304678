/- wire: the document's Decode: its memory, its states. (printed by wirerefdec.py) -/
import Derived.Test.YtkocfgaajghggaaDoorWireBound
namespace Go.Proofs.YtkocfgaajghggaaDoor
open Go.RowKit
set_option linter.unusedVariables false
set_option linter.unusedSimpArgs false

structure Gd (w : World) (g2 gm gc : Nat) : Prop where
  l2 : w.heap.size ≤ g2
  lm : w.heap.size ≤ gm
  lc : w.heap.size ≤ gc
  n2m : g2 ≠ gm
  nmc : gm ≠ gc
  n2c : g2 ≠ gc
abbrev InstD.cells (c : InstD) : Array Value := #[.int .i64 c.1, .int .i64 c.2.1, .int .i64 c.2.2.1, .int .i64 c.2.2.2.1, .int .i64 c.2.2.2.2]
structure RSt (w : World) (g2 gm gc : Nat) (c : InstD) (ms : List Int) (cs : List InstD) (vm vc : Value) (wr : World) : Prop where
  res : wr.heap[g2]? = some (.cells #[.slice none 0 0, .slice none 0 0] 25 (0, 0))
  mod : wr.heap[gm]? = some (.cells #[vm, vc] 25 (0, 0))
  ins : wr.heap[gc]? = some (.cells c.cells 44 (0, 0))
  maps : OwS (eInt .i64) 3 (fun k => w.heap.size ≤ k) wr vm ms
  code : OwS eInst 44 (fun k => w.heap.size ≤ k) wr vc cs
  cne : vc.ownBlock ≠ some gc
  only : Only (fun _ => False) w wr
theorem RSt.fresh {w : World} {g2 gm gc : Nat} {c : InstD} {ms : List Int} {cs : List InstD} {vm vc : Value} {wr wr' : World} (h : RSt w g2 gm gc c ms cs vm vc wr)
    (hO : Only (fun _ => False) wr wr') : RSt w g2 gm gc c ms cs vm vc wr' where
  res := hO.heap h.res id
  mod := hO.heap h.mod id
  ins := hO.heap h.ins id
  maps := h.maps.keepT hO fun k hk => id
  code := h.code.keepT hO fun k hk => id
  cne := h.cne
  only := h.only.tr hO
theorem RSt.inst {w : World} {g2 gm gc : Nat} {c c' : InstD} {ms : List Int} {cs : List InstD} {vm vc : Value} {wr wr' : World} (G : Gd w g2 gm gc) (h : RSt w g2 gm gc c ms cs vm vc wr)
    (hO : Only (fun k => k = gc) wr wr') (hi : wr'.heap[gc]? = some (.cells c'.cells 44 (0, 0))) : RSt w g2 gm gc c' ms cs vm vc wr' where
  res := hO.heap h.res G.n2c
  mod := hO.heap h.mod G.nmc
  ins := hi
  maps := h.maps.keepT hO fun k hk e => row_ne h.ins h.maps.1 (by decide) (by rw [hk, e])
  code := h.code.keepT hO fun k hk e => h.cne (by rw [hk, e])
  cne := h.cne
  only := h.only.trans hO fun k hk e => by have := G.lc; omega
theorem RSt.pushM {w : World} {g2 gm gc : Nat} {c : InstD} {ms ms' : List Int} {cs : List InstD} {vm vc v : Value} {wr wr' : World} (G : Gd w g2 gm gc) (h : RSt w g2 gm gc c ms cs vm vc wr)
    (h5 : OwS (eInt .i64) 3 (fun k => vm.ownBlock = some k ∨ wr.heap.size ≤ k) wr' v ms') (hO : Only (fun k => vm.ownBlock = some k) wr wr') : RSt w g2 gm gc c ms' cs v vc (wr'.setCell ⟨gm, 0, none⟩ v) := by
  have h2 := hO.heap h.res (row_ne h.res h.maps.1 (by decide))
  have hm := hO.heap h.mod (row_ne h.mod h.maps.1 (by decide))
  have hi := hO.heap h.ins (row_ne h.ins h.maps.1 (by decide))
  have hc : OwS eInst 44 (fun k => w.heap.size ≤ k) wr' vc cs := h.code.keepT hO fun k hk e => own_ne h.code.1 h.maps.1 (by decide) hk e
  have ho : Only (fun _ => False) w wr' := h.only.trans hO fun k hk e => by have := h.maps.2 k e; omega
  have hs : Only (fun k => k = gm) wr' (wr'.setCell ⟨gm, 0, none⟩ v) := Only.setCell _ _ _ _ _ rfl
  have hsz := h.only.size
  exact {
    res := hs.heap h2 G.n2m
    mod := blk_set hm 0 v
    ins := hs.heap hi fun e => G.nmc e.symm
    maps := OwS.keepT ⟨h5.1, fun k hk => (h5.2 k hk).elim (fun e => h.maps.2 k e) (fun e => by show w.heap.size ≤ k; omega)⟩ hs fun k hk e => row_ne hm h5.1 (by decide) (by rw [hk, e])
    code := hc.keepT hs fun k hk e => row_ne hm hc.1 (by decide) (by rw [hk, e])
    cne := h.cne
    only := ho.trans hs fun k hk e => by have := G.lm; omega }
theorem RSt.pushC {w : World} {g2 gm gc : Nat} {c : InstD} {ms : List Int} {cs cs' : List InstD} {vm vc v : Value} {wr wr' : World} (G : Gd w g2 gm gc) (h : RSt w g2 gm gc c ms cs vm vc wr)
    (h5 : OwS eInst 44 (fun k => vc.ownBlock = some k ∨ wr.heap.size ≤ k) wr' v cs') (hO : Only (fun k => vc.ownBlock = some k) wr wr') : RSt w g2 gm gc c ms cs' vm v (wr'.setCell ⟨gm, 1, none⟩ v) := by
  have h2 := hO.heap h.res (row_ne h.res h.code.1 (by decide))
  have hm := hO.heap h.mod (row_ne h.mod h.code.1 (by decide))
  have hi := hO.heap h.ins h.cne
  have hc : OwS (eInt .i64) 3 (fun k => w.heap.size ≤ k) wr' vm ms := h.maps.keepT hO fun k hk e => own_ne h.maps.1 h.code.1 (by decide) hk e
  have ho : Only (fun _ => False) w wr' := h.only.trans hO fun k hk e => by have := h.code.2 k e; omega
  have hs : Only (fun k => k = gm) wr' (wr'.setCell ⟨gm, 1, none⟩ v) := Only.setCell _ _ _ _ _ rfl
  have hsz := h.only.size
  have hcl := heap_lt h.ins
  exact {
    res := hs.heap h2 G.n2m
    mod := blk_set hm 1 v
    ins := hs.heap hi fun e => G.nmc e.symm
    code := OwS.keepT ⟨h5.1, fun k hk => (h5.2 k hk).elim (fun e => h.code.2 k e) (fun e => by show w.heap.size ≤ k; omega)⟩ hs fun k hk e => row_ne hm h5.1 (by decide) (by rw [hk, e])
    maps := hc.keepT hs fun k hk e => row_ne hm hc.1 (by decide) (by rw [hk, e])
    cne := fun e => (h5.2 gc e).elim h.cne fun h => by omega
    only := ho.trans hs fun k hk e => by have := G.lm; omega }

/- the states -/
def KC (b : List Int) (ms : List Int) (cs : List InstD) (k : Nat) : InstD → Nat → Res := fun i q => codeP b ms k (cs ++ [i]) q
def RInv (b : List Int) (s : Int) (p : Nat) (mp cd : Int) (fr : Nat) (c : InstD) (ms : List Int) (cs : List InstD) : Prop :=
  (s = 3 ∧ ms = [] ∧ cs = [] ∧ p = 3 ∧ decP b = startP b) ∨
  (s = 4 ∧ cs = [] ∧ ∃ k : Nat, mp = ((ms.length + k + 1 : Nat) : Int) ∧ decP b = mapsP b (k + 1) ms p) ∨
  (s = 5 ∧ cs = [] ∧ decP b = countP b ms p) ∨
  (s = 6 ∧ ∃ k : Nat, cd = ((cs.length + k + 1 : Nat) : Int) ∧ decP b = inst1 b (KC b ms cs k) p) ∨
  (s = 7 ∧ ∃ (k : Nat) (op : Int), cd = ((cs.length + k + 1 : Nat) : Int) ∧ c = (op, 0, 0, 0, 0) ∧ decP b = inst2 b fr op (KC b ms cs k) p) ∨
  (s = 8 ∧ ∃ (k : Nat) (op d : Int), cd = ((cs.length + k + 1 : Nat) : Int) ∧ c = (op, d, 0, 0, 0) ∧ decP b = inst3 b fr op d (KC b ms cs k) p) ∨
  (s = 9 ∧ ∃ (k : Nat) (op d a : Int), cd = ((cs.length + k + 1 : Nat) : Int) ∧ c = (op, d, a, 0, 0) ∧ decP b = inst4 b fr op d a (KC b ms cs k) p) ∨
  (s = 10 ∧ ∃ (k : Nat) (op d a x : Int), cd = ((cs.length + k + 1 : Nat) : Int) ∧ c = (op, d, a, x, 0) ∧ decP b = inst5 b fr op d a x (KC b ms cs k) p) ∨
  (s = 11 ∧ decP b = trailP b ms cs p)
theorem field_err {b : List Int} {p : Nat} {most e n wd eg : Int} {K : Int → Nat → Res} (hg : get1 (b.drop p) = (n, wd, eg)) (h : eg ≠ 0) : fieldP b p most e K = .bad p eg := by
  unfold fieldP; rw [hg]; exact if_pos h
theorem field_big {b : List Int} {p : Nat} {most e n wd : Int} {K : Int → Nat → Res} (hg : get1 (b.drop p) = (n, wd, 0)) (h : most < n) : fieldP b p most e K = .bad p e := by
  unfold fieldP; rw [hg]; rw [if_neg (by simp), if_pos h]
theorem field_ok {b : List Int} {p wn : Nat} {most e n : Int} {K : Int → Nat → Res} (hg : get1 (b.drop p) = (n, (wn : Int), 0)) (h : ¬ most < n) : fieldP b p most e K = K n (p + wn) := by
  unfold fieldP; rw [hg]; rw [if_neg (by simp), if_neg h]; simp
theorem rinv_short {b : List Int} {s : Int} {p : Nat} {mp cd : Int} {fr : Nat} {c : InstD} {ms : List Int} {cs : List InstD} {n wd eg : Int} (R : RInv b s p mp cd fr c ms cs) (hs : s ≠ 11) (hg : get1 (b.drop p) = (n, wd, eg)) (h : eg ≠ 0) : decP b = .bad p eg := by
  rcases R with ⟨_, _, _, rfl, R⟩ | ⟨_, _, k, _, R⟩ | ⟨_, _, R⟩ | ⟨_, k, _, R⟩ | ⟨_, k, op, _, _, R⟩ | ⟨_, k, op, d, _, _, R⟩ | ⟨_, k, op, d, a, _, _, R⟩ | ⟨_, k, op, d, a, x, _, _, R⟩ | ⟨h11, R⟩
  · rw [R]; exact field_err hg h
  · rw [R]; exact field_err hg h
  · rw [R]; exact field_err hg h
  · rw [R]; exact field_err hg h
  · rw [R]; exact field_err hg h
  · rw [R]; exact field_err hg h
  · rw [R]; exact field_err hg h
  · rw [R]; unfold inst5 immP; rw [hg]; exact if_pos h
  · exact absurd h11 hs
theorem rinv_bound {b : List Int} {s : Int} {p wn : Nat} {mp cd : Int} {fr : Nat} {c : InstD} {ms : List Int} {cs : List InstD} {n : Int} (R : RInv b s p mp cd fr c ms cs) (hs : s ≠ 11) (hg : get1 (b.drop p) = (n, (wn : Int), 0)) (h : boundP s n ms ≠ 0) : decP b = .bad p (boundP s n ms) := by
  rcases R with ⟨rfl, _, _, rfl, R⟩ | ⟨rfl, _, k, _, R⟩ | ⟨rfl, _, R⟩ | ⟨rfl, k, _, R⟩ | ⟨rfl, k, op, _, _, R⟩ | ⟨rfl, k, op, d, _, _, R⟩ | ⟨rfl, k, op, d, a, _, _, R⟩ | ⟨rfl, k, op, d, a, x, _, _, R⟩ | ⟨h11, R⟩
  · by_cases h1 : 4 < n
    · rw [show boundP 3 n ms = 11 by unfold boundP; simp; omega, R]; exact field_big hg h1
    · exact absurd (show boundP 3 n ms = 0 by unfold boundP; simp; omega) h
  · by_cases h1 : 3 < n
    · rw [show boundP 4 n ms = 12 by unfold boundP; simp; omega, R]; exact field_big hg h1
    · by_cases hin : n ∈ ms
      · rw [show boundP 4 n ms = 12 by unfold boundP; rw [if_neg (by omega), if_neg (by omega), if_pos ⟨rfl, hin⟩], R]
        unfold mapsP; rw [field_ok hg h1, if_pos hin]
      · exact absurd (show boundP 4 n ms = 0 by unfold boundP; rw [if_neg (by omega), if_neg (by omega), if_neg (fun h => hin h.2)]) h
  · by_cases h1 : 64 < n
    · rw [show boundP 5 n ms = 11 by unfold boundP; simp; omega, R]; exact field_big hg h1
    · by_cases h0 : n = 0
      · rw [show boundP 5 n ms = 12 by unfold boundP; rw [if_neg (by omega), if_pos (by omega)], R]
        unfold countP; rw [field_ok hg h1, if_pos h0]
      · exact absurd (show boundP 5 n ms = 0 by unfold boundP; simp; omega) h
  · by_cases h1 : 22 < n
    · rw [show boundP 6 n ms = 12 by unfold boundP; simp; omega, R]; exact field_big hg h1
    · exact absurd (show boundP 6 n ms = 0 by unfold boundP; simp; omega) h
  · by_cases h1 : 63 < n
    · rw [show boundP 7 n ms = 12 by unfold boundP; simp; omega, R]; exact field_big hg h1
    · exact absurd (show boundP 7 n ms = 0 by unfold boundP; simp; omega) h
  · by_cases h1 : 63 < n
    · rw [show boundP 8 n ms = 12 by unfold boundP; simp; omega, R]; exact field_big hg h1
    · exact absurd (show boundP 8 n ms = 0 by unfold boundP; simp; omega) h
  · by_cases h1 : 63 < n
    · rw [show boundP 9 n ms = 12 by unfold boundP; simp; omega, R]; exact field_big hg h1
    · exact absurd (show boundP 9 n ms = 0 by unfold boundP; simp; omega) h
  · exact absurd (show boundP 10 n ms = 0 by unfold boundP; simp) h
  · exact absurd h11 hs
/-- what a bound that holds says -/
theorem bound_ok {s n : Int} {ms : List Int} (h : boundP s n ms = 0) : (s = 3 → ¬ 4 < n) ∧ (s = 4 → ¬ 3 < n ∧ n ∉ ms) ∧ (s = 5 → ¬ 64 < n ∧ n ≠ 0) ∧ (s = 6 → ¬ 22 < n) ∧ (7 ≤ s → s ≤ 9 → ¬ 63 < n) := by
  unfold boundP at h
  split at h
  · omega
  · split at h
    · omega
    · split at h
      · omega
      · rename_i h1 h2 h3
        exact ⟨fun e => by omega, fun e => ⟨by omega, fun hm => h3 ⟨e, hm⟩⟩, fun e => by omega, fun e => by omega, fun e1 e2 => by omega⟩
end Go.Proofs.YtkocfgaajghggaaDoor
