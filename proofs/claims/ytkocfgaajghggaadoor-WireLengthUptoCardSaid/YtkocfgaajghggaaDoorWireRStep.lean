/- wire: the document's Decode: from state to state. -/
import Derived.Test.YtkocfgaajghggaaDoorWireRSt
namespace Go.Proofs.YtkocfgaajghggaaDoor
open Go.RowKit
set_option linter.unusedVariables false
set_option linter.unusedSimpArgs false

theorem next3 {a c : Int} : nextP 3 a c = if 0 < a then 4 else 5 := by unfold nextP; by_cases h : 0 < a <;> simp [h]
theorem next4 {a c : Int} : nextP 4 a c = if 0 < a then 4 else 5 := by unfold nextP; by_cases h : 0 < a <;> simp [h]
theorem next10 {a c : Int} : nextP 10 a c = if 0 < c then 6 else 11 := by unfold nextP; by_cases h : 0 < c <;> simp [h]
theorem step3 {b : List Int} {p wn : Nat} {n : Int} (hp : p = 3) (R : decP b = startP b) (hg : get1 (b.drop p) = (n, (wn : Int), 0)) (h : ¬ 4 < n) (h0 : 0 ≤ n) {cd a cc : Int} {fr : Nat} {c : InstD} (ha : a = n) :
    RInv b (nextP 3 a cc) (p + wn) n cd fr c [] [] := by
  subst ha
  have e : decP b = mapsP b a.toNat [] (p + wn) := by
    rw [R]; unfold startP; subst hp; exact field_ok hg h
  rw [next3]
  by_cases h1 : 0 < a
  · rw [if_pos h1]
    obtain ⟨k, hk⟩ : ∃ k : Nat, a.toNat = k + 1 := ⟨a.toNat - 1, by omega⟩
    rw [hk] at e
    exact .inr (.inl ⟨rfl, rfl, k, by simp; omega, e⟩)
  · rw [if_neg h1]
    rw [show a.toNat = 0 by omega] at e
    exact .inr (.inr (.inl ⟨rfl, rfl, e⟩))
theorem step4 {b : List Int} {p wn k : Nat} {n mp : Int} {ms : List Int} (hm : mp = ((ms.length + k + 1 : Nat) : Int)) (R : decP b = mapsP b (k + 1) ms p) (hg : get1 (b.drop p) = (n, (wn : Int), 0)) (h : ¬ 3 < n) (hn : n ∉ ms) {cd a cc : Int} {fr : Nat} {c : InstD} (ha : a = mp - ((ms.length : Int) + 1)) :
    RInv b (nextP 4 a cc) (p + wn) mp cd fr c (ms ++ [n]) [] := by
  have e : decP b = mapsP b k (ms ++ [n]) (p + wn) := by
    rw [R]; unfold mapsP; rw [field_ok hg h, if_neg hn]; rw [mapsP.eq_def]
  rw [next4]
  by_cases h1 : 0 < a
  · rw [if_pos h1]
    obtain ⟨j, rfl⟩ : ∃ j : Nat, k = j + 1 := ⟨k - 1, by omega⟩
    exact .inr (.inl ⟨rfl, rfl, j, by simp; omega, e⟩)
  · rw [if_neg h1]
    obtain rfl : k = 0 := by omega
    exact .inr (.inr (.inl ⟨rfl, rfl, e⟩))
theorem step5 {b : List Int} {p wn : Nat} {n mp : Int} {ms : List Int} (R : decP b = countP b ms p) (hg : get1 (b.drop p) = (n, (wn : Int), 0)) (h : ¬ 64 < n) (hn : n ≠ 0) (h0 : 0 ≤ n) {a cc : Int} {fr : Nat} {c : InstD} :
    RInv b (nextP 5 a cc) (p + wn) mp n fr c ms [] := by
  have e : decP b = codeP b ms n.toNat [] (p + wn) := by
    rw [R]; unfold countP; rw [field_ok hg h, if_neg hn]
  obtain ⟨k, hk⟩ : ∃ k : Nat, n.toNat = k + 1 := ⟨n.toNat - 1, by omega⟩
  rw [hk] at e
  exact .inr (.inr (.inr (.inl ⟨by unfold nextP; simp, k, by simp; omega, e⟩)))
theorem step6 {b : List Int} {p wn k : Nat} {n mp cd : Int} {ms : List Int} {cs : List InstD} (hc : cd = ((cs.length + k + 1 : Nat) : Int)) (R : decP b = inst1 b (KC b ms cs k) p) (hg : get1 (b.drop p) = (n, (wn : Int), 0)) (h : ¬ 22 < n) {a cc : Int} :
    RInv b (nextP 6 a cc) (p + wn) mp cd p (n, 0, 0, 0, 0) ms cs :=
  .inr (.inr (.inr (.inr (.inl ⟨by unfold nextP; simp, k, n, hc, rfl, by rw [R]; exact field_ok hg h⟩))))
theorem step7 {b : List Int} {p wn k fr : Nat} {n mp cd op : Int} {ms : List Int} {cs : List InstD} (hc : cd = ((cs.length + k + 1 : Nat) : Int)) (R : decP b = inst2 b fr op (KC b ms cs k) p) (hg : get1 (b.drop p) = (n, (wn : Int), 0)) (h : ¬ 63 < n) {a cc : Int} :
    RInv b (nextP 7 a cc) (p + wn) mp cd fr (op, n, 0, 0, 0) ms cs :=
  .inr (.inr (.inr (.inr (.inr (.inl ⟨by unfold nextP; simp, k, op, n, hc, rfl, by rw [R]; exact field_ok hg h⟩)))))
theorem step8 {b : List Int} {p wn k fr : Nat} {n mp cd op d : Int} {ms : List Int} {cs : List InstD} (hc : cd = ((cs.length + k + 1 : Nat) : Int)) (R : decP b = inst3 b fr op d (KC b ms cs k) p) (hg : get1 (b.drop p) = (n, (wn : Int), 0)) (h : ¬ 63 < n) {a cc : Int} :
    RInv b (nextP 8 a cc) (p + wn) mp cd fr (op, d, n, 0, 0) ms cs :=
  .inr (.inr (.inr (.inr (.inr (.inr (.inl ⟨by unfold nextP; simp, k, op, d, n, hc, rfl, by rw [R]; exact field_ok hg h⟩))))))
theorem step9 {b : List Int} {p wn k fr : Nat} {n mp cd op d a0 : Int} {ms : List Int} {cs : List InstD} (hc : cd = ((cs.length + k + 1 : Nat) : Int)) (R : decP b = inst4 b fr op d a0 (KC b ms cs k) p) (hg : get1 (b.drop p) = (n, (wn : Int), 0)) (h : ¬ 63 < n) {a cc : Int} :
    RInv b (nextP 9 a cc) (p + wn) mp cd fr (op, d, a0, n, 0) ms cs :=
  .inr (.inr (.inr (.inr (.inr (.inr (.inr (.inl ⟨by unfold nextP; simp, k, op, d, a0, n, hc, rfl, by rw [R]; exact field_ok hg h⟩)))))))
theorem step10_no {b : List Int} {p wn k fr : Nat} {n op d a0 x : Int} {ms : List Int} {cs : List InstD} (R : decP b = inst5 b fr op d a0 x (KC b ms cs k) p) (hg : get1 (b.drop p) = (n, (wn : Int), 0)) (h : rightP ⟨op, d, a0, x, unzz n⟩ = false) : decP b = .bad fr 12 := by
  rw [R]; unfold inst5 immP; rw [hg]; rw [if_neg (by simp), if_neg (by simp [h])]
theorem step10 {b : List Int} {p wn k fr : Nat} {n mp cd op d a0 x : Int} {ms : List Int} {cs : List InstD} (hc : cd = ((cs.length + k + 1 : Nat) : Int)) (R : decP b = inst5 b fr op d a0 x (KC b ms cs k) p) (hg : get1 (b.drop p) = (n, (wn : Int), 0)) (h : rightP ⟨op, d, a0, x, unzz n⟩ = true) {a cc : Int} {c : InstD} (hcc : cc = cd - ((cs.length : Int) + 1)) :
    RInv b (nextP 10 a cc) (p + wn) mp cd fr c ms (cs ++ [(op, d, a0, x, unzz n)]) := by
  have e : decP b = codeP b ms k (cs ++ [(op, d, a0, x, unzz n)]) (p + wn) := by
    rw [R]; unfold inst5 immP; rw [hg]; rw [if_neg (by simp), if_pos h]; simp [KC]
  rw [next10]
  by_cases h1 : 0 < cc
  · rw [if_pos h1]
    obtain ⟨j, rfl⟩ : ∃ j : Nat, k = j + 1 := ⟨k - 1, by omega⟩
    exact .inr (.inr (.inr (.inl ⟨rfl, j, by simp; omega, e⟩)))
  · rw [if_neg h1]
    obtain rfl : k = 0 := by omega
    exact .inr (.inr (.inr (.inr (.inr (.inr (.inr (.inr ⟨rfl, e⟩)))))))
theorem rinv_end {b : List Int} {s : Int} {p : Nat} {mp cd : Int} {fr : Nat} {c : InstD} {ms : List Int} {cs : List InstD} (R : RInv b s p mp cd fr c ms cs) (h : ¬ s < 11) : decP b = trailP b ms cs p := by
  rcases R with ⟨rfl, _⟩ | ⟨rfl, _⟩ | ⟨rfl, _⟩ | ⟨rfl, _⟩ | ⟨rfl, _⟩ | ⟨rfl, _⟩ | ⟨rfl, _⟩ | ⟨rfl, _⟩ | ⟨_, R⟩
  all_goals first | omega | exact R
end Go.Proofs.YtkocfgaajghggaaDoor
