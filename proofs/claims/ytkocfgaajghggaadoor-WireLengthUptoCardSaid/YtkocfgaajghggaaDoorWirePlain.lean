/- wire: its plain part: a module's bytes, and how bytes are read. -/
import Derived.Test.YtkocfgaajghggaaDoorLebPlain
import Derived.Test.YtkocfgaajghggaaDoorOpsAll
namespace Go.Proofs.YtkocfgaajghggaaDoor
open Go.RowKit
set_option linter.unusedVariables false
set_option linter.unusedSimpArgs false

def instB (i : InstD) : List Int := leb1 i.1 ++ (leb1 i.2.1 ++ (leb1 i.2.2.1 ++ (leb1 i.2.2.2.1 ++ leb1 (zz i.2.2.2.2))))
def mapsB (ms : List Int) : List Int := ms.flatMap leb1
def codeB (cs : List InstD) : List Int := cs.flatMap instB
def encP (ms : List Int) (cs : List InstD) : List Int := 84 :: 80 :: 1 :: (leb1 (ms.length : Int) ++ (mapsB ms ++ (leb1 (cs.length : Int) ++ codeB cs)))
def MapsOk (ms : List Int) : Prop := ms.length ≤ 4 ∧ (∀ n ∈ ms, 0 ≤ n ∧ n ≤ 3) ∧ ms.Nodup
instance (ms : List Int) : Decidable (MapsOk ms) := by unfold MapsOk; infer_instance
def formedP (ms : List Int) : Bool := decide (MapsOk ms)
def modP (ms : List Int) (cs : List InstD) : Bool := formedP ms && decide (1 ≤ cs.length) && decide (cs.length ≤ 64) && allP cs
/-- the numbers that int64 holds -/
def ImmOk (i : InstD) : Prop := -9223372036854775808 ≤ i.2.2.2.2 ∧ i.2.2.2.2 ≤ 9223372036854775807

inductive Res where
  | ok (ms : List Int) (cs : List InstD)
  | bad (p : Nat) (e : Int)
def fieldP (b : List Int) (p : Nat) (most e : Int) (K : Int → Nat → Res) : Res :=
  if (get1 (b.drop p)).2.2 ≠ 0 then .bad p (get1 (b.drop p)).2.2
  else if most < (get1 (b.drop p)).1 then .bad p e else K (get1 (b.drop p)).1 (p + (get1 (b.drop p)).2.1.toNat)
def immP (b : List Int) (p from' : Nat) (op d a x : Int) (K : InstD → Nat → Res) : Res :=
  if (get1 (b.drop p)).2.2 ≠ 0 then .bad p (get1 (b.drop p)).2.2
  else if rightP ⟨op, d, a, x, unzz (get1 (b.drop p)).1⟩ then K (op, d, a, x, unzz (get1 (b.drop p)).1) (p + (get1 (b.drop p)).2.1.toNat) else .bad from' 12
def trailP (b : List Int) (ms : List Int) (cs : List InstD) (p : Nat) : Res := if p < b.length then .bad p 13 else .ok ms cs
def inst5 (b : List Int) (from' : Nat) (op d a x : Int) (K : InstD → Nat → Res) (p : Nat) : Res := immP b p from' op d a x K
def inst4 (b : List Int) (from' : Nat) (op d a : Int) (K : InstD → Nat → Res) (p : Nat) : Res := fieldP b p 63 12 fun x q => inst5 b from' op d a x K q
def inst3 (b : List Int) (from' : Nat) (op d : Int) (K : InstD → Nat → Res) (p : Nat) : Res := fieldP b p 63 12 fun a q => inst4 b from' op d a K q
def inst2 (b : List Int) (from' : Nat) (op : Int) (K : InstD → Nat → Res) (p : Nat) : Res := fieldP b p 63 12 fun d q => inst3 b from' op d K q
def inst1 (b : List Int) (K : InstD → Nat → Res) (p : Nat) : Res := fieldP b p 22 12 fun op q => inst2 b p op K q
def codeP (b : List Int) (ms : List Int) : Nat → List InstD → Nat → Res
  | 0, cs, p => trailP b ms cs p
  | n + 1, cs, p => inst1 b (fun i q => codeP b ms n (cs ++ [i]) q) p
def countP (b : List Int) (ms : List Int) (p : Nat) : Res := fieldP b p 64 11 fun n q => if n = 0 then .bad p 12 else codeP b ms n.toNat [] q
def mapsP (b : List Int) : Nat → List Int → Nat → Res
  | 0, ms, p => countP b ms p
  | n + 1, ms, p => fieldP b p 3 12 fun m q => if m ∈ ms then .bad p 12 else mapsP b n (ms ++ [m]) q
def startP (b : List Int) : Res := fieldP b 3 4 11 fun n q => mapsP b n.toNat [] q
def headAt (i : Nat) : Int := if i = 0 then 84 else if i = 1 then 80 else 1
def headP (b : List Int) : Nat → Nat → Res
  | 0, p => startP b
  | n + 1, p => match b[p]? with
    | none => .bad p 10
    | some x => if x = headAt p then headP b n (p + 1) else .bad p 12
def decP (b : List Int) : Res := headP b 3 0

/- a field that was laid -/
theorem field_lay {b : List Int} {p : Nat} {most e n : Int} {rest : List Int} {K : Int → Nat → Res} (h : b.drop p = leb1 n ++ rest) (h0 : 0 ≤ n) (h1 : n ≤ most) (h2 : most ≤ 18446744073709551615) :
    fieldP b p most e K = K n (p + (leb1 n).length) ∧ b.drop (p + (leb1 n).length) = rest := by
  refine ⟨?_, ?_⟩
  · unfold fieldP
    rw [h, get1_leb1 n rest h0 (by omega)]
    simp only
    rw [if_neg (by simp), if_neg (by omega)]
    simp
  · rw [← List.drop_drop, h]; simp
theorem imm_lay {b : List Int} {p f : Nat} {op d a x n : Int} {rest : List Int} {K : InstD → Nat → Res} (h : b.drop p = leb1 (zz n) ++ rest) (h0 : -9223372036854775808 ≤ n ∧ n ≤ 9223372036854775807) (hr : rightP ⟨op, d, a, x, n⟩ = true) :
    immP b p f op d a x K = K (op, d, a, x, n) (p + (leb1 (zz n)).length) ∧ b.drop (p + (leb1 (zz n)).length) = rest := by
  have hz := zz_range n h0
  refine ⟨?_, ?_⟩
  · unfold immP
    rw [h, get1_leb1 (zz n) rest hz.1 hz.2]
    simp only [unzz_zz]
    rw [if_neg (by simp), hr]
    simp
  · rw [← List.drop_drop, h]; simp
/-- what a right instruction's fields are -/
theorem right_fields {op d a b imm : Int} (h : rightP ⟨op, d, a, b, imm⟩ = true) : (0 ≤ op ∧ op ≤ 22) ∧ (0 ≤ d ∧ d ≤ 63) ∧ (0 ≤ a ∧ a ≤ 63) ∧ (0 ≤ b ∧ b ≤ 63) := by
  rw [right_eq] at h
  unfold rightR threeR jumpR sourcedR regB at h
  simp only at h
  repeat' split at h
  all_goals simp at *
  all_goals omega
theorem app5 (a b c d e f : List Int) : (a ++ (b ++ (c ++ (d ++ e)))) ++ f = a ++ (b ++ (c ++ (d ++ (e ++ f)))) := by simp
theorem inst_lay {b : List Int} {p : Nat} {i : InstD} {rest : List Int} {K : InstD → Nat → Res} (h : b.drop p = instB i ++ rest) (hr : rightP (In.of i) = true) (hi : ImmOk i) :
    inst1 b K p = K i (p + (instB i).length) ∧ b.drop (p + (instB i).length) = rest := by
  obtain ⟨op, d, a, x, imm⟩ := i
  obtain ⟨⟨o1, o2⟩, ⟨d1, d2⟩, ⟨a1, a2⟩, b1, b2⟩ := right_fields hr
  unfold instB at h
  simp only [app5] at h
  obtain ⟨e1, h1⟩ := field_lay (most := 22) (e := 12) (K := fun op q => inst2 b p op K q) h o1 o2 (by omega)
  obtain ⟨e2, h2⟩ := field_lay (most := 63) (e := 12) (K := fun d q => inst3 b p op d K q) h1 d1 d2 (by omega)
  obtain ⟨e3, h3⟩ := field_lay (most := 63) (e := 12) (K := fun a q => inst4 b p op d a K q) h2 a1 a2 (by omega)
  obtain ⟨e4, h4⟩ := field_lay (most := 63) (e := 12) (K := fun x q => inst5 b p op d a x K q) h3 b1 b2 (by omega)
  obtain ⟨e5, h5⟩ := imm_lay (f := p) (K := K) h4 hi hr
  have hl : p + (instB (op, d, a, x, imm)).length = p + (leb1 op).length + (leb1 d).length + (leb1 a).length + (leb1 x).length + (leb1 (zz imm)).length := by simp [instB]; omega
  rw [hl]
  refine ⟨?_, h5⟩
  unfold inst1; rw [e1]; unfold inst2; rw [e2]; unfold inst3; rw [e3]; unfold inst4; rw [e4]; unfold inst5; rw [e5]
theorem code_lay {b : List Int} {ms : List Int} {rest : List Int} : ∀ (cs acc : List InstD) (p : Nat), b.drop p = codeB cs ++ rest → allP cs = true → (∀ i ∈ cs, ImmOk i) →
    codeP b ms cs.length acc p = trailP b ms (acc ++ cs) (p + (codeB cs).length) ∧ b.drop (p + (codeB cs).length) = rest
  | [], acc, p, h, _, _ => by simpa [codeB, codeP] using h
  | i :: cs, acc, p, h, ha, hi => by
    simp only [allP, List.all_cons, Bool.and_eq_true] at ha
    have hb : codeB (i :: cs) = instB i ++ codeB cs := rfl
    rw [hb, List.append_assoc] at h
    obtain ⟨e1, h1⟩ := inst_lay (K := fun i q => codeP b ms cs.length (acc ++ [i]) q) h ha.1 (hi i (by simp))
    obtain ⟨e2, h2⟩ := code_lay cs (acc ++ [i]) _ h1 ha.2 fun j hj => hi j (by simp [hj])
    rw [List.length_cons, hb, List.length_append, ← Nat.add_assoc]
    refine ⟨?_, h2⟩
    rw [codeP, e1, e2]; simp
theorem maps_lay {b : List Int} {rest : List Int} : ∀ (ms acc : List Int) (p : Nat), b.drop p = mapsB ms ++ rest → (∀ n ∈ ms, 0 ≤ n ∧ n ≤ 3) → (acc ++ ms).Nodup →
    mapsP b ms.length acc p = countP b (acc ++ ms) (p + (mapsB ms).length) ∧ b.drop (p + (mapsB ms).length) = rest
  | [], acc, p, h, _, _ => by simpa [mapsB, mapsP] using h
  | m :: ms, acc, p, h, ha, hn => by
    have hb : mapsB (m :: ms) = leb1 m ++ mapsB ms := rfl
    rw [hb, List.append_assoc] at h
    have hm := ha m (by simp)
    obtain ⟨e1, h1⟩ := field_lay (most := 3) (e := 12) (K := fun m q => if m ∈ acc then .bad p 12 else mapsP b ms.length (acc ++ [m]) q) h hm.1 hm.2 (by omega)
    have hn' : m ∉ acc := by
      rw [List.nodup_append] at hn
      intro h
      exact hn.2.2 m h m (by simp) rfl
    obtain ⟨e2, h2⟩ := maps_lay ms (acc ++ [m]) _ h1 (fun j hj => ha j (by simp [hj])) (by simpa using hn)
    rw [List.length_cons, hb, List.length_append, ← Nat.add_assoc]
    refine ⟨?_, h2⟩
    rw [mapsP, e1]; simp only [if_neg hn']; rw [e2]; simp
theorem dec_head (b : List Int) : decP (84 :: 80 :: 1 :: b) = startP (84 :: 80 :: 1 :: b) := by
  simp [decP, headP, headAt]
theorem modP_ok {ms : List Int} {cs : List InstD} (h : modP ms cs = true) : MapsOk ms ∧ 1 ≤ cs.length ∧ cs.length ≤ 64 ∧ allP cs = true := by
  simpa [modP, formedP, and_assoc] using h
/-- there and back, whatever stands behind -/
theorem dec_enc {ms : List Int} {cs : List InstD} (h : modP ms cs = true) (hi : ∀ i ∈ cs, ImmOk i) (more : List Int) : decP (encP ms cs ++ more) = if more = [] then .ok ms cs else .bad (encP ms cs).length 13 := by
  obtain ⟨⟨hl, hm, hn⟩, h1, h64, ha⟩ := modP_ok h
  have hB : encP ms cs ++ more = 84 :: 80 :: 1 :: (leb1 (ms.length : Int) ++ (mapsB ms ++ (leb1 (cs.length : Int) ++ (codeB cs ++ more)))) := by simp [encP]
  have hL : (encP ms cs).length = 3 + (leb1 (ms.length : Int)).length + (mapsB ms).length + (leb1 (cs.length : Int)).length + (codeB cs).length := by simp [encP]; omega
  rw [hB, dec_head, ← hB]
  generalize hb : encP ms cs ++ more = b at *
  have h3 : b.drop 3 = leb1 (ms.length : Int) ++ (mapsB ms ++ (leb1 (cs.length : Int) ++ (codeB cs ++ more))) := by rw [hB]; rfl
  obtain ⟨e1, g1⟩ := field_lay (most := 4) (e := 11) (K := fun n q => mapsP b n.toNat [] q) h3 (by omega) (by omega) (by omega)
  obtain ⟨e2, g2⟩ := maps_lay ms [] _ g1 hm (by simpa using hn)
  obtain ⟨e3, g3⟩ := field_lay (most := 64) (e := 11) (K := fun n q => if n = 0 then .bad (3 + (leb1 (ms.length : Int)).length + (mapsB ms).length) 12 else codeP b ms n.toNat [] q) g2 (by omega) (by omega) (by omega)
  obtain ⟨e4, g4⟩ := code_lay (ms := ms) cs [] _ g3 ha hi
  have hd : b.length = (encP ms cs).length + more.length := by rw [← hb]; simp
  unfold startP
  rw [e1]
  simp only [Int.toNat_natCast]
  rw [e2]
  unfold countP
  simp only [List.nil_append]
  rw [e3]
  rw [if_neg (by omega), Int.toNat_natCast, e4]
  unfold trailP
  cases more with
  | nil => rw [if_neg (by simp at hd; omega)]; simp
  | cons x r => rw [if_pos (by simp at hd; omega), hL]; simp
end Go.Proofs.YtkocfgaajghggaaDoor
