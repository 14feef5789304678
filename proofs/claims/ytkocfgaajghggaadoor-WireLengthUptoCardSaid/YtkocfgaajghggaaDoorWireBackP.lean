/- The law WireBack: its plain part: no beginning is taken; what is taken was laid. -/
import Derived.Test.YtkocfgaajghggaaDoorWireEncodes
namespace Go.Proofs.YtkocfgaajghggaaDoor
open Go.RowKit
set_option linter.unusedVariables false
set_option linter.unusedSimpArgs false

def ShortR (b : List Int) (r : Res) : Prop := ∃ p, r = .bad p 10 ∧ p ≤ b.length
theorem take_cut {A B : List Int} {j : Nat} (h : j < A.length) : (A ++ B).take j = A.take j := by rw [List.take_append_of_le_length (by omega)]
theorem take_past {A B : List Int} {j : Nat} (h : A.length ≤ j) : (A ++ B).take j = A ++ B.take (j - A.length) := by rw [List.take_append, List.take_of_length_le h]
theorem field_short {b : List Int} {p j : Nat} {most e n : Int} {rest : List Int} {K : Int → Nat → Res} (h : b.drop p = (leb1 n ++ rest).take j) (hp : p + j = b.length) (h0 : 0 ≤ n) (h1 : n ≤ most) (h2 : most ≤ 18446744073709551615)
    (hK : ∀ j', b.drop (p + (leb1 n).length) = rest.take j' → p + (leb1 n).length + j' = b.length → j = (leb1 n).length + j' → ShortR b (K n (p + (leb1 n).length))) : ShortR b (fieldP b p most e K) := by
  by_cases hj : j < (leb1 n).length
  · refine ⟨p, ?_, by omega⟩
    unfold fieldP
    rw [h, take_cut hj, get1_short n j h0 (by omega) hj]
    exact if_pos (by decide)
  · rw [take_past (by omega)] at h
    obtain ⟨e1, h3⟩ := field_lay (most := most) (e := e) (K := K) h h0 h1 h2
    rw [e1]
    exact hK (j - (leb1 n).length) h3 (by omega) (by omega)
theorem imm_short {b : List Int} {p f j : Nat} {op d a x n : Int} {rest : List Int} {K : InstD → Nat → Res} (h : b.drop p = (leb1 (zz n) ++ rest).take j) (hp : p + j = b.length) (h0 : -9223372036854775808 ≤ n ∧ n ≤ 9223372036854775807) (hr : rightP ⟨op, d, a, x, n⟩ = true)
    (hK : ∀ j', b.drop (p + (leb1 (zz n)).length) = rest.take j' → p + (leb1 (zz n)).length + j' = b.length → j = (leb1 (zz n)).length + j' → ShortR b (K (op, d, a, x, n) (p + (leb1 (zz n)).length))) : ShortR b (immP b p f op d a x K) := by
  have hz := zz_range n h0
  by_cases hj : j < (leb1 (zz n)).length
  · refine ⟨p, ?_, by omega⟩
    unfold immP
    rw [h, take_cut hj, get1_short (zz n) j hz.1 hz.2 hj]
    exact if_pos (by decide)
  · rw [take_past (by omega)] at h
    obtain ⟨e1, h3⟩ := imm_lay (f := f) (K := K) h h0 hr
    rw [e1]
    exact hK (j - (leb1 (zz n)).length) h3 (by omega) (by omega)
theorem inst_short {b : List Int} {p j : Nat} {i : InstD} {rest : List Int} {K : InstD → Nat → Res} (h : b.drop p = (instB i ++ rest).take j) (hp : p + j = b.length) (hr : rightP (In.of i) = true) (hi : ImmOk i)
    (hK : ∀ p' j', b.drop p' = rest.take j' → p' + j' = b.length → j = (instB i).length + j' → ShortR b (K i p')) : ShortR b (inst1 b K p) := by
  obtain ⟨op, d, a, x, imm⟩ := i
  obtain ⟨⟨o1, o2⟩, ⟨d1, d2⟩, ⟨a1, a2⟩, b1, b2⟩ : (0 ≤ op ∧ op ≤ 22) ∧ (0 ≤ d ∧ d ≤ 63) ∧ (0 ≤ a ∧ a ≤ 63) ∧ (0 ≤ x ∧ x ≤ 63) := right_fields hr
  have hl : (instB (op, d, a, x, imm)).length = (leb1 op).length + (leb1 d).length + (leb1 a).length + (leb1 x).length + (leb1 (zz imm)).length := by simp [instB]; omega
  unfold instB at h
  simp only [app5] at h
  refine field_short h hp o1 o2 (by omega) fun j1 g1 p1 e1 => ?_
  refine field_short g1 p1 d1 d2 (by omega) fun j2 g2 p2 e2 => ?_
  refine field_short g2 p2 a1 a2 (by omega) fun j3 g3 p3 e3 => ?_
  refine field_short g3 p3 b1 b2 (by omega) fun j4 g4 p4 e4 => ?_
  refine imm_short g4 p4 hi hr fun j5 g5 p5 e5 => ?_
  exact hK _ j5 g5 p5 (by omega)
theorem code_short {b : List Int} {ms : List Int} : ∀ (cs acc : List InstD) (p j : Nat), b.drop p = (codeB cs).take j → j < (codeB cs).length → p + j = b.length → allP cs = true → (∀ i ∈ cs, ImmOk i) → ShortR b (codeP b ms cs.length acc p)
  | [], acc, p, j, h, hj, _, _, _ => by simp [codeB] at hj
  | i :: cs, acc, p, j, h, hj, hp, ha, hi => by
    simp only [allP, List.all_cons, Bool.and_eq_true] at ha
    have hb : codeB (i :: cs) = instB i ++ codeB cs := rfl
    rw [hb] at h hj
    rw [List.length_append] at hj
    rw [List.length_cons, codeP]
    exact inst_short h hp ha.1 (hi i (by simp)) fun p' j' g q e => code_short cs (acc ++ [i]) p' j' g (by omega) q ha.2 fun k hk => hi k (by simp [hk])
theorem count_short {b : List Int} {ms : List Int} {cs : List InstD} {p j : Nat} (h : b.drop p = (leb1 (cs.length : Int) ++ codeB cs).take j) (hj : j < (leb1 (cs.length : Int) ++ codeB cs).length) (hp : p + j = b.length) (h1 : 1 ≤ cs.length) (h64 : cs.length ≤ 64) (ha : allP cs = true) (hi : ∀ i ∈ cs, ImmOk i) :
    ShortR b (countP b ms p) := by
  rw [List.length_append] at hj
  unfold countP
  refine field_short h hp (by omega) (by omega) (by omega) fun j' g q e => ?_
  rw [if_neg (by omega), Int.toNat_natCast]
  exact code_short cs [] _ j' g (by omega) q ha hi
theorem maps_short {b : List Int} {rest : List Int} (hR : ∀ ms p j, b.drop p = rest.take j → j < rest.length → p + j = b.length → ShortR b (countP b ms p)) : ∀ (ms acc : List Int) (p j : Nat), b.drop p = (mapsB ms ++ rest).take j → j < (mapsB ms ++ rest).length → p + j = b.length →
    (∀ n ∈ ms, 0 ≤ n ∧ n ≤ 3) → (acc ++ ms).Nodup → ShortR b (mapsP b ms.length acc p)
  | [], acc, p, j, h, hj, hp, _, _ => hR acc p j h hj hp
  | m :: ms, acc, p, j, h, hj, hp, ha, hn => by
    have hb : mapsB (m :: ms) = leb1 m ++ mapsB ms := rfl
    rw [hb, List.append_assoc] at h hj
    rw [List.length_append] at hj
    have hm := ha m (by simp)
    have hn' : m ∉ acc := by
      rw [List.nodup_append] at hn
      intro h
      exact hn.2.2 m h m (by simp) rfl
    rw [List.length_cons, mapsP]
    refine field_short h hp hm.1 hm.2 (by omega) fun j' g q e => ?_
    rw [if_neg hn']
    exact maps_short hR ms (acc ++ [m]) _ j' g (by omega) q (fun k hk => ha k (by simp [hk])) (by simpa using hn)
/-- no beginning is taken -/
theorem dec_short {ms : List Int} {cs : List InstD} (h : modP ms cs = true) (hi : ∀ i ∈ cs, ImmOk i) (k : Nat) (hk : k < (encP ms cs).length) : ∃ p : Nat, decP ((encP ms cs).take k) = .bad p 10 ∧ p ≤ k := by
  obtain ⟨⟨hl, hm, hn⟩, h1, h64, ha⟩ := modP_ok h
  have hlen : ((encP ms cs).take k).length = k := by rw [List.length_take]; omega
  by_cases h3 : k < 3
  · refine ⟨k, ?_, Nat.le_refl _⟩
    obtain rfl | rfl | rfl : k = 0 ∨ k = 1 ∨ k = 2 := by omega
    · simp [encP, decP, headP, headAt]
    · simp [encP, decP, headP, headAt]
    · simp [encP, decP, headP, headAt]
  · obtain ⟨j, rfl⟩ : ∃ j, k = j + 3 := ⟨k - 3, by omega⟩
    have hB : (encP ms cs).take (j + 3) = 84 :: 80 :: 1 :: (leb1 (ms.length : Int) ++ (mapsB ms ++ (leb1 (cs.length : Int) ++ codeB cs))).take j := by simp [encP]
    have hS : ShortR ((encP ms cs).take (j + 3)) (decP ((encP ms cs).take (j + 3))) := by
      have hd : decP ((encP ms cs).take (j + 3)) = startP ((encP ms cs).take (j + 3)) := by rw [hB]; exact dec_head _
      rw [hd]
      have hlj : 3 + j = ((encP ms cs).take (j + 3)).length := by omega
      have hjl : j + 3 < 3 + (leb1 (ms.length : Int) ++ (mapsB ms ++ (leb1 (cs.length : Int) ++ codeB cs))).length := by
        have : (encP ms cs).length = 3 + (leb1 (ms.length : Int) ++ (mapsB ms ++ (leb1 (cs.length : Int) ++ codeB cs))).length := by simp [encP]; omega
        omega
      have hdr : ((encP ms cs).take (j + 3)).drop 3 = (leb1 (ms.length : Int) ++ (mapsB ms ++ (leb1 (cs.length : Int) ++ codeB cs))).take j := by rw [hB]; rfl
      generalize (encP ms cs).take (j + 3) = b at *
      unfold startP
      refine field_short hdr hlj (by omega) (by omega) (by omega) fun j' g q e => ?_
      rw [Int.toNat_natCast]
      rw [List.length_append] at hjl
      exact maps_short (fun ms' p' j'' g' hj' q' => count_short g' hj' q' h1 h64 ha hi) ms [] _ j' g (by omega) q hm (by simpa using hn)
    obtain ⟨p, hp, hp2⟩ := hS
    exact ⟨p, hp, by omega⟩

/- what is taken was laid -/
theorem zz_unzz (n : Int) (h : 0 ≤ n) : zz (unzz n) = n := by unfold zz unzz; split <;> split <;> omega
def Bytes8 (b : List Int) : Prop := ∀ x ∈ b, 0 ≤ x ∧ x ≤ 255
theorem get_inv {b : List Int} (hb : Bytes8 b) {p : Nat} (h : (get1 (b.drop p)).2.2 = 0) : ∃ n : Int, get1 (b.drop p) = (n, ((leb1 n).length : Int), 0) ∧ 0 ≤ n ∧ n ≤ 18446744073709551615 ∧ b.drop p = leb1 n ++ b.drop (p + (leb1 n).length) ∧ (p ≤ b.length → p + (leb1 n).length ≤ b.length) := by
  obtain ⟨n, w, e⟩ : ∃ n w, get1 (b.drop p) = (n, w, 0) := ⟨(get1 (b.drop p)).1, (get1 (b.drop p)).2.1, by rw [← h]⟩
  obtain ⟨h0, h1, rfl, hl, ht⟩ := get1_back _ n w (drop_bytes hb p) e
  refine ⟨n, e, h0, h1, ?_, fun hp => by simp at hl; omega⟩
  have := (List.take_append_drop (leb1 n).length (b.drop p)).symm
  rw [← ht, List.drop_drop] at this
  exact this
theorem field_inv {b : List Int} (hb : Bytes8 b) {p : Nat} {most e : Int} {K : Int → Nat → Res} {ms : List Int} {cs : List InstD} (h : fieldP b p most e K = .ok ms cs) :
    ∃ n : Int, 0 ≤ n ∧ n ≤ most ∧ b.drop p = leb1 n ++ b.drop (p + (leb1 n).length) ∧ K n (p + (leb1 n).length) = .ok ms cs := by
  unfold fieldP at h
  split at h
  · cases h
  · rename_i h0
    obtain ⟨n, e1, g0, g1, g2, _⟩ := get_inv hb (p := p) (by simpa using h0)
    rw [e1] at h
    split at h
    · cases h
    · rename_i hm
      refine ⟨n, g0, by simp at hm; omega, g2, ?_⟩
      simpa using h
theorem inst_inv {b : List Int} (hb : Bytes8 b) {p : Nat} {K : InstD → Nat → Res} {ms : List Int} {cs : List InstD} (h : inst1 b K p = .ok ms cs) :
    ∃ (i : InstD) (p' : Nat), rightP (In.of i) = true ∧ ImmOk i ∧ b.drop p = instB i ++ b.drop p' ∧ K i p' = .ok ms cs := by
  obtain ⟨op, o1, o2, g1, h⟩ := field_inv hb h
  obtain ⟨d, d1, d2, g2, h⟩ := field_inv hb h
  obtain ⟨a, a1, a2, g3, h⟩ := field_inv hb h
  obtain ⟨x, x1, x2, g4, h⟩ := field_inv hb h
  unfold inst5 immP at h
  split at h
  · cases h
  · rename_i h0
    obtain ⟨n, e1, n0, n1, g5, _⟩ := get_inv hb (p := p + (leb1 op).length + (leb1 d).length + (leb1 a).length + (leb1 x).length) (by simpa using h0)
    rw [e1] at h
    split at h
    · rename_i hr
      refine ⟨(op, d, a, x, unzz n), _, hr, unzz_range n ⟨n0, n1⟩, ?_, by simpa using h⟩
      rw [g1, g2, g3, g4, g5]
      simp [instB, zz_unzz n n0]
    · cases h
theorem code_inv {b : List Int} (hb : Bytes8 b) {ms ms' : List Int} {cs' : List InstD} : ∀ (n : Nat) (acc : List InstD) (p : Nat), codeP b ms n acc p = .ok ms' cs' → ms' = ms ∧ ∃ cs, cs.length = n ∧ cs' = acc ++ cs ∧ allP cs = true ∧ (∀ i ∈ cs, ImmOk i) ∧ b.drop p = codeB cs
  | 0, acc, p, h => by
    unfold codeP trailP at h
    split at h
    · cases h
    · rename_i hp
      obtain ⟨rfl, rfl⟩ : ms = ms' ∧ acc = cs' := by simpa using h
      exact ⟨rfl, [], rfl, by simp, rfl, by simp, by rw [List.drop_of_length_le (by omega)]; rfl⟩
  | n + 1, acc, p, h => by
    rw [codeP] at h
    obtain ⟨i, p', hr, hi, g, h⟩ := inst_inv hb h
    obtain ⟨rfl, cs, hl, rfl, ha, him, g2⟩ := code_inv hb n (acc ++ [i]) p' h
    refine ⟨rfl, i :: cs, by simp [hl], by simp, ?_, fun j hj => ?_, by rw [g, g2]; rfl⟩
    · simp only [allP, List.all_cons, Bool.and_eq_true] at ha ⊢; exact ⟨hr, ha⟩
    · rcases List.mem_cons.1 hj with rfl | hj
      · exact hi
      · exact him j hj
theorem count_inv {b : List Int} (hb : Bytes8 b) {ms ms' : List Int} {cs : List InstD} {p : Nat} (h : countP b ms p = .ok ms' cs) : ms' = ms ∧ 1 ≤ cs.length ∧ cs.length ≤ 64 ∧ allP cs = true ∧ (∀ i ∈ cs, ImmOk i) ∧ b.drop p = leb1 (cs.length : Int) ++ codeB cs := by
  unfold countP at h
  obtain ⟨n, n0, n1, g, h⟩ := field_inv hb h
  split at h
  · cases h
  · rename_i hn
    obtain ⟨rfl, cs2, hl, he, ha, hi, g2⟩ := code_inv hb n.toNat [] _ h
    obtain rfl : cs = cs2 := by simpa using he
    refine ⟨rfl, by omega, by omega, ha, hi, ?_⟩
    rw [g, g2, show n = (cs.length : Int) by omega]
theorem maps_inv {b : List Int} (hb : Bytes8 b) {ms' : List Int} {cs : List InstD} : ∀ (n : Nat) (acc : List Int) (p : Nat), mapsP b n acc p = .ok ms' cs → acc.Nodup →
    ∃ ms, ms.length = n ∧ ms' = acc ++ ms ∧ (∀ m ∈ ms, 0 ≤ m ∧ m ≤ 3) ∧ (acc ++ ms).Nodup ∧ 1 ≤ cs.length ∧ cs.length ≤ 64 ∧ allP cs = true ∧ (∀ i ∈ cs, ImmOk i) ∧ b.drop p = mapsB ms ++ (leb1 (cs.length : Int) ++ codeB cs)
  | 0, acc, p, h, hn => by
    obtain ⟨rfl, h1, h2, h3, h4, h5⟩ := count_inv hb h
    exact ⟨[], rfl, by simp, by simp, by simpa using hn, h1, h2, h3, h4, by rw [show mapsB [] = [] from rfl, List.nil_append]; exact h5⟩
  | n + 1, acc, p, h, hn => by
    rw [mapsP] at h
    obtain ⟨m, m0, m1, g, h⟩ := field_inv hb h
    split at h
    · cases h
    · rename_i hm
      obtain ⟨ms, hl, rfl, h1, h2, h3, h4, h5, h6, h7⟩ := maps_inv hb n (acc ++ [m]) _ h (by
        rw [List.nodup_append]
        refine ⟨hn, by simp, fun a ha c hc => ?_⟩
        obtain rfl : c = m := by simpa using hc
        exact fun e => hm (e ▸ ha))
      refine ⟨m :: ms, by simp [hl], by simp, fun k hk => ?_, by simpa using h2, h3, h4, h5, h6, ?_⟩
      · rcases List.mem_cons.1 hk with rfl | hk
        · exact ⟨m0, m1⟩
        · exact h1 k hk
      · rw [g, h7]
        show _ = (leb1 m ++ mapsB ms) ++ _
        rw [List.append_assoc]
theorem start_inv {b : List Int} (hb : Bytes8 b) {ms : List Int} {cs : List InstD} (h : startP b = .ok ms cs) : modP ms cs = true ∧ (∀ i ∈ cs, ImmOk i) ∧ b.drop 3 = leb1 (ms.length : Int) ++ (mapsB ms ++ (leb1 (cs.length : Int) ++ codeB cs)) := by
  unfold startP at h
  obtain ⟨n, n0, n1, g, h⟩ := field_inv hb h
  obtain ⟨ms2, hl, he, h1, h2, h3, h4, h5, h6, h7⟩ := maps_inv hb n.toNat [] _ h (by simp)
  obtain rfl : ms = ms2 := by simpa using he
  rw [List.nil_append] at h2
  refine ⟨?_, h6, ?_⟩
  · have : formedP ms = true := decide_eq_true ⟨by omega, h1, h2⟩
    unfold modP; rw [this, h5, decide_eq_true h3, decide_eq_true h4]; rfl
  · rw [g, h7, show n = (ms.length : Int) by omega]
theorem dec_back {b : List Int} (hb : Bytes8 b) {ms : List Int} {cs : List InstD} (h : decP b = .ok ms cs) : modP ms cs = true ∧ (∀ i ∈ cs, ImmOk i) ∧ b = encP ms cs := by
  match b, h with
  | [], h => simp [decP, headP] at h
  | [x], h => simp only [decP, headP] at h; simp at h; split at h <;> cases h
  | [x, y], h =>
    simp only [decP, headP] at h; simp at h
    split at h
    · split at h <;> cases h
    · cases h
  | x :: y :: z :: r, h =>
    have hd : x = 84 ∧ y = 80 ∧ z = 1 ∧ startP (x :: y :: z :: r) = .ok ms cs := by
      simp only [decP, headP] at h
      simp [headAt] at h
      split at h
      · split at h
        · split at h
          · rename_i h1 h2 h3
            exact ⟨h1, h2, h3, h⟩
          · cases h
        · cases h
      · cases h
    obtain ⟨rfl, rfl, rfl, hs⟩ := hd
    obtain ⟨h1, h2, h3⟩ := start_inv hb hs
    refine ⟨h1, h2, ?_⟩
    have h4 : r = leb1 (ms.length : Int) ++ (mapsB ms ++ (leb1 (cs.length : Int) ++ codeB cs)) := h3
    rw [h4]; rfl

/- where a refusal stands -/
def BadIn (b : List Int) (r : Res) : Prop := ∀ q er, r = .bad q er → q ≤ b.length ∧ er ≠ 0
theorem field_in {b : List Int} (hb : Bytes8 b) {p : Nat} {most e : Int} {K : Int → Nat → Res} (hp : p ≤ b.length) (he : e ≠ 0) (hK : ∀ n p', p' ≤ b.length → BadIn b (K n p')) : BadIn b (fieldP b p most e K) := by
  intro q er h
  unfold fieldP at h
  split at h
  · rename_i h0
    obtain ⟨rfl, rfl⟩ : p = q ∧ _ = er := by simpa using h
    exact ⟨hp, h0⟩
  · rename_i h0
    obtain ⟨n, e1, _, _, _, g⟩ := get_inv hb (p := p) (by simpa using h0)
    rw [e1] at h
    split at h
    · obtain ⟨rfl, rfl⟩ : p = q ∧ e = er := by simpa using h
      exact ⟨hp, he⟩
    · exact hK n (p + (leb1 n).length) (g hp) q er (by simpa using h)
theorem inst_in {b : List Int} (hb : Bytes8 b) {p : Nat} {K : InstD → Nat → Res} (hp : p ≤ b.length) (hK : ∀ i p', p' ≤ b.length → BadIn b (K i p')) : BadIn b (inst1 b K p) := by
  refine field_in hb hp (by decide) fun op p1 h1 => ?_
  refine field_in hb h1 (by decide) fun d p2 h2 => ?_
  refine field_in hb h2 (by decide) fun a p3 h3 => ?_
  refine field_in hb h3 (by decide) fun x p4 h4 => ?_
  intro q er h
  unfold inst5 immP at h
  split at h
  · rename_i h0
    obtain ⟨rfl, rfl⟩ : p4 = q ∧ _ = er := by simpa using h
    exact ⟨h4, h0⟩
  · rename_i h0
    obtain ⟨n, e1, _, _, _, g⟩ := get_inv hb (p := p4) (by simpa using h0)
    rw [e1] at h
    split at h
    · exact hK _ (p4 + (leb1 n).length) (g h4) q er (by simpa using h)
    · obtain ⟨rfl, rfl⟩ : p = q ∧ (12 : Int) = er := by simpa using h
      exact ⟨hp, by decide⟩
theorem code_in {b : List Int} (hb : Bytes8 b) {ms : List Int} : ∀ (n : Nat) (acc : List InstD) (p : Nat), p ≤ b.length → BadIn b (codeP b ms n acc p)
  | 0, acc, p, hp => by
    intro q er h
    unfold codeP trailP at h
    split at h
    · obtain ⟨rfl, rfl⟩ : p = q ∧ (13 : Int) = er := by simpa using h
      exact ⟨hp, by decide⟩
    · cases h
  | n + 1, acc, p, hp => by
    rw [codeP]
    exact inst_in hb hp fun i p' h' => code_in hb n (acc ++ [i]) p' h'
theorem count_in {b : List Int} (hb : Bytes8 b) {ms : List Int} {p : Nat} (hp : p ≤ b.length) : BadIn b (countP b ms p) := by
  unfold countP
  refine field_in hb hp (by decide) fun n p' h' => ?_
  split
  · intro q er h
    obtain ⟨rfl, rfl⟩ : p = q ∧ (12 : Int) = er := by simpa using h
    exact ⟨hp, by decide⟩
  · exact code_in hb _ _ _ h'
theorem maps_in {b : List Int} (hb : Bytes8 b) : ∀ (n : Nat) (acc : List Int) (p : Nat), p ≤ b.length → BadIn b (mapsP b n acc p)
  | 0, acc, p, hp => count_in hb hp
  | n + 1, acc, p, hp => by
    rw [mapsP]
    refine field_in hb hp (by decide) fun m p' h' => ?_
    split
    · intro q er h
      obtain ⟨rfl, rfl⟩ : p = q ∧ (12 : Int) = er := by simpa using h
      exact ⟨hp, by decide⟩
    · exact maps_in hb n _ _ h'
theorem head_in {b : List Int} (hb : Bytes8 b) : ∀ (n p : Nat), p ≤ b.length → n + p = 3 → BadIn b (headP b n p)
  | 0, p, hp, hn => by
    rw [headP]
    unfold startP
    exact field_in hb (by omega) (by decide) fun n p' h' => maps_in hb _ _ _ h'
  | n + 1, p, hp, hn => by
    by_cases hlt : p < b.length
    · by_cases hx : b[p] = headAt p
      · rw [head_yes hlt hx]; exact head_in hb n (p + 1) hlt (by omega)
      · rw [head_no hlt hx]
        intro q er h
        obtain ⟨rfl, rfl⟩ : p = q ∧ (12 : Int) = er := by simpa using h
        exact ⟨hp, by decide⟩
    · rw [head_none (by omega)]
      intro q er h
      obtain ⟨rfl, rfl⟩ : p = q ∧ (10 : Int) = er := by simpa using h
      exact ⟨hp, by decide⟩
theorem dec_in {b : List Int} (hb : Bytes8 b) : BadIn b (decP b) := head_in hb 3 0 (by omega) rfl
end Go.Proofs.YtkocfgaajghggaaDoor
