/- Layer 1: its plain part: numbers as bytes, seven bits at a time. -/
import Derived.Test.YtkocfgaajghggaaDoorBase
namespace Go.Proofs.YtkocfgaajghggaaDoor
set_option linter.unusedVariables false

/-- a number's bytes: at most f + 1 of them -/
def lebF : Nat → Int → List Int
  | 0, n => [n]
  | f + 1, n => if n < 128 then [n] else (n % 128 + 128) :: lebF f (n / 128)
def leb1 (n : Int) : List Int := lebF 9 n
def lebs (ns : List Int) : List Int := ns.flatMap leb1
/-- the number at the front of bytes -/
def getF : Nat → Int → List Int → Int × Int × Int
  | _, _, [] => (0, 0, 10)
  | i, n, x :: r =>
    if (i = 9 ∧ 1 < x) ∨ (0 < i ∧ x = 0) then (0, 0, 12)
    else if x < 128 then (n + x * 128 ^ i, (i : Int) + 1, 0) else getF (i + 1) (n + (x - 128) * 128 ^ i) r
def get1 (b : List Int) : Int × Int × Int := getF 0 0 b

theorem lebF_len (f : Nat) (n : Int) : 1 ≤ (lebF f n).length ∧ (lebF f n).length ≤ f + 1 := by
  induction f generalizing n with
  | zero => simp [lebF]
  | succ f ih =>
    rw [lebF]; split
    · simp
    · have := ih (n / 128); simp; omega
theorem leb1_len (n : Int) : 1 ≤ (leb1 n).length ∧ (leb1 n).length ≤ 10 := lebF_len 9 n
theorem div_lt {n : Int} {f : Nat} (h : n < 2 * 128 ^ (f + 1)) : n / 128 < 2 * 128 ^ f := by
  rw [Int.pow_succ] at h
  generalize (128 : Int) ^ f = p at *
  omega
theorem lebF_bytes (f : Nat) (n : Int) (h0 : 0 ≤ n) (h1 : n < 2 * 128 ^ f) : ∀ x ∈ lebF f n, 0 ≤ x ∧ x ≤ 255 := by
  induction f generalizing n with
  | zero => intro x hx; simp [lebF] at hx; subst hx; simp at h1; omega
  | succ f ih =>
    rw [lebF]; split
    · intro x hx; simp at hx; subst hx; omega
    · intro x hx
      rcases List.mem_cons.1 hx with rfl | hx
      · omega
      · exact ih (n / 128) (by omega) (div_lt h1) x hx
theorem two64 {n : Int} (h : n ≤ 18446744073709551615) : n < 2 * 128 ^ 9 := by
  have : (2 : Int) * 128 ^ 9 = 18446744073709551616 := by decide
  omega
theorem leb1_bytes (n : Int) (h0 : 0 ≤ n) (h1 : n ≤ 18446744073709551615) : ∀ x ∈ leb1 n, 0 ≤ x ∧ x ≤ 255 := lebF_bytes 9 n h0 (two64 h1)
theorem lebs_append (xs ys : List Int) : lebs (xs ++ ys) = lebs xs ++ lebs ys := by simp [lebs]
theorem lebs_cons (x : Int) (ys : List Int) : lebs (x :: ys) = leb1 x ++ lebs ys := by simp [lebs]
theorem lebs_one (x : Int) : lebs [x] = leb1 x := by simp [lebs]
theorem lebs_len (xs : List Int) : xs.length ≤ (lebs xs).length ∧ (lebs xs).length ≤ 10 * xs.length := by
  induction xs with
  | nil => simp [lebs]
  | cons x xs ih => have := leb1_len x; rw [lebs_cons, List.length_append, List.length_cons]; omega

/-- what is laid is read, whatever stands behind it -/
theorem getF_lebF (f : Nat) : ∀ (i : Nat) (acc n : Int) (more : List Int), i + f = 9 → 0 ≤ n → n < 2 * 128 ^ f → (0 < i → 0 < n) →
    getF i acc (lebF f n ++ more) = (acc + n * 128 ^ i, (i : Int) + (lebF f n).length, 0) := by
  induction f with
  | zero =>
    intro i acc n more hi h0 h1 hp
    simp at h1
    simp only [lebF, List.cons_append, getF]
    rw [if_neg (by omega), if_pos (by omega)]
    simp
  | succ f ih =>
    intro i acc n more hi h0 h1 hp
    rw [lebF]
    split
    · rename_i hn
      simp only [List.cons_append, getF]
      rw [if_neg (by omega), if_pos hn]
      simp
    · rename_i hn
      simp only [List.cons_append, getF]
      rw [if_neg (by omega), if_neg (by omega), ih (i + 1) _ (n / 128) more (by omega) (by omega) (div_lt h1) (by omega)]
      have e : acc + (n % 128 + 128 - 128) * 128 ^ i + n / 128 * 128 ^ (i + 1) = acc + n * 128 ^ i := by
        rw [Int.pow_succ]
        have h2 : n = n % 128 + 128 * (n / 128) := by omega
        generalize hp : (128 : Int) ^ i = p
        have h3 : n * p = (n % 128 + 128 * (n / 128)) * p := by rw [← h2]
        rw [h3, Int.add_mul, Int.add_sub_cancel, Int.mul_comm p 128, ← Int.mul_assoc, Int.mul_comm (n / 128) 128]
        omega
      rw [e]
      simp
      omega
theorem get1_leb1 (n : Int) (more : List Int) (h0 : 0 ≤ n) (h1 : n ≤ 18446744073709551615) : get1 (leb1 n ++ more) = (n, ((leb1 n).length : Int), 0) := by
  have := getF_lebF 9 0 0 n more rfl h0 (two64 h1) (by omega)
  rw [get1, leb1, this]; simp
/-- no beginning of it is taken -/
theorem getF_short (f : Nat) : ∀ (i : Nat) (acc n : Int) (k : Nat), i + f = 9 → 0 ≤ n → n < 2 * 128 ^ f → k < (lebF f n).length → getF i acc ((lebF f n).take k) = (0, 0, 10) := by
  induction f with
  | zero => intro i acc n k hi h0 h1 hk; simp [lebF] at hk; subst hk; simp [getF]
  | succ f ih =>
    intro i acc n k hi h0 h1 hk
    rw [lebF] at hk ⊢
    split
    · rename_i hn; rw [if_pos hn] at hk; simp at hk; subst hk; simp [getF]
    · rename_i hn
      rw [if_neg hn] at hk
      cases k with
      | zero => simp [getF]
      | succ k =>
        simp only [List.take_succ_cons, getF]
        rw [if_neg (by omega), if_neg (by omega)]
        exact ih (i + 1) _ (n / 128) k (by omega) (by omega) (div_lt h1) (by simpa using hk)
theorem get1_short (n : Int) (k : Nat) (h0 : 0 ≤ n) (h1 : n ≤ 18446744073709551615) (hk : k < (leb1 n).length) : get1 ((leb1 n).take k) = (0, 0, 10) := getF_short 9 0 0 n k rfl h0 (two64 h1) hk
/-- what is read was laid -/
theorem getF_back (b : List Int) : ∀ (i : Nat) (acc m w : Int), i ≤ 9 → (∀ x ∈ b, 0 ≤ x ∧ x ≤ 255) → getF i acc b = (m, w, 0) →
    ∃ n, 0 ≤ n ∧ n < 2 * 128 ^ (9 - i) ∧ (0 < i → 0 < n) ∧ m = acc + n * 128 ^ i ∧ w = i + (lebF (9 - i) n).length ∧ (lebF (9 - i) n).length ≤ b.length ∧ lebF (9 - i) n = b.take (lebF (9 - i) n).length := by
  induction b with
  | nil => intro i acc m w _ _ h; simp [getF] at h
  | cons x r ih =>
    intro i acc m w hi hx h
    have hx0 := hx x (by simp)
    rw [getF] at h
    split at h
    · simp at h
    · rename_i hc
      split at h
      · rename_i hlt
        obtain ⟨rfl, rfl, _⟩ : acc + x * 128 ^ i = m ∧ (i : Int) + 1 = w ∧ True := by simpa using h
        have hl : lebF (9 - i) x = [x] := by
          cases h9 : 9 - i with
          | zero => rfl
          | succ k => rw [lebF, if_pos hlt]
        refine ⟨x, hx0.1, ?_, by omega, rfl, by rw [hl]; simp, by rw [hl]; simp, by rw [hl]; simp⟩
        by_cases h9 : i = 9
        · subst h9; simp; omega
        · have : (128 : Int) ≤ 128 ^ (9 - i) := by
            obtain ⟨k, hk⟩ : ∃ k, 9 - i = k + 1 := ⟨8 - i, by omega⟩
            rw [hk, Int.pow_succ]
            have : (0 : Int) < 128 ^ k := Int.pow_pos (by omega)
            omega
          omega
      · rename_i hlt
        have hi9 : i ≠ 9 := by rintro rfl; apply hc; omega
        obtain ⟨n, h0, h1, h2, h3, h4, h5, h6⟩ := ih (i + 1) _ m w (by omega) (fun y hy => hx y (by simp [hy])) h
        obtain ⟨k, hk⟩ : ∃ k, 9 - i = k + 1 := ⟨8 - i, by omega⟩
        have hk' : 9 - (i + 1) = k := by omega
        rw [hk'] at h1 h4 h5 h6
        have hp := h2 (by omega)
        have hl : lebF (9 - i) (n * 128 + (x - 128)) = x :: lebF k n := by
          rw [hk, lebF, if_neg (by omega)]
          congr 1
          · omega
          · congr 1; omega
        refine ⟨n * 128 + (x - 128), by omega, ?_, by omega, ?_, ?_, ?_, ?_⟩
        · rw [hk, Int.pow_succ]
          generalize (128 : Int) ^ k = p at *
          omega
        · rw [h3, Int.pow_succ]
          generalize (128 : Int) ^ i = p
          rw [Int.add_mul, Int.mul_comm p 128, ← Int.mul_assoc]
          omega
        · rw [hl, List.length_cons, h4]; omega
        · rw [hl, List.length_cons, List.length_cons]; omega
        · rw [hl, List.length_cons, List.take_succ_cons, ← h6]
theorem get1_back (b : List Int) (n w : Int) (hb : ∀ x ∈ b, 0 ≤ x ∧ x ≤ 255) (h : get1 b = (n, w, 0)) : 0 ≤ n ∧ n ≤ 18446744073709551615 ∧ w = (leb1 n).length ∧ (leb1 n).length ≤ b.length ∧ leb1 n = b.take (leb1 n).length := by
  obtain ⟨m, h0, h1, _, h3, h4, h5, h6⟩ := getF_back b 0 0 n w (by omega) hb h
  have : n = m := by rw [h3]; simp
  subst this
  have e : (2 : Int) * 128 ^ 9 = 18446744073709551616 := by decide
  rw [show (9 - 0) = 9 from rfl] at *
  refine ⟨h0, by omega, by rw [h4]; simp [leb1], h5, h6⟩
theorem get1_err (b : List Int) : (get1 b).2.2 = 0 ∨ get1 b = (0, 0, 10) ∨ get1 b = (0, 0, 12) := by
  have : ∀ (b : List Int) i acc, (getF i acc b).2.2 = 0 ∨ getF i acc b = (0, 0, 10) ∨ getF i acc b = (0, 0, 12) := by
    intro b
    induction b with
    | nil => intro i acc; simp [getF]
    | cons x r ih =>
      intro i acc
      rw [getF]
      split
      · simp
      · split
        · simp
        · exact ih _ _
  exact this b 0 0

theorem get1_range (b : List Int) (hb : ∀ x ∈ b, 0 ≤ x ∧ x ≤ 255) : (0 ≤ (get1 b).1 ∧ (get1 b).1 ≤ 18446744073709551615) ∧ (0 ≤ (get1 b).2.1 ∧ (get1 b).2.1 ≤ 10 ∧ (get1 b).2.1 ≤ b.length) ∧ ((get1 b).2.2 = 0 ∨ (get1 b).2.2 = 10 ∨ (get1 b).2.2 = 12) := by
  rcases get1_err b with h | h | h
  · obtain ⟨n, w, e⟩ : ∃ n w, get1 b = (n, w, 0) := ⟨(get1 b).1, (get1 b).2.1, by rw [← h]⟩
    have h1 := get1_back b n w hb e
    have h2 := leb1_len n
    rw [e]; simp; omega
  · rw [h]; simp
  · rw [h]; simp
/-- all numbers -/
def allF : Nat → List Int → List Int × Int
  | 0, _ => ([], 0)
  | f + 1, b => if b = [] then ([], 0) else
    if (get1 b).2.2 ≠ 0 then ([], (get1 b).2.2) else
    if (allF f (b.drop (get1 b).2.1.toNat)).2 ≠ 0 then ([], (allF f (b.drop (get1 b).2.1.toNat)).2) else ((get1 b).1 :: (allF f (b.drop (get1 b).2.1.toNat)).1, 0)
def alls (b : List Int) : List Int × Int := allF b.length b
theorem get1_width (b : List Int) (hb : ∀ x ∈ b, 0 ≤ x ∧ x ≤ 255) (h : (get1 b).2.2 = 0) : 1 ≤ (get1 b).2.1 ∧ (get1 b).2.1 ≤ b.length := by
  obtain ⟨n, w, e⟩ : ∃ n w, get1 b = (n, w, 0) := ⟨(get1 b).1, (get1 b).2.1, by rw [← h]⟩
  have := get1_back b n w hb e
  have := leb1_len n
  rw [e]; simp; omega
theorem drop_bytes {b : List Int} (hb : ∀ x ∈ b, 0 ≤ x ∧ x ≤ 255) (k : Nat) : ∀ x ∈ b.drop k, 0 ≤ x ∧ x ≤ 255 := fun x hx => hb x (List.mem_of_mem_drop hx)
theorem allF_fuel (f : Nat) : ∀ (b : List Int), (∀ x ∈ b, 0 ≤ x ∧ x ≤ 255) → b.length ≤ f → allF f b = alls b := by
  have key : ∀ (f g : Nat) (b : List Int), (∀ x ∈ b, 0 ≤ x ∧ x ≤ 255) → b.length ≤ f → b.length ≤ g → allF f b = allF g b := by
    intro f
    induction f with
    | zero =>
      intro g b _ h1 h2
      have : b = [] := List.eq_nil_of_length_eq_zero (by omega)
      subst this
      cases g <;> simp [allF]
    | succ f ih =>
      intro g b hb h1 h2
      cases g with
      | zero =>
        have : b = [] := List.eq_nil_of_length_eq_zero (by omega)
        subst this
        simp [allF]
      | succ g =>
        rw [allF, allF]
        by_cases hn : b = []
        · simp [hn]
        · rw [if_neg hn, if_neg hn]
          by_cases he : (get1 b).2.2 = 0
          · have hw := get1_width b hb he
            have := ih g (b.drop (get1 b).2.1.toNat) (drop_bytes hb _) (by simp; omega) (by simp; omega)
            rw [this]
          · rw [if_pos he, if_pos he]
  intro b hb h
  exact key f b.length b hb h (Nat.le_refl _)
/-- behind numbers that have been read -/
def comb (acc : List Int) (r : List Int × Int) : List Int × Int := if r.2 ≠ 0 then ([], r.2) else (acc ++ r.1, 0)
theorem alls_nil : alls [] = ([], 0) := rfl
theorem alls_step (b : List Int) (hb : ∀ x ∈ b, 0 ≤ x ∧ x ≤ 255) (hn : b ≠ []) (acc : List Int) :
    comb acc (alls b) = if (get1 b).2.2 ≠ 0 then ([], (get1 b).2.2) else comb (acc ++ [(get1 b).1]) (alls (b.drop (get1 b).2.1.toNat)) := by
  obtain ⟨f, hf⟩ : ∃ f, b.length = f + 1 := ⟨b.length - 1, by have := List.length_pos_iff.2 hn; omega⟩
  rw [alls, hf, allF, if_neg hn]
  by_cases he : (get1 b).2.2 = 0
  · have hw := get1_width b hb he
    rw [if_neg (not_not_intro he), if_neg (not_not_intro he), allF_fuel f _ (drop_bytes hb _) (by simp; omega)]
    generalize alls (b.drop (get1 b).2.1.toNat) = r
    unfold comb
    by_cases hr : r.2 = 0
    · simp [hr]
    · simp [hr]
  · rw [if_pos he, if_pos he, comb, if_pos he]
theorem alls_err (b : List Int) (h : (alls b).2 ≠ 0) : (alls b).1 = [] := by
  unfold alls at *
  cases hl : b.length with
  | zero => rw [hl] at h; simp [allF] at h
  | succ f =>
    rw [hl] at h
    rw [allF] at h ⊢
    split
    · rfl
    · split
      · rfl
      · split
        · rfl
        · simp_all
theorem comb_nil (b : List Int) : comb [] (alls b) = alls b := by
  unfold comb
  by_cases h : (alls b).2 = 0
  · rw [if_neg (by simp [h])]; simp [← h]
  · rw [if_pos h, ← alls_err b h]
theorem alls_lebs (ns : List Int) (hn : ∀ n ∈ ns, 0 ≤ n ∧ n ≤ 18446744073709551615) : alls (lebs ns) = (ns, 0) := by
  have hbytes : ∀ ns : List Int, (∀ n ∈ ns, 0 ≤ n ∧ n ≤ 18446744073709551615) → ∀ x ∈ lebs ns, 0 ≤ x ∧ x ≤ 255 := by
    intro ns hn x hx
    obtain ⟨n, h1, h2⟩ := List.mem_flatMap.1 hx
    exact leb1_bytes n (hn n h1).1 (hn n h1).2 x h2
  have key : ∀ (ns acc : List Int), (∀ n ∈ ns, 0 ≤ n ∧ n ≤ 18446744073709551615) → comb acc (alls (lebs ns)) = (acc ++ ns, 0) := by
    intro ns
    induction ns with
    | nil => intro acc _; simp [lebs, alls_nil, comb]
    | cons n ns ih =>
      intro acc hn
      have h := hn n (by simp)
      have hl := leb1_len n
      rw [alls_step _ (hbytes _ hn) (by rw [lebs_cons]; intro e; have := congrArg List.length e; simp at this; rw [this.1] at hl; simp at hl), lebs_cons, get1_leb1 n _ h.1 h.2]
      rw [if_neg (by simp)]
      simp only [Int.toNat_natCast, List.drop_left]
      rw [ih _ (fun m hm => hn m (by simp [hm]))]
      simp
  have := key ns [] hn
  rw [comb_nil] at this
  simpa using this

/-- a greater number has no fewer bytes -/
theorem lebF_mono (f : Nat) : ∀ (a b : Int), a ≤ b → (lebF f a).length ≤ (lebF f b).length := by
  induction f with
  | zero => intro a b _; simp [lebF]
  | succ f ih =>
    intro a b h
    rw [lebF, lebF]
    split
    · split
      · simp
      · simp
    · rw [if_neg (by omega)]
      have := ih (a / 128) (b / 128) (by omega)
      simp; omega
theorem lebF_even (f : Nat) (m : Int) : (lebF f (2 * m + 1)).length = (lebF f (2 * m)).length := by
  cases f with
  | zero => rfl
  | succ f =>
    rw [lebF, lebF]
    by_cases h : 2 * m < 128
    · rw [if_pos h, if_pos (by omega)]; rfl
    · rw [if_neg h, if_neg (by omega), List.length_cons, List.length_cons]
      rw [show (2 * m + 1) / 128 = (2 * m) / 128 by omega]
theorem leb1_inj {a b : Int} (ha : 0 ≤ a ∧ a ≤ 18446744073709551615) (hb : 0 ≤ b ∧ b ≤ 18446744073709551615) (h : leb1 a = leb1 b) : a = b := by
  have h1 := get1_leb1 a [] ha.1 ha.2
  have h2 := get1_leb1 b [] hb.1 hb.2
  rw [h, h2] at h1
  simp at h1
  exact h1.symm

/-- signed numbers as ones without a sign -/
def zz (n : Int) : Int := if 0 ≤ n then 2 * n else -2 * n - 1
def unzz (n : Int) : Int := if n % 2 = 0 then n / 2 else -(n / 2) - 1
theorem unzz_zz (n : Int) : unzz (zz n) = n := by unfold unzz zz; split <;> split <;> omega
theorem zz_range (n : Int) (h : -9223372036854775808 ≤ n ∧ n ≤ 9223372036854775807) : 0 ≤ zz n ∧ zz n ≤ 18446744073709551615 := by unfold zz; split <;> omega
end Go.Proofs.YtkocfgaajghggaaDoor
