/- wire: what WireKeeps' walk needs: one form of each answer; a module in a block of its own. -/
import Derived.Test.YtkocfgaajghggaaDoorWireBack
namespace Go.Proofs.YtkocfgaajghggaaDoor
open Go.RowKit
set_option linter.unusedVariables false
set_option linter.unusedSimpArgs false

theorem strB_size (b : List Int) : (strB b).size = b.length := strOfNums_size b
theorem strB_ghi (b : List Int) : ((strB (b ++ [71, 72, 73])).toList == (strB b ++ (⟨#[71, 72, 73]⟩ : ByteArray)).toList) = true := by
  have h : strB (b ++ [71, 72, 73]) = strB b ++ ⟨#[71, 72, 73]⟩ := by
    unfold strB
    apply ByteArray.ext
    simp [strOfNums, ByteArray.data_append]
  rw [h]
  simp
/-- what Decode gives -/
def decM (b : List Int) : List Int × List InstD := match decP b with | .ok ms cs => (ms, cs) | .bad _ _ => ([], [])
theorem decM_ok {b : List Int} (hb : Bytes8 b) : (∀ i ∈ (decM b).2, ImmOk i) ∧ (decM b).1.length ≤ 4 ∧ (decM b).2.length ≤ 64 := by
  unfold decM
  split
  · rename_i ms cs h
    obtain ⟨h1, h2, _⟩ := dec_back hb h
    have h3 := modP_ok h1
    exact ⟨h2, h3.1.1, h3.2.2.1⟩
  · simp
def DecBoth (ms : List Int) (cs : List InstD) (w : World) (e : Ending) (w' : World) : Prop := ∃ vm vc, ∃ p er : Int, e = .returned (.tuple #[.agg #[vm, vc], .int .i64 p, .int .i64 er]) ∧ ModN w vm vc ms cs w'
theorem dec_post {b : List Int} {ms : List Int} {cs : List InstD} {w w' : World} {e : Ending} (hm : decM b = (ms, cs)) (h : DecPost b w e w') : DecBoth ms cs w e w' := by
  unfold DecBoth
  unfold decM at hm
  cases hd : decP b with
  | ok ms' cs' =>
    rw [hd] at hm
    obtain ⟨rfl, rfl⟩ : ms' = ms ∧ cs' = cs := by simpa using hm
    obtain ⟨⟨vm, vc, he, hN⟩, _⟩ := post_ok h hd
    exact ⟨vm, vc, 0, 0, he, hN⟩
  | bad p er =>
    rw [hd] at hm
    obtain ⟨rfl, rfl⟩ : [] = ms ∧ [] = cs := by simpa using hm
    obtain ⟨he, hO⟩ := post_bad h hd
    exact ⟨_, _, _, _, he, OwS.nil _ _, OwS.nil _ _, hO⟩
theorem decode_both {b : List Int} {ms : List Int} {cs : List InstD} (hm : decM b = (ms, cs)) (bv : Value) (w : World) (hb : Rd eU8 w bv b) (hby : ∀ x ∈ b, 0 ≤ x ∧ x ≤ 255) (hF : Forms w) :
    Calls Tryd.prog 14 #[bv] w (DecBoth ms cs w) := (decode_any b bv w hb hby hF).mono fun e w' h => dec_post hm h
theorem refDecode_both {b : List Int} {ms : List Int} {cs : List InstD} (hm : decM b = (ms, cs)) (bv : Value) (w : World) (hb : Rd eU8 w bv b) (hby : ∀ x ∈ b, 0 ≤ x ∧ x ≤ 255) :
    Calls Tryd.prog 15 #[bv] w (DecBoth ms cs w) := (refDecode_any b bv w hb hby).mono fun e w' h => dec_post hm h
/-- what Encode gives -/
def encX (ms : List Int) (cs : List InstD) : List Int := if modP ms cs then encP ms cs else []
def encE (ms : List Int) (cs : List InstD) : Int := if modP ms cs then 0 else 2
theorem encX_len (ms : List Int) (cs : List InstD) : (encX ms cs).length ≤ 4000 := by
  unfold encX
  cases h : modP ms cs
  · simp
  · exact (encP_len h).1
def EncUn (ms : List Int) (cs : List InstD) (w : World) (e : Ending) (w' : World) : Prop := ∃ v', e = .returned (.tuple #[v', .int .i64 (encE ms cs)]) ∧ OwS eU8 5 (fun k => w.heap.size ≤ k) w' v' (encX ms cs) ∧ Only (fun _ => False) w w'
theorem encode_un (ms : List Int) (cs : List InstD) (vm vc : Value) (w : World) (hm : Rd (eInt .i64) w vm ms) (hc : Rd eInst w vc cs) (hi : ∀ i ∈ cs, ImmOk i) (hF : Forms w) :
    Calls Tryd.prog 11 #[.agg #[vm, vc]] w (EncUn ms cs w) := by
  unfold EncUn encX encE
  cases h : modP ms cs
  · refine (encode_bad ms cs vm vc w hm hc hF h).mono ?_
    rintro e w' ⟨rfl, hO⟩
    exact ⟨_, rfl, OwS.nil _ _, hO⟩
  · refine (encode_ok ms cs vm vc w hm hc hi hF h).mono ?_
    rintro e w' ⟨v', rfl, h1, hO⟩
    exact ⟨_, rfl, h1, hO⟩
theorem refEncode_un (ms : List Int) (cs : List InstD) (vm vc : Value) (w : World) (hm : Rd (eInt .i64) w vm ms) (hc : Rd eInst w vc cs) (hi : ∀ i ∈ cs, ImmOk i) :
    Calls Tryd.prog 12 #[.agg #[vm, vc]] w (EncUn ms cs w) := by
  unfold EncUn encX encE
  cases h : modP ms cs
  · refine (refEncode_bad ms cs vm vc w hm hc h).mono ?_
    rintro e w' ⟨rfl, hO⟩
    exact ⟨_, rfl, OwS.nil _ _, hO⟩
  · refine (refEncode_ok ms cs vm vc w hm hc hi h).mono ?_
    rintro e w' ⟨v', rfl, h1, hO⟩
    exact ⟨_, rfl, h1, hO⟩
/-- a module in a block of its own -/
def ModO (g : Nat) (va vb : Value) (ms : List Int) (cs : List InstD) (S : Nat → Prop) (w : World) : Prop :=
  Blk g (.cells #[va, vb] 25) S w ∧ OwS (eInt .i64) 3 S w va ms ∧ OwS eInst 44 S w vb cs
theorem ModO.framed {g : Nat} {va vb : Value} {ms : List Int} {cs : List InstD} : Framed (ModO g va vb ms cs) := Blk.framed.and (OwS.framed.and OwS.framed)
theorem ModN.obj {w : World} {va vb : Value} {ms : List Int} {cs : List InstD} {W : World} (h : ModN w va vb ms cs W) :
    ModO W.heap.size va vb ms cs (fun k => w.heap.size ≤ k) (W.alloc (.cells #[va, vb] 25)) ∧ Only (fun _ => False) w (W.alloc (.cells #[va, vb] 25)) :=
  ⟨⟨⟨heap_alloc_new W _, h.2.2.size⟩, h.1.keep0 (Only.alloc _ _ _), h.2.1.keep0 (Only.alloc _ _ _)⟩, h.2.2.tr (Only.alloc _ _ _)⟩
theorem ModO.stA {g : Nat} {va vb : Value} {ms ms' : List Int} {cs : List InstD} {S : Nat → Prop} {w w1 : World} (h : ModO g va vb ms cs S w)
    (h1 : OwS (eInt .i64) 3 (fun k => va.ownBlock = some k) w1 va ms') (hO : Only (fun k => va.ownBlock = some k) w w1) : ModO g va vb ms' cs (fun k => S k ∨ w.heap.size ≤ k) w1 ∧ Only S w w1 := by
  obtain ⟨⟨hb, hS⟩, ha, hc⟩ := h
  exact ⟨⟨⟨hO.heap hb (row_ne hb ha.1 (by decide)), .inl hS⟩, ⟨h1.1, fun k hk => .inl (ha.2 k hk)⟩, OwS.framed.mono _ _ _ (hc.keepT hO fun k hk => own_ne hc.1 ha.1 (by decide) hk) fun k _ e => .inl e⟩, hO.mono fun k _ e => ha.2 k e⟩
theorem ModO.stB {g : Nat} {va vb : Value} {ms : List Int} {cs cs' : List InstD} {S : Nat → Prop} {w w1 : World} (h : ModO g va vb ms cs S w)
    (h1 : OwS eInst 44 (fun k => vb.ownBlock = some k) w1 vb cs') (hO : Only (fun k => vb.ownBlock = some k) w w1) : ModO g va vb ms cs' (fun k => S k ∨ w.heap.size ≤ k) w1 ∧ Only S w w1 := by
  obtain ⟨⟨hb, hS⟩, ha, hc⟩ := h
  exact ⟨⟨⟨hO.heap hb (row_ne hb hc.1 (by decide)), .inl hS⟩, OwS.framed.mono _ _ _ (ha.keepT hO fun k hk => own_ne ha.1 hc.1 (by decide) hk) fun k _ e => .inl e, ⟨h1.1, fun k hk => .inl (hc.2 k hk)⟩⟩, hO.mono fun k _ e => hc.2 k e⟩
theorem ModO.pushA {g : Nat} {va vb v : Value} {ms ms' : List Int} {cs : List InstD} {S : Nat → Prop} {w w1 : World} {n : Nat} (hn : w.heap.size ≤ n) (h : ModO g va vb ms cs S w)
    (h1 : OwS (eInt .i64) 3 (fun k => va.ownBlock = some k ∨ n ≤ k) w1 v ms') (hO : Only (fun k => va.ownBlock = some k) w w1) :
    ModO g v vb ms' cs (fun k => S k ∨ w.heap.size ≤ k) (w1.setCell ⟨g, 0, none⟩ v) ∧ Only S w (w1.setCell ⟨g, 0, none⟩ v) := by
  obtain ⟨⟨hb, hS⟩, ha, hc⟩ := h
  have hb1 := hO.heap hb (row_ne hb ha.1 (by decide))
  have oS := Only.setCell (fun k => k = g) w1 g 0 v rfl
  have hgv : v.ownBlock ≠ some g := row_ne hb1 h1.1 (by decide)
  have hc1 := hc.keepT hO fun k hk => own_ne hc.1 ha.1 (by decide) hk
  have hgb : vb.ownBlock ≠ some g := row_ne hb1 hc1.1 (by decide)
  refine ⟨⟨⟨?_, .inl hS⟩, ?_, ?_⟩, ?_⟩
  · have := blk_set hb1 0 v
    simpa using this
  · exact OwS.framed.mono _ _ _ (h1.keepT oS fun k hk e => hgv (e ▸ hk)) fun k _ e => e.imp (ha.2 k) (Nat.le_trans hn)
  · exact OwS.framed.mono _ _ _ (hc1.keepT oS fun k hk e => hgb (e ▸ hk)) fun k _ e => .inl e
  · exact (hO.mono fun k _ e => ha.2 k e).trans oS fun k _ e => by subst e; exact hS
theorem ModO.pushB {g : Nat} {va vb v : Value} {ms : List Int} {cs cs' : List InstD} {S : Nat → Prop} {w w1 : World} {n : Nat} (hn : w.heap.size ≤ n) (h : ModO g va vb ms cs S w)
    (h1 : OwS eInst 44 (fun k => vb.ownBlock = some k ∨ n ≤ k) w1 v cs') (hO : Only (fun k => vb.ownBlock = some k) w w1) :
    ModO g va v ms cs' (fun k => S k ∨ w.heap.size ≤ k) (w1.setCell ⟨g, 1, none⟩ v) ∧ Only S w (w1.setCell ⟨g, 1, none⟩ v) := by
  obtain ⟨⟨hb, hS⟩, ha, hc⟩ := h
  have hb1 := hO.heap hb (row_ne hb hc.1 (by decide))
  have oS := Only.setCell (fun k => k = g) w1 g 1 v rfl
  have hgv : v.ownBlock ≠ some g := row_ne hb1 h1.1 (by decide)
  have ha1 := ha.keepT hO fun k hk => own_ne ha.1 hc.1 (by decide) hk
  have hga : va.ownBlock ≠ some g := row_ne hb1 ha1.1 (by decide)
  refine ⟨⟨⟨?_, .inl hS⟩, ?_, ?_⟩, ?_⟩
  · have := blk_set hb1 1 v
    simpa using this
  · exact OwS.framed.mono _ _ _ (ha1.keepT oS fun k hk e => hga (e ▸ hk)) fun k _ e => .inl e
  · exact OwS.framed.mono _ _ _ (h1.keepT oS fun k hk e => hgv (e ▸ hk)) fun k _ e => e.imp (hc.2 k) (Nat.le_trans hn)
  · exact (hO.mono fun k _ e => hc.2 k e).trans oS fun k _ e => by subst e; exact hS
def XK (g h : Nat) (va vb vc vd : Value) (ms : List Int) (cs : List InstD) (S : Nat → Prop) (w : World) : Prop := ModO g va vb ms cs S w ∧ ModO h vc vd ms cs S w
theorem XK.framed {g h : Nat} {va vb vc vd : Value} {ms : List Int} {cs : List InstD} : Framed (XK g h va vb vc vd ms cs) := ModO.framed.and ModO.framed
/-- the second thing: new, or stepped -/
theorem LSt.newQ {P Q X Y : (Nat → Prop) → World → Prop} {w0 w w' : World} (hP : Framed P) (hX : Framed X) (hY : Framed Y) (h : LSt P Q X w0 w) (hy : Y (fun k => w.heap.size ≤ k) w') (ho : Only (fun _ => False) w w') : LSt P Y X w0 w' := by
  obtain ⟨tag, A, h1, h2, h3⟩ := h
  obtain ⟨tag', A', f, n, _⟩ := A.step ho 2 (fun _ h => h.elim)
  exact ⟨tag', A', f _ hP _ h1 (fun _ _ h => h), n _ hY (hY.mono _ _ _ hy fun _ _ h => .inr h), f _ hX _ h3 (fun _ _ h => h)⟩
theorem LSt.stepQ {P Q Q' X : (Nat → Prop) → World → Prop} {w0 w w' : World} (hP : Framed P) (hQ' : Framed Q') (hX : Framed X) (h : LSt P Q X w0 w)
    (H : ∀ S : Nat → Prop, Q S w → Q' (fun k => S k ∨ w.heap.size ≤ k) w' ∧ Only S w w') : LSt P Q' X w0 w' := by
  obtain ⟨tag, A, h1, h2, h3⟩ := h
  obtain ⟨hq, ho⟩ := H _ h2
  exact LSt.second_ hP hQ' hX A h1 h3 hq ho
theorem OwS.store1 {κ : IntKind} {ty : Nat} {S : Nat → Prop} {w : World} {g off n cap : Nat} {xs : List Int} (h : OwS (eInt κ) ty S w (.slice (some ⟨g, off, none⟩) n cap) xs) (i : Nat) (hi : i < xs.length) (x : Int) :
    OwS (eInt κ) ty S (w.setCell ⟨g, off + i, none⟩ (.int κ x)) (.slice (some ⟨g, off, none⟩) n cap) (xs.set i x) ∧ Only S w (w.setCell ⟨g, off + i, none⟩ (.int κ x)) := by
  have h1 := OwS.store h i hi x
  have hst : w.setCells g (off + i * (eInt κ).size) ((eInt κ).cells x) = w.setCell ⟨g, off + i, none⟩ (.int κ x) := by
    rw [show off + i * (eInt κ).size = off + i by show off + i * 1 = off + i; omega]
    rfl
  rw [hst] at h1
  exact h1
theorem OwS.cell1 {κ : IntKind} {ty : Nat} {S : Nat → Prop} {w : World} {ao : Option Addr} {n cap : Nat} {xs : List Int} (h : OwS (eInt κ) ty S w (.slice ao n cap) xs) (i : Nat) (hi : i < xs.length) :
    ∃ g off, ao = some ⟨g, off, none⟩ ∧ w.cell? ⟨g, off + i, none⟩ = some (.int κ xs[i]) ∧ w.frozen? ⟨g, off + i, none⟩ = false := by
  obtain ⟨g, off, he, _, hcell⟩ := h.1.at_ i hi
  obtain ⟨c0, f0⟩ := hcell 0 (Nat.one_pos)
  rw [show off + (i * (eInt κ).size + 0) = off + i by show off + (i * 1 + 0) = off + i; omega] at c0 f0
  exact ⟨g, off, he, c0, f0⟩
theorem OwS.store5 {ty : Nat} {S : Nat → Prop} {w : World} {g off n cap : Nat} {xs : List InstD} (h : OwS eInst ty S w (.slice (some ⟨g, off, none⟩) n cap) xs) (i : Nat) (hi : i < xs.length) (c : InstD) :
    OwS eInst ty S (((((w.setCell ⟨g, off + i * 5, none⟩ (.int .i64 c.1)).setCell ⟨g, off + i * 5 + 1, none⟩ (.int .i64 c.2.1)).setCell ⟨g, off + i * 5 + 2, none⟩ (.int .i64 c.2.2.1)).setCell ⟨g, off + i * 5 + 3, none⟩ (.int .i64 c.2.2.2.1)).setCell ⟨g, off + i * 5 + 4, none⟩ (.int .i64 c.2.2.2.2)) (.slice (some ⟨g, off, none⟩) n cap) (xs.set i c) ∧ Only S w (((((w.setCell ⟨g, off + i * 5, none⟩ (.int .i64 c.1)).setCell ⟨g, off + i * 5 + 1, none⟩ (.int .i64 c.2.1)).setCell ⟨g, off + i * 5 + 2, none⟩ (.int .i64 c.2.2.1)).setCell ⟨g, off + i * 5 + 3, none⟩ (.int .i64 c.2.2.2.1)).setCell ⟨g, off + i * 5 + 4, none⟩ (.int .i64 c.2.2.2.2)) := by
  have h1 := OwS.store h i hi c
  have hst : w.setCells g (off + i * eInst.size) (eInst.cells c) = (((((w.setCell ⟨g, off + i * 5, none⟩ (.int .i64 c.1)).setCell ⟨g, off + i * 5 + 1, none⟩ (.int .i64 c.2.1)).setCell ⟨g, off + i * 5 + 2, none⟩ (.int .i64 c.2.2.1)).setCell ⟨g, off + i * 5 + 3, none⟩ (.int .i64 c.2.2.2.1)).setCell ⟨g, off + i * 5 + 4, none⟩ (.int .i64 c.2.2.2.2)) := rfl
  rw [hst] at h1
  exact h1
theorem OwS.cells5 {ty : Nat} {S : Nat → Prop} {w : World} {ao : Option Addr} {n cap : Nat} {xs : List InstD} (h : OwS eInst ty S w (.slice ao n cap) xs) (i : Nat) (hi : i < xs.length) :
    ∃ g off, ao = some ⟨g, off, none⟩ ∧ w.cell? ⟨g, off + i * 5, none⟩ = some (.int .i64 xs[i].1) ∧ w.frozen? ⟨g, off + i * 5, none⟩ = false ∧ w.cell? ⟨g, off + i * 5 + 1, none⟩ = some (.int .i64 xs[i].2.1) ∧ w.frozen? ⟨g, off + i * 5 + 1, none⟩ = false ∧ w.cell? ⟨g, off + i * 5 + 2, none⟩ = some (.int .i64 xs[i].2.2.1) ∧ w.frozen? ⟨g, off + i * 5 + 2, none⟩ = false ∧ w.cell? ⟨g, off + i * 5 + 3, none⟩ = some (.int .i64 xs[i].2.2.2.1) ∧ w.frozen? ⟨g, off + i * 5 + 3, none⟩ = false ∧ w.cell? ⟨g, off + i * 5 + 4, none⟩ = some (.int .i64 xs[i].2.2.2.2) ∧ w.frozen? ⟨g, off + i * 5 + 4, none⟩ = false := by
  obtain ⟨g, off, he, _, hcell⟩ := h.1.at_ i hi
  obtain ⟨c0, f0⟩ := hcell 0 (by decide)
  rw [show off + (i * eInst.size + 0) = off + i * 5 by show off + (i * 5 + 0) = _; omega] at c0 f0
  obtain ⟨c1, f1⟩ := hcell 1 (by decide)
  rw [show off + (i * eInst.size + 1) = off + i * 5 + 1 by show off + (i * 5 + 1) = _; omega] at c1 f1
  obtain ⟨c2, f2⟩ := hcell 2 (by decide)
  rw [show off + (i * eInst.size + 2) = off + i * 5 + 2 by show off + (i * 5 + 2) = _; omega] at c2 f2
  obtain ⟨c3, f3⟩ := hcell 3 (by decide)
  rw [show off + (i * eInst.size + 3) = off + i * 5 + 3 by show off + (i * 5 + 3) = _; omega] at c3 f3
  obtain ⟨c4, f4⟩ := hcell 4 (by decide)
  rw [show off + (i * eInst.size + 4) = off + i * 5 + 4 by show off + (i * 5 + 4) = _; omega] at c4 f4
  exact ⟨g, off, he, c0, f0, c1, f1, c2, f2, c3, f3, c4, f4⟩
theorem LSt.dropP {P Q X : (Nat → Prop) → World → Prop} {w0 w : World} (h : LSt P Q X w0 w) : LSt NoX Q X w0 w := by obtain ⟨tag, A, _, h2, h3⟩ := h; exact ⟨tag, A, trivial, h2, h3⟩
end Go.Proofs.YtkocfgaajghggaaDoor
