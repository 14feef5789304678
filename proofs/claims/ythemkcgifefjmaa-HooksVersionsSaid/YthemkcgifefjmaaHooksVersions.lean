/- The law HooksVersions: its walk. -/
import Derived.Test.YthemkcgifefjmaaHooksAwake
import Derived.Test.YthemkcgifefjmaaHooksDec
import Derived.Deep.DeepCutAuto
import Derived.Deep.CutBlock
namespace Go.Proofs.Ythemkcgifefjmaa
open Go.RowKit
set_option linter.unusedVariables false

theorem zeroInt : ZeroInfo Try.prog 23 3 (eInt .i64) 0 8 := ZeroInfo.mk' Try.underlying23 (z := .int .i64 0) (by kernel_rfl) rfl

def VState (X : (Nat → Prop) → World → Prop) (g n : Nat) (vv pv : Value) (w : World) (k : Nat) (last : Int) (hs hs2 : List Pub) (wr : World) : Prop :=
  ∃ tag : Nat → Nat, Arena w.heap.size w wr tag ∧ TabS g last hs (fun k => tag k = 1) wr ∧ OwS (eInt .i64) 3 (fun k => tag k = 2) wr vv (hs2.map (·.1)) ∧ OwS (eInt .i64) 3 (fun k => tag k = 3) wr pv (hs2.map (·.2)) ∧ X (fun k => tag k = 8) wr ∧
    hs.length = n ∧ hs2.length = n ∧ 0 ≤ last ∧ last ≤ k
abbrev XO (ob : Nat) (o : Obj) : (Nat → Prop) → World → Prop := fun S w => True ∧ Blk ob o S w
theorem XO.framed {ob : Nat} {o : Obj} : Framed (XO ob o) := Framed.and (Framed.pure True) Blk.framed
abbrev XT : (Nat → Prop) → World → Prop := fun _ _ => True
theorem VState.fresh {X : (Nat → Prop) → World → Prop} (hX : Framed X) {g n : Nat} {vv pv : Value} {w wr w' : World} {k : Nat} {last : Int} {hs hs2 : List Pub} (H : VState X g n vv pv w k last hs hs2 wr) (ho : Only (fun _ => False) wr w') : VState X g n vv pv w k last hs hs2 w' := by
  obtain ⟨tag, A, h1, h2, h3, hx, h4⟩ := H
  obtain ⟨tag', A', f, _, _⟩ := A.step ho 9 (fun _ h => h.elim)
  exact ⟨tag', A', f _ TabS.framed _ h1 (fun _ _ h => h), f _ OwS.framed _ h2 (fun _ _ h => h), f _ OwS.framed _ h3 (fun _ _ h => h), f _ hX _ hx (fun _ _ h => h), h4⟩
theorem VState.blk {X : (Nat → Prop) → World → Prop} (hX : Framed X) {g n : Nat} {vv pv : Value} {w wr : World} {k : Nat} {last : Int} {hs hs2 : List Pub} (H : VState X g n vv pv w k last hs hs2 wr) (o : Obj) : VState (fun S w => X S w ∧ Blk wr.heap.size o S w) g n vv pv w k last hs hs2 (wr.alloc o) := by
  obtain ⟨tag, A, h1, h2, h3, hx, h4⟩ := H
  obtain ⟨tag', A', f, n', _⟩ := A.step (Only.alloc (fun _ => False) wr o) 8 (fun _ h => h.elim)
  exact ⟨tag', A', f _ TabS.framed _ h1 (fun _ _ h => h), f _ OwS.framed _ h2 (fun _ _ h => h), f _ OwS.framed _ h3 (fun _ _ h => h), ⟨f _ hX _ hx (fun _ _ h => h), n' _ Blk.framed ⟨heap_alloc_new wr o, .inr (Nat.le_refl _)⟩⟩, h4⟩
theorem VState.weaken {X Y : (Nat → Prop) → World → Prop} {g n : Nat} {vv pv : Value} {w wr : World} {k : Nat} {last : Int} {hs hs2 : List Pub} (H : VState X g n vv pv w k last hs hs2 wr) (h : ∀ S w, X S w → Y S w) : VState Y g n vv pv w k last hs hs2 wr := by
  obtain ⟨tag, A, h1, h2, h3, hx, h4⟩ := H
  exact ⟨tag, A, h1, h2, h3, h _ _ hx, h4⟩
theorem VState.facts {X : (Nat → Prop) → World → Prop} {g n : Nat} {vv pv : Value} {w wr : World} {k : Nat} {last : Int} {hs hs2 : List Pub} (H : VState X g n vv pv w k last hs hs2 wr) : hs.length = n ∧ hs2.length = n ∧ 0 ≤ last ∧ last ≤ k := by
  obtain ⟨tag, A, h1, h2, h3, hx, h4⟩ := H
  exact h4
theorem VState.below {X : (Nat → Prop) → World → Prop} {g n : Nat} {vv pv : Value} {w wr : World} {k : Nat} {last : Int} {hs hs2 : List Pub} (H : VState X g n vv pv w k last hs hs2 wr) : Below w.heap.size w wr := by obtain ⟨tag, A, _⟩ := H; exact A.below
theorem VState.has {X : (Nat → Prop) → World → Prop} {g n : Nat} {vv pv : Value} {w wr : World} {k : Nat} {last : Int} {hs hs2 : List Pub} (H : VState X g n vv pv w k last hs hs2 wr) : ∃ S, X S wr := by obtain ⟨tag, A, h1, h2, h3, hx, h4⟩ := H; exact ⟨_, hx⟩
/-- a call on the table -/
theorem VState.call {X : (Nat → Prop) → World → Prop} (hX : Framed X) {g n : Nat} {vv pv : Value} {w wr : World} {k k' : Nat} {last last' : Int} {hs hs' hs2 : List Pub} (H : VState X g n vv pv w k last hs hs2 wr) (hl : hs'.length = n) (h0 : 0 ≤ last') (h1 : last' ≤ k') {f : FuncId} {args : Array Value} {E : Ending → Prop} {pr : Program}
    (C : ∀ S S8 : Nat → Prop, X S8 wr → (∀ j, S j → ¬ S8 j) → TabS g last hs S wr → Calls pr f args wr fun e w' => E e ∧ TabS g last' hs' S w' ∧ Only S wr w') : Calls pr f args wr fun e w' => E e ∧ VState X g n vv pv w k' last' hs' hs2 w' := by
  obtain ⟨tag, A, t1, t2, t3, tx, t4, t5, t6, t7⟩ := H
  refine (C _ _ tx (fun j hj => by omega) t1).mono fun e w' ⟨he, ht, ho⟩ => ⟨he, ?_⟩
  obtain ⟨tag', A', f, n', _⟩ := A.step ho 1 (fun _ h => by omega)
  exact ⟨tag', A', n' _ TabS.framed (TabS.framed.mono _ _ _ ht (fun _ _ h => .inl h)), f _ OwS.framed _ t2 (fun _ _ h => by omega), f _ OwS.framed _ t3 (fun _ _ h => by omega), f _ hX _ tx (fun _ _ h => by omega), hl, t5, h0, h1⟩
/-- the element at j of the two rows is set -/
theorem VState.put {X : (Nat → Prop) → World → Prop} (hX : Framed X) {g n vb vo vc pb po pc : Nat} {w wr : World} {k : Nat} {last : Int} {hs hs2 : List Pub} (H : VState X g n (.slice (some ⟨vb, vo, none⟩) n vc) (.slice (some ⟨pb, po, none⟩) n pc) w k last hs hs2 wr) (j : Nat) (hj : j < n) (a b : Int) :
    VState X g n (.slice (some ⟨vb, vo, none⟩) n vc) (.slice (some ⟨pb, po, none⟩) n pc) w k last hs (hs2.set j (a, b)) ((wr.setCell ⟨vb, vo + j, none⟩ (.int .i64 a)).setCell ⟨pb, po + j, none⟩ (.int .i64 b)) := by
  obtain ⟨tag, A, t1, t2, t3, tx, t4, t5, t6, t7⟩ := H
  obtain ⟨h2, o2⟩ := t2.store j (by simpa [t5] using hj) a
  have e1 : wr.setCells vb (vo + j * (eInt .i64).size) ((eInt .i64).cells a) = wr.setCell ⟨vb, vo + j, none⟩ (.int .i64 a) := by simp [eInt, World.setCells]
  rw [e1] at h2 o2
  obtain ⟨tag1, A1, f1, n1, _⟩ := A.step o2 2 (fun _ h => by omega)
  have u1 := f1 _ TabS.framed _ t1 (fun _ _ h => by omega)
  have u2 := n1 _ OwS.framed (OwS.framed.mono _ _ _ h2 (fun _ _ h => .inl h))
  have u3 := f1 _ OwS.framed _ t3 (fun _ _ h => by omega)
  have ux := f1 _ hX _ tx (fun _ _ h => by omega)
  obtain ⟨h3, o3⟩ := u3.store j (by simpa [t5] using hj) b
  have e2 : (wr.setCell ⟨vb, vo + j, none⟩ (.int .i64 a)).setCells pb (po + j * (eInt .i64).size) ((eInt .i64).cells b) = (wr.setCell ⟨vb, vo + j, none⟩ (.int .i64 a)).setCell ⟨pb, po + j, none⟩ (.int .i64 b) := by simp [eInt, World.setCells]
  rw [e2] at h3 o3
  obtain ⟨tag2, A2, f2, n2, _⟩ := A1.step o3 3 (fun _ h => by omega)
  exact ⟨tag2, A2, f2 _ TabS.framed _ u1 (fun _ _ h => by omega), by have := f2 _ OwS.framed _ u2 (fun _ _ h => by omega); rw [List.map_set]; exact this, by rw [List.map_set]; exact n2 _ OwS.framed (OwS.framed.mono _ _ _ h3 (fun _ _ h => .inl h)), f2 _ hX _ ux (fun _ _ h => by omega), t4, by simpa using t5, t6, t7⟩
/-- the cells at j of the two rows -/
theorem VState.cells {X : (Nat → Prop) → World → Prop} {g n vb vo vc pb po pc : Nat} {w wr : World} {k : Nat} {last : Int} {hs hs2 : List Pub} (H : VState X g n (.slice (some ⟨vb, vo, none⟩) n vc) (.slice (some ⟨pb, po, none⟩) n pc) w k last hs hs2 wr) (j : Nat) (hj : j < hs2.length) :
    wr.cell? ⟨vb, vo + j, none⟩ = some (.int .i64 hs2[j].1) ∧ wr.cell? ⟨pb, po + j, none⟩ = some (.int .i64 hs2[j].2) ∧ wr.frozen? ⟨vb, vo + j, none⟩ = false ∧ wr.frozen? ⟨pb, po + j, none⟩ = false ∧ ¬ vb = pb := by
  obtain ⟨tag, A, t1, t2, t3, tx, t4, t5, t6, t7⟩ := H
  obtain ⟨b, off, e, _, hat⟩ := t2.1.at_ j (by simpa using hj)
  obtain ⟨rfl, rfl⟩ : vb = b ∧ vo = off := by simpa using e
  obtain ⟨b2, off2, e2, _, hat2⟩ := t3.1.at_ j (by simpa using hj)
  obtain ⟨rfl, rfl⟩ : pb = b2 ∧ po = off2 := by simpa using e2
  obtain ⟨a1, a2⟩ := hat 0 (by decide)
  obtain ⟨c1, c2⟩ := hat2 0 (by decide)
  have s1 := t2.2 vb rfl
  have s2 := t3.2 pb rfl
  simp only [eInt, Nat.mul_one, Nat.add_zero] at a1 a2 c1 c2
  exact ⟨by rw [a1]; simp, by rw [c1]; simp, a2, c2, fun e => by subst e; omega⟩

theorem VState.obne {ob : Nat} {o : Obj} {g n vb vo vc pb po pc : Nat} {w wr : World} {k : Nat} {last : Int} {hs hs2 : List Pub} (H : VState (XO ob o) g n (.slice (some ⟨vb, vo, none⟩) n vc) (.slice (some ⟨pb, po, none⟩) n pc) w k last hs hs2 wr) : ¬ ob = vb ∧ ¬ ob = pb := by
  obtain ⟨tag, A, t1, t2, t3, tx, _⟩ := H
  have s1 := t2.2 vb rfl
  have s2 := t3.2 pb rfl
  have s3 := tx.2.2
  exact ⟨fun e => by subst e; omega, fun e => by subst e; omega⟩
/-- what an operation answers, and leaves -/
def Answer (kind hook prog last : Int) (hs : List Pub) (v e last' : Int) (hs' : List Pub) : Prop :=
  (e ≠ 0 ∧ v = 0 ∧ last' = last ∧ hs' = hs) ∨
  (e = 0 ∧ ¬ bad hs hook ∧ ((kind = 2 ∧ last' = last ∧ hs' = hs.set hook.toNat (0, 0)) ∨ (kind ≠ 2 ∧ v = last + 1 ∧ last' = last + 1 ∧ hs' = hs.set hook.toNat (last + 1, prog))))
theorem answer_attach (hook prog last : Int) (hs : List Pub) (kind : Int) (hk : kind ≠ 2) : Answer kind hook prog last hs (attachOf hs last hook prog).1 (attachOf hs last hook prog).2.1 (attachOf hs last hook prog).2.2.1 (attachOf hs last hook prog).2.2.2 := by
  unfold attachOf
  split
  · exact .inl ⟨by simp, rfl, rfl, rfl⟩
  · split
    · exact .inl ⟨by simp, rfl, rfl, rfl⟩
    · rename_i h _; exact .inr ⟨rfl, h, .inr ⟨hk, rfl, rfl, rfl⟩⟩
theorem answer_swap (hook prog last : Int) (hs : List Pub) (kind : Int) (hk : kind ≠ 2) : Answer kind hook prog last hs (swapOf hs last hook prog).1 (swapOf hs last hook prog).2.1 (swapOf hs last hook prog).2.2.1 (swapOf hs last hook prog).2.2.2 := by
  unfold swapOf
  split
  · exact .inl ⟨by simp, rfl, rfl, rfl⟩
  · split
    · rename_i h _; exact .inr ⟨rfl, h, .inr ⟨hk, rfl, rfl, rfl⟩⟩
    · exact .inl ⟨by simp, rfl, rfl, rfl⟩
theorem answer_detach (hook prog last : Int) (hs : List Pub) : Answer 2 hook prog last hs 0 (detachOf hs [hook]).1 last (detachOf hs [hook]).2 := by
  unfold detachOf
  split
  · rename_i h
    split
    · exact .inr ⟨rfl, h.1 hook (by simp), .inl ⟨rfl, rfl, rfl⟩⟩
    · exact .inl ⟨by simp, rfl, rfl, rfl⟩
  · exact .inl ⟨by simp, rfl, rfl, rfl⟩
theorem Answer.len {kind hook prog last : Int} {hs : List Pub} {v e last' : Int} {hs' : List Pub} (h : Answer kind hook prog last hs v e last' hs') : hs'.length = hs.length ∧ last ≤ last' ∧ last' ≤ last + 1 := by
  rcases h with ⟨_, _, rfl, rfl⟩ | ⟨_, _, ⟨_, rfl, rfl⟩ | ⟨_, _, rfl, rfl⟩⟩ <;> simp <;> omega

/-- where no version is, no program is -/
def ZeroOk (hs : List Pub) : Prop := ∀ p ∈ hs, ¬ 0 < p.1 → p = (0, 0)
section
variable {X : (Nat → Prop) → World → Prop} {g n : Nat} {vv pv : Value} {w wr : World} {k : Nat} {last : Int} {hs hs2 : List Pub}
theorem attachV (hX : Framed X) (V : VState X g n vv pv w k last hs hs2 wr) (h4 : n ≤ 4) (hk : k ≤ 9000000000000) (hook prog : Int) :
    Calls Try.prog 10 #[.pointer (some ⟨g, 0, none⟩), .int .i64 hook, .int .i64 prog] wr fun e w' => e = .returned (.tuple #[.int .i64 (attachOf hs last hook prog).1, .int .i64 (attachOf hs last hook prog).2.1]) ∧ VState X g n vv pv w (k + 1) (attachOf hs last hook prog).2.2.1 (attachOf hs last hook prog).2.2.2 hs2 w' := by
  obtain ⟨f1, f2, f3, f4⟩ := V.facts
  have ha := (answer_attach hook prog last hs 0 (by decide)).len
  exact V.call hX (ha.1.trans f1) (by omega) (by omega) (fun S _ _ _ h => attach_any g last hs hook prog S wr h (by omega) f3 (by omega))
theorem swapV (hX : Framed X) (V : VState X g n vv pv w k last hs hs2 wr) (h4 : n ≤ 4) (hk : k ≤ 9000000000000) (hook prog : Int) :
    Calls Try.prog 9 #[.pointer (some ⟨g, 0, none⟩), .int .i64 hook, .int .i64 prog] wr fun e w' => e = .returned (.tuple #[.int .i64 (swapOf hs last hook prog).1, .int .i64 (swapOf hs last hook prog).2.1]) ∧ VState X g n vv pv w (k + 1) (swapOf hs last hook prog).2.2.1 (swapOf hs last hook prog).2.2.2 hs2 w' := by
  obtain ⟨f1, f2, f3, f4⟩ := V.facts
  have ha := (answer_swap hook prog last hs 0 (by decide)).len
  exact V.call hX (ha.1.trans f1) (by omega) (by omega) (fun S _ _ _ h => swap_any g last hs hook prog S wr h (by omega) f3 (by omega))
/-- Detach of one hook, in a new block -/
theorem detachV (hX : Framed X) (V : VState X g n vv pv w k last hs hs2 wr) (h4 : n ≤ 4) (hook : Int) :
    Calls Try.prog 13 #[.pointer (some ⟨g, 0, none⟩), .slice (some ⟨wr.heap.size, 0, none⟩) 1 1] (wr.alloc (.cells #[.int .i64 hook] 3)) fun e w' => e = .returned (.int .i64 (detachOf hs [hook]).1) ∧ VState X g n vv pv w (k + 1) last (detachOf hs [hook]).2 hs2 w' := by
  obtain ⟨f1, f2, f3, f4⟩ := V.facts
  have ha := (answer_detach hook 0 last hs).len
  have hrd := Rd.lit (E := eInt .i64) wr #[.int .i64 hook] 3 (0, 0) 1 1 [hook] (by simp [Enc.all, eInt]) rfl (Nat.le_refl _) (by decide)
  have h := (V.blk hX (.cells #[.int .i64 hook] 3)).call (k' := k + 1) (Framed.and hX Blk.framed) (hs' := (detachOf hs [hook]).2) (last' := last) (ha.1.trans f1) f3 (by omega) (fun S S8 hx hd h => detach_any g last hs [hook] _ S _ h (by omega) hrd (by
    intro a n c e h0
    obtain ⟨rfl, _, _⟩ : (⟨wr.heap.size, 0, none⟩ : Addr) = a ∧ 1 = n ∧ 1 = c := by simpa using e
    exact fun hs => hd _ hs hx.2.2))
  exact h.mono fun e w' ⟨he, hv⟩ => ⟨he, hv.weaken fun _ _ h => h.1⟩
theorem currentV (hX : Framed X) (V : VState X g n vv pv w k last hs hs2 wr) (h4 : n ≤ 4) (h : Int) :
    Calls Try.prog 12 #[.pointer (some ⟨g, 0, none⟩), .int .i64 h] wr fun e w' => e = .returned (.tuple #[.int .i64 (currentOf hs h).1, .int .i64 (currentOf hs h).2.1, .bool (currentOf hs h).2.2]) ∧ VState X g n vv pv w k last hs hs2 w' := by
  have V0 := V
  obtain ⟨tag, A, t1, t2, t3, tx, t4, t5, t6, t7⟩ := V
  exact (current_any g last hs h _ wr t1 (by omega)).mono fun e w' ⟨he, ho⟩ => ⟨he, V0.fresh hX ho⟩
theorem lastV (V : VState X g n vv pv w k last hs hs2 wr) : Calls Try.prog 14 #[.pointer (some ⟨g, 0, none⟩)] wr fun e w' => e = .returned (.int .i64 last) ∧ wr = w' := by
  obtain ⟨tag, A, ⟨v, t1⟩, t2⟩ := V
  exact last_any g last wr (blk_cell t1.1 0)
end

set_option maxRecDepth 100000 in
set_option maxHeartbeats 8000000 in
theorem hooksVersions_yes (n : Nat) (ops : List OpD) (v : Value) (w : World) (h1 : 1 ≤ n) (h4 : n ≤ 4) (hv : Rd eOp w v ops) (hl : ops.length * 48 ≤ 140737488351232) :
    Calls Try.prog 4 #[.int .i64 (n : Int), v] w fun e w' => e = .returned (.bool true) ∧ Below w.heap.size w w' := by
  obtain ⟨_, ao, cap, rfl, hcap, _, _⟩ := id hv
  go_enter Try.func4, Try.ntmps4
  go_wp2_with fail
  refine (awake_any _).mono ?_
  rintro e w1 ⟨rfl, hb1⟩
  go_wp2_with fail
  refine (new_any n _ h1 h4).mono ?_
  rintro e w2 ⟨g, rfl, hT, hO2⟩
  obtain ⟨tag2, A2, f2, n2, k2⟩ := (Arena.of_below hb1 (Nat.le_refl _)).step hO2 1 (fun _ h => h.elim)
  have hT2 := n2 _ TabS.framed (TabS.framed.mono _ _ _ hT (fun k _ h => .inr h))
  clear hT f2 n2 k2 hO2
  go_wp2_with (refine wl_makeS (E := eInt .i64) rfl (.tmp 37) (.tmp 37) _ rfl 3 8 0 zeroInt _ _ n rfl rfl (by omega) (by unfold maxLen; omega) ?_)
  intro w3 hv3 ho3
  obtain ⟨tag3, A3, f3, n3, k3⟩ := A2.step ho3 2 (fun _ h => h.elim)
  have hT3 := f3 _ TabS.framed _ hT2 (fun _ _ h => h)
  have hv3 := n3 _ OwS.framed (OwS.framed.mono _ _ _ hv3 (fun k _ h => .inr h))
  clear hT2 f3 n3 k3 A2 ho3
  generalize w2.heap.size = vb at *
  go_wp2_with (refine wl_makeS (E := eInt .i64) rfl (.tmp 39) (.tmp 39) _ rfl 3 8 0 zeroInt _ _ n rfl rfl (by omega) (by unfold maxLen; omega) ?_)
  intro w4 hp4 ho4
  obtain ⟨tag4, A4, f4, n4, k4⟩ := A3.step ho4 3 (fun _ h => h.elim)
  have hT4 := f4 _ TabS.framed _ hT3 (fun _ _ h => h)
  have hv4 := f4 _ OwS.framed _ hv3 (fun _ _ h => h)
  have hp4 := n4 _ OwS.framed (OwS.framed.mono _ _ _ hp4 (fun k _ h => .inr h))
  clear hT3 hv3 f4 n4 k4 A3 ho4
  generalize w3.heap.size = pb at *
  have hI : VState XT g n (.slice (some ⟨vb, 0, none⟩) n n) (.slice (some ⟨pb, 0, none⟩) n n) w 0 0 (List.replicate n (0, 0)) (List.replicate n (0, 0)) w4 :=
    ⟨tag4, A4, hT4, by simpa using hv4, by simpa using hp4, trivial, by simp, by simp, by omega, by omega⟩
  clear hT4 hv4 hp4 A4
  go_wp2_with fail
  go_loopw [7, 10, 11, 12, 13, 14, 15, 16, 17] (fun lastv i _ _ _ _ _ _ _ wr => ∃ (k : Nat) (last : Int) (hs : List Pub), k ≤ ops.length ∧ i = .int .i64 k ∧ lastv = .int .i64 last ∧ VState XT g n (.slice (some ⟨vb, 0, none⟩) n n) (.slice (some ⟨pb, 0, none⟩) n n) w k last hs hs wr ∧ ZeroOk hs) (fun _ i _ _ _ _ _ _ _ _ => ops.length - (intOf i).toNat)
  case atStart => exact ⟨0, 0, _, Nat.zero_le _, rfl, rfl, hI, fun p hp _ => List.eq_of_mem_replicate hp⟩
  case round =>
    clear hI hb1
    obtain ⟨k, last, hs, hk, rfl, rfl, V, hz⟩ := hrel
    by_cases hlt : k < ops.length
    · have hkl : k < ops.length := hlt
      have hlast0 : 0 ≤ last := V.facts.2.2.1
      obtain ⟨_, ao', cap', hao, _, _, hx⟩ := hv.grow V.below
      obtain ⟨rfl, _, rfl⟩ : ao = ao' ∧ ops.length = ops.length ∧ cap = cap' := by simpa using hao
      obtain ⟨b, off, rfl, hc⟩ := hx (by omega)
      have c0 : wr.cell? ⟨b, off + k * 4, none⟩ = some (.int .i64 ops[k].1) := hc (k * 4) _ ((eOp.all_at ops k 0 hlt (by decide)).trans rfl)
      have c1 : wr.cell? ⟨b, off + k * 4 + 1, none⟩ = some (.int .i64 ops[k].2.1) := by have := hc (k * 4 + 1) _ ((eOp.all_at ops k 1 hlt (by decide)).trans rfl); rw [← Nat.add_assoc] at this; exact this
      have c2 : wr.cell? ⟨b, off + k * 4 + 2, none⟩ = some (.int .i64 ops[k].2.2.1) := by have := hc (k * 4 + 2) _ ((eOp.all_at ops k 2 hlt (by decide)).trans rfl); rw [← Nat.add_assoc] at this; exact this
      have c3 : wr.cell? ⟨b, off + k * 4 + 3, none⟩ = some (.slice ops[k].2.2.2.1 ops[k].2.2.2.2.1 ops[k].2.2.2.2.2) := by have := hc (k * 4 + 3) _ ((eOp.all_at ops k 3 hlt (by decide)).trans rfl); rw [← Nat.add_assoc] at this; exact this
      clear hc hx hao
      generalize ops[k].1 = kind at c0
      generalize ops[k].2.1 = hook at c1
      generalize ops[k].2.2.1 = prog at c2
      generalize ops[k].2.2.2.1 = sa at c3
      generalize ops[k].2.2.2.2.1 = sn at c3
      generalize ops[k].2.2.2.2.2 = sc at c3
      have V1 := V.blk (Framed.pure True) (.cells #[.int .i64 kind, .int .i64 hook, .int .i64 prog, .slice sa sn sc] 30)
      go_upto_block 2 with (fail)
      clear c0 c1 c2 c3 V
      generalize wr.heap.size = ob at *
      generalize World.alloc wr _ = w4 at *
      go_cut [12, 13] (fun av ev wc => ∃ (a e last' : Int) (hs' : List Pub), av = .int .i64 a ∧ ev = .int .i64 e ∧ VState (XO ob (.cells #[.int .i64 kind, .int .i64 hook, .int .i64 prog, .slice sa sn sc] 30)) g n (.slice (some ⟨vb, 0, none⟩) n n) (.slice (some ⟨pb, 0, none⟩) n n) w (k + 1) last' hs' hs wc ∧ Answer kind hook prog last hs a e last' hs')
      case first =>
        obtain ⟨hln, hln2, hl0, hlk⟩ := V1.facts
        obtain ⟨S8, _, hB8, hS8⟩ := V1.has
        have b0 : w4.cell? ⟨ob, 0, none⟩ = some (.int .i64 kind) := blk_cell hB8 0
        have b1 : w4.cell? ⟨ob, 1, none⟩ = some (.int .i64 hook) := blk_cell hB8 1
        have b2 : w4.cell? ⟨ob, 2, none⟩ = some (.int .i64 prog) := blk_cell hB8 2
        have hob := heap_lt hB8
        have HLN := Lib.hid hln
        clear hB8 hS8 hln hln2
        by_cases hk0 : kind = 0
        · subst hk0
          go_wp2_with fail
          refine (attachV XO.framed V1 h4 (by omega) hook prog).mono ?_
          rintro e w5 ⟨rfl, V5⟩
          have ha := answer_attach hook prog last hs 0 (by decide)
          have HA := Lib.hid ha
          clear ha b0 b1 b2 hob
          go_wp2_with fail
          go_meet
          exact ⟨_, _, _, _, rfl, rfl, V5, HA.out⟩
        · have hk0b : (kind == 0) = false := by simpa using hk0
          clear hk0
          by_cases hk1 : kind = 1
          · subst hk1
            clear hk0b
            go_wp2_with fail
            refine (swapV XO.framed V1 h4 (by omega) hook prog).mono ?_
            rintro e w5 ⟨rfl, V5⟩
            have ha := answer_swap hook prog last hs 1 (by decide)
            have HA := Lib.hid ha
            clear ha b0 b1 b2 hob
            go_wp2_with fail
            go_meet
            exact ⟨_, _, _, _, rfl, rfl, V5, HA.out⟩
          · have hk1b : (kind == 1) = false := by simpa using hk1
            clear hk1
            by_cases hk2 : kind = 2
            · subst hk2
              clear hk0b hk1b
              go_wp2_with fail
              refine (detachV XO.framed V1 h4 hook).mono ?_
              rintro e w5 ⟨rfl, V5⟩
              have ha := answer_detach hook prog last hs
              have HA := Lib.hid ha
              clear ha b0 b1 b2 hob
              go_wp2_with fail
              go_meet
              exact ⟨_, _, _, _, rfl, rfl, V5, HA.out⟩
            · have hk2b : (kind == 2) = false := by simpa using hk2
              clear hk2
              go_wp2_with fail
              go_meet
              exact ⟨0, 2, last, hs, rfl, rfl, by obtain ⟨tg, q1, q2, q3, q4, q5, q6, q7, q8, q9⟩ := V1; exact ⟨tg, q1, q2, q3, q4, q5, q6, q7, q8, by omega⟩, .inl ⟨by decide, rfl, rfl, rfl⟩⟩
      case rest =>
        clear V1
        obtain ⟨a, e, last', hs', rfl, rfl, V5, ha⟩ := hcut
        obtain ⟨hln, hln2, hl0, hlk⟩ := V5.facts
        obtain ⟨S8, _, hB8, hS8⟩ := V5.has
        have b0 : wc.cell? ⟨ob, 0, none⟩ = some (.int .i64 kind) := blk_cell hB8 0
        have b1 : wc.cell? ⟨ob, 1, none⟩ = some (.int .i64 hook) := blk_cell hB8 1
        have b2 : wc.cell? ⟨ob, 2, none⟩ = some (.int .i64 prog) := blk_cell hB8 2
        have hob := heap_lt hB8
        clear hB8 hS8
        go_upto_if 83 with (fail)
        go_cut [7] (fun lastv wd => lastv = .int .i64 last' ∧ VState XT g n (.slice (some ⟨vb, 0, none⟩) n n) (.slice (some ⟨pb, 0, none⟩) n n) w (k + 1) last' hs' hs' wd ∧ ZeroOk hs')
        case first =>
          rcases ha with ⟨he, rfl, rfl, rfl⟩ | ⟨rfl, hnb, ha⟩
          · have he1 : (e != 0) = true := by simpa using he
            have he2 : (e == 0) = false := by simpa using he
            clear he b0 b1 b2 hob
            go_wp2_with fail
            refine (lastV V5).mono ?_
            rintro e w6 ⟨rfl, rfl⟩
            go_wp2_with fail
            go_meet
            exact ⟨rfl, V5.weaken (fun _ _ _ => trivial), hz⟩
          · obtain ⟨j, rfl⟩ : ∃ j : Nat, hook = (j : Int) := ⟨hook.toNat, by unfold bad at hnb; omega⟩
            have hj : j < n := by unfold bad at hnb; omega
            have hjh : j < hs.length := by omega
            obtain ⟨x0, y0, fx, fy, hne⟩ := V5.cells j hjh
            have hne2 : ¬ pb = vb := fun h => hne h.symm
            obtain ⟨hvo, hpo⟩ := V5.obne
            have hvo2 : ¬ vb = ob := fun h => hvo h.symm
            have hpo2 : ¬ pb = ob := fun h => hpo h.symm
            have hji0 : (0 : Int) ≤ (j : Int) := by omega
            have hji1 : (j : Int) < (n : Int) := by omega
            have hjt : (j : Int).toNat = j := by simp
            simp only [Nat.zero_add] at x0 y0 fx fy
            rcases ha with ⟨rfl, rfl, rfl⟩ | ⟨hk2, rfl, rfl, rfl⟩
            · have V6 := V5.put XO.framed j hj 0 0
              rw [hjt] at V6
              have HJT := Lib.hid hjt
              simp only [Nat.zero_add] at V6
              have HV6 := Lib.hid V6
              have hz2 : ZeroOk (hs.set j (0, 0)) := fun p hp hn => by
                rcases List.mem_or_eq_of_mem_set hp with h | h
                · exact hz p h hn
                · exact h
              generalize hs[j] = q at *
              clear V6 hnb hjh hjt V5 hln hln2
              go_wp2_with fail
              go_meet
              refine ⟨rfl, ?_, ?_⟩
              · first | exact HV6.out.weaken (fun _ _ _ => trivial) | (rw [HJT.out]; exact HV6.out.weaken (fun _ _ _ => trivial))
              · first | exact hz2 | (rw [HJT.out]; exact hz2)
            · have V6 := V5.put XO.framed j hj (last + 1) prog
              rw [hjt] at V6
              have HJT := Lib.hid hjt
              simp only [Nat.zero_add] at V6
              have HV6 := Lib.hid V6
              have hk2b : (kind == 2) = false := by simpa using hk2
              have hz2 : ZeroOk (hs.set j (last + 1, prog)) := fun p hp hn => by
                rcases List.mem_or_eq_of_mem_set hp with h | h
                · exact hz p h hn
                · subst h; simp at hn; omega
              generalize hs[j] = q at *
              clear V6 hnb hjh hjt V5 hln hln2 hk2
              go_wp2_with fail
              go_meet
              refine ⟨rfl, ?_, ?_⟩
              · first | exact HV6.out.weaken (fun _ _ _ => trivial) | (rw [HJT.out]; exact HV6.out.weaken (fun _ _ _ => trivial))
              · first | exact hz2 | (rw [HJT.out]; exact hz2)
        case rest =>
          clear V5 ha b0 b1 b2 hob hln hln2 hl0 hlk hz
          obtain ⟨rfl, V7, hz⟩ := hcut
          obtain ⟨hln, hln2, hl0, hlk⟩ := V7.facts
          go_wp2_with fail
          go_loopw [14, 15, 16, 17] (fun i _ _ _ wq => ∃ j : Nat, j ≤ n ∧ i = .int .i64 j ∧ VState XT g n (.slice (some ⟨vb, 0, none⟩) n n) (.slice (some ⟨pb, 0, none⟩) n n) w (k + 1) last' hs' hs' wq) (fun i _ _ _ _ => n - (intOf i).toNat)
          case atStart => exact ⟨0, Nat.zero_le _, rfl, V7⟩
          case round =>
            clear V7
            obtain ⟨j, hj, rfl, V8⟩ := hrel
            by_cases hjn : j < n
            · go_wp2_with fail
              refine (currentV (Framed.pure True) V8 h4 (j : Int)).mono ?_
              rintro e w9 ⟨rfl, V9⟩
              have hjh : j < hs'.length := by omega
              obtain ⟨x0, y0, fx, fy, hne⟩ := V9.cells j hjh
              simp only [Nat.zero_add] at x0 y0
              have hcu : currentOf hs' (j : Int) = if 0 < hs'[j].1 then (hs'[j].1, hs'[j].2, true) else (0, 0, false) := by
                unfold currentOf
                rw [if_neg (by unfold bad; omega)]
                simp [getH, hjh]
              have hzz := hz _ (List.getElem_mem hjh)
              have HCU := Lib.hid hcu
              have HZZ := Lib.hid hzz
              clear V8 hcu hzz fx fy
              generalize hs'[j] = q at *
              obtain ⟨q1, q2⟩ := q
              by_cases hq : 0 < q1
              · have hc2 := HCU.out
                rw [if_pos hq] at hc2
                rw [hc2]
                have hqd : decide (0 < q1) = true := by simpa using hq
                clear hc2 HCU HZZ
                go_wp2_with fail
                go_roundw
                case rel => exact ⟨j + 1, by omega, by go_num, V9⟩
                case measure => simp [intOf]; omega
              · have hc2 := HCU.out
                rw [if_neg hq] at hc2
                rw [hc2]
                obtain ⟨rfl, rfl⟩ : q1 = 0 ∧ q2 = 0 := by have := HZZ.out hq; simpa using this
                clear hc2 HCU HZZ hq
                go_wp2_with fail
                go_roundw
                case rel => exact ⟨j + 1, by omega, by go_num, V9⟩
                case measure => simp [intOf]; omega
            · go_wp2_with fail
              go_roundw
              case rel => exact ⟨k + 1, last', hs', by omega, by go_num, rfl, V8, hz⟩
              case measure => simp [intOf]; omega
    · go_wp2_with fail
      go_ret
      exact ⟨rfl, V.below⟩

set_option maxRecDepth 100000 in
set_option maxHeartbeats 1000000 in
theorem hooksVersions_any (n : Int) (ops : List OpD) (v : Value) (w : World) (hn : -9223372036854775808 ≤ n ∧ n ≤ 9223372036854775807) (hv : Rd eOp w v ops) (hl : ops.length * 48 ≤ 140737488351232) (hok : ∀ o ∈ ops, OpD.ok o) :
    Calls Try.prog 4 #[.int .i64 n, v] w fun e w' => e = .returned (.bool true) ∧ Below w.heap.size w w' := by
  by_cases hr : n < 1 ∨ 4 < n
  · go_enter Try.func4, Try.ntmps4
    go_wp2_with fail
    refine (awake_any _).mono ?_
    rintro e w1 ⟨rfl, hb1⟩
    go_wp2_with fail
    refine (new_not n _ hr).mono ?_
    rintro e w2 ⟨rfl, rfl⟩
    go_wp2_with fail
    go_ret
    exact ⟨rfl, hb1⟩
  · obtain ⟨m, rfl⟩ : ∃ m : Nat, n = (m : Int) := ⟨n.toNat, by omega⟩
    exact hooksVersions_yes m ops v w (by omega) (by omega) hv hl
end Go.Proofs.Ythemkcgifefjmaa
