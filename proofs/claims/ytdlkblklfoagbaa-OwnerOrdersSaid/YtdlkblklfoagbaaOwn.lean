/- owner: an object with two slices; the owner's state; the document's owner's state. -/
import Derived.Test.YtdlkblklfoagbaaOwnEnc
import Derived.Test.YtdlkblklfoagbaaRefShard
import Derived.Test.YtdlkblklfoagbaaSepL
import Derived.Test.YtdlkblklfoagbaaMI
namespace Go.Proofs.Ytdlkblklfoagbaa
open Go.RowKit
set_option linter.unusedVariables false
set_option linter.unusedSimpArgs false

theorem only_cell {w w' : World} (h : Only (fun _ => False) w w') {a : Addr} {v : Value} (c : w.cell? a = some v) : w'.cell? a = some v :=
  (World.cell?_of_block (h.block _ (World.block_lt_of_cell? w _ c) (fun h => h))).trans c
theorem cm_lru_n {n : Nat} (g b : Nat) (w : World) (h : w.cell? ⟨g, 0, none⟩ = some (.pointer (some ⟨b, 0, none⟩))) (name : String) (f : FuncId) (hm : ((Try.prog.info? 99).bind fun i => (i.methods.find? (·.name == name)).map fun m => (m.path.toList, m.func)) = some ([{ struct := 112, index := 0, deref := true }], some (f, true))) (hn : n = Try.prog.types.size + Made.depth) :
    (method n 99 (.pointer (some ⟨g, 0, none⟩)) name).run Try.prog w = .ok (f, .pointer (some ⟨b, 0, none⟩)) w := by
  rw [hn]
  exact cm_lru_recv g b w h name f hm
theorem own_ne {α β : Type} {E : Enc α} {E2 : Enc β} {ty ty2 b1 b2 : Nat} {w : World} {u v : Value} {xs : List α} {ys : List β} (h : Ow E b1 ty w u xs) (h2 : Ow E2 b2 ty2 w v ys) (hne : ty ≠ ty2) {k : Nat} (hu : u.ownBlock = some k) : v.ownBlock ≠ some k := by
  obtain ⟨_, ao, cap, rfl, _, _, _, hx⟩ := h
  cases ao with
  | none => simp [Value.ownBlock] at hu
  | some a =>
    obtain ⟨g, off, cur, rfl, _, hg, _⟩ := hx a rfl
    obtain rfl : g = k := by simpa [Value.ownBlock] using hu
    exact row_ne hg h2 hne
theorem Upd.on0 {P P' : (Nat → Prop) → World → Prop} {S : Nat → Prop} {w w1 : World} (h : Upd P S w w1) {f : FuncId} {args : Array Value} {pr : Program} {E : Ending → Prop} (hP' : Framed P')
    (H : ∀ A, P A w1 → Calls pr f args w1 fun e w' => E e ∧ Upd P' A w1 w') : Calls pr f args w1 fun e w' => E e ∧ Upd P' S w w' :=
  (H _ h.1).mono fun e w' ⟨he, hu⟩ => ⟨he, h.step hP' hu⟩

/-- an object with two slices -/
def Obj2 {α β : Type} (E : Enc α) (F : Enc β) (ty e1 e2 : Nat) (c : Array Value) (g : Nat) (v1 v2 : Value) (xs : List α) (ys : List β) (S : Nat → Prop) (w : World) : Prop :=
  w.heap[g]? = some (.cells c ty (0, 0)) ∧ S g ∧ OwS E e1 S w v1 xs ∧ OwS F e2 S w v2 ys
section
variable {α β : Type} {E : Enc α} {F : Enc β} {ty e1 e2 : Nat} {c c' : Array Value} {g : Nat} {v1 v2 : Value} {xs : List α} {ys : List β} {A : Nat → Prop} {w w1 w2 : World}
theorem Obj2.framed : Framed (Obj2 E F ty e1 e2 c g v1 v2 xs ys) where
  only S F w w' h ho hn := ⟨ho.heap h.1 (hn g (heap_lt h.1) h.2.1), h.2.1, OwS.framed.only S F w w' h.2.2.1 ho hn, OwS.framed.only S F w w' h.2.2.2 ho hn⟩
  mono S S' w h hs := ⟨h.1, hs g (heap_lt h.1) h.2.1, OwS.framed.mono S S' w h.2.2.1 hs, OwS.framed.mono S S' w h.2.2.2 hs⟩
theorem Obj2.flip (h : Obj2 E F ty e1 e2 c g v1 v2 xs ys A w) : Obj2 F E ty e2 e1 c g v2 v1 ys xs A w := ⟨h.1, h.2.1, h.2.2.2, h.2.2.1⟩
/-- a cell that holds no slice is set -/
theorem Obj2.set (h : Obj2 E F ty e1 e2 c g v1 v2 xs ys A w) (h1 : ty ≠ e1) (h2 : ty ≠ e2) (i : Nat) (x : Value) (hc : c.setIfInBounds i x = c') :
    Upd (Obj2 E F ty e1 e2 c' g v1 v2 xs ys) A w (w.setCell ⟨g, i, none⟩ x) := by
  obtain ⟨hg, hS, ho1, ho2⟩ := h
  have ho := Only.setCell (fun k => k = g) w g i x rfl
  have h := (show Obj2 E F ty e1 e2 c' g v1 v2 xs ys A (w.setCell ⟨g, i, none⟩ x) from ⟨by rw [← hc]; exact blk_set hg i x, hS, ⟨ho1.1.only ho (fun k hk e => row_ne hg ho1.1 h1 (by rw [hk, e])), ho1.2⟩, ⟨ho2.1.only ho (fun k hk e => row_ne hg ho2.1 h2 (by rw [hk, e])), ho2.2⟩⟩)
  exact ⟨Obj2.framed.mono _ _ _ h fun _ _ h => .inl h, ho.mono fun k _ e => e ▸ hS⟩
/-- the second slice is set -/
theorem Obj2.put2 {v2' : Value} {ys' : List β} (h : Obj2 E F ty e1 e2 c g v1 v2 xs ys A w) (h1 : ty ≠ e1) (h2 : ty ≠ e2) (hn : OwS F e2 A w v2' ys') (i : Nat) (hc : c.setIfInBounds i v2' = c') :
    Upd (Obj2 E F ty e1 e2 c' g v1 v2' xs ys') A w (w.setCell ⟨g, i, none⟩ v2') := by
  obtain ⟨hg, hS, ho1, ho2⟩ := h
  have ho := Only.setCell (fun k => k = g) w g i v2' rfl
  have h := (show Obj2 E F ty e1 e2 c' g v1 v2' xs ys' A (w.setCell ⟨g, i, none⟩ v2') from ⟨by rw [← hc]; exact blk_set hg i v2', hS, ⟨ho1.1.only ho (fun k hk e => row_ne hg ho1.1 h1 (by rw [hk, e])), ho1.2⟩, ⟨hn.1.only ho (fun k hk e => row_ne hg hn.1 h2 (by rw [hk, e])), hn.2⟩⟩)
  exact ⟨Obj2.framed.mono _ _ _ h fun _ _ h => .inl h, ho.mono fun k _ e => e ▸ hS⟩
/-- the second slice was appended to, and is set -/
theorem Obj2.grow2 {v2' : Value} {ys' : List β} (h : Obj2 E F ty e1 e2 c g v1 v2 xs ys A w) (h1 : ty ≠ e1) (h2 : ty ≠ e2) (h3 : e1 ≠ e2) (ho : Only (fun _ => False) w w1)
    (hn : OwS F e2 (fun k => v2.ownBlock = some k ∨ w1.heap.size ≤ k) w2 v2' ys') (hO : Only (fun k => v2.ownBlock = some k) w1 w2) (i : Nat) (hc : c.setIfInBounds i v2' = c') :
    w2.heap[g]? = some (.cells c ty (0, 0)) ∧ Upd (Obj2 E F ty e1 e2 c' g v1 v2' xs ys') A w (w2.setCell ⟨g, i, none⟩ v2') := by
  obtain ⟨hg, hS, ho1, ho2⟩ := h
  have hg2 := hO.heap (ho.heap hg fun h => h) (row_ne hg ho2.1 h2)
  refine ⟨hg2, ?_⟩
  have hw1 : Obj2 E F ty e1 e2 c g v1 v2' xs ys' (fun k => A k ∨ w.heap.size ≤ k) w2 := ⟨hg2, .inl hS, ⟨(ho1.1.only ho fun _ _ h => h).only hO (fun k hk => own_ne ho1.1 ho2.1 h3 hk), fun k hk => .inl (ho1.2 k hk)⟩, OwS.framed.mono _ _ _ hn fun k _ h => h.elim (fun h => .inl (ho2.2 k h)) fun h => .inr (Nat.le_trans ho.size h)⟩
  obtain ⟨hs, hq⟩ := hw1.set h1 h2 i v2' hc
  refine ⟨Obj2.framed.mono _ _ _ hs fun k _ h => h.elim id fun h => .inr (Nat.le_trans (Nat.le_trans ho.size hO.size) h), ?_⟩
  exact (ho.mono fun _ _ h => h.elim).trans ((hO.mono fun k _ h => ho2.2 k h).trans (Only.setCell A w2 g i v2' hS) fun _ _ h => h) fun _ _ h => h
theorem Obj2.grow1 {v1' : Value} {xs' : List α} (h : Obj2 E F ty e1 e2 c g v1 v2 xs ys A w) (h1 : ty ≠ e1) (h2 : ty ≠ e2) (h3 : e1 ≠ e2) (ho : Only (fun _ => False) w w1)
    (hn : OwS E e1 (fun k => v1.ownBlock = some k ∨ w1.heap.size ≤ k) w2 v1' xs') (hO : Only (fun k => v1.ownBlock = some k) w1 w2) (i : Nat) (hc : c.setIfInBounds i v1' = c') :
    w2.heap[g]? = some (.cells c ty (0, 0)) ∧ Upd (Obj2 E F ty e1 e2 c' g v1' v2 xs' ys) A w (w2.setCell ⟨g, i, none⟩ v1') := by
  obtain ⟨hg, hu⟩ := h.flip.grow2 h2 h1 (Ne.symm h3) ho hn hO i hc
  exact ⟨hg, hu.imp fun _ h => h.flip⟩
end

def eSh : Enc ShA where
  size := 1
  pos := by decide
  cells a := [a.val]
  len _ := rfl
  one a u h := by
    obtain rfl : u = a.val := by simpa using h
    cases a <;> rfl
theorem eSh_slice : SliceInfo Try.prog 70 72 eSh.size 16 := SliceInfo.mk' Try.underlying70 (z := .nilIface) (by kernel_rfl) rfl
theorem sh_cell {w : World} {b off : Nat} {xs : List ShA} (hc : ∀ j u, (eSh.all xs)[j]? = some u → w.cell? ⟨b, off + j, none⟩ = some u) (k : Nat) (h : k < xs.length) : w.cell? ⟨b, off + k, none⟩ = some xs[k].val := by
  have := eSh.all_at xs k 0 h (by decide)
  refine hc k _ ?_
  simpa [eSh] using this
def eRSh : Enc RShA where
  size := 1
  pos := by decide
  cells a := [.pointer (some ⟨a.rs, 0, none⟩)]
  len _ := rfl
  one a u h := by
    obtain rfl : u = .pointer (some ⟨a.rs, 0, none⟩) := by simpa using h
    rfl
theorem eRSh_slice : SliceInfo Try.prog 64 63 eRSh.size 8 := SliceInfo.mk' Try.underlying64 (z := .pointer none) (by kernel_rfl) rfl
theorem rsh_cell {w : World} {b off : Nat} {xs : List RShA} (hc : ∀ j u, (eRSh.all xs)[j]? = some u → w.cell? ⟨b, off + j, none⟩ = some u) (k : Nat) (h : k < xs.length) : w.cell? ⟨b, off + k, none⟩ = some (.pointer (some ⟨xs[k].rs, 0, none⟩)) := by
  have := eRSh.all_at xs k 0 h (by decide)
  refine hc k _ ?_
  simpa [eRSh] using this

/-- shards, each with where it lies and what it was made by -/
abbrev MSh := ShA × DefD
abbrev MRSh := RShA × DefD
abbrev RSt := Sh × Int
def ownL (ml : List MSh) (ss : List Sh) : List ((Nat → Prop) → World → Prop) := List.zipWith (fun m s => ShardS m.1 m.2.2 s) ml ss
def rownL (ml : List MRSh) (ss : List RSt) : List ((Nat → Prop) → World → Prop) := List.zipWith (fun m s => RShardS m.1 m.2.2 s.1 s.2) ml ss
theorem zw_framed {σ τ : Type} {f : σ → τ → (Nat → Prop) → World → Prop} (hf : ∀ a b, Framed (f a b)) {ml : List σ} {ss : List τ} : ∀ P ∈ List.zipWith f ml ss, Framed P := by
  intro P hP
  obtain ⟨i, hi, rfl⟩ := List.mem_iff_getElem.1 hP
  simp only [List.getElem_zipWith]
  exact hf _ _
theorem zw_set {σ τ : Type} {f : σ → τ → (Nat → Prop) → World → Prop} {ml : List σ} {ss : List τ} (i : Nat) (h2 : i < ml.length) (s : τ) : (List.zipWith f ml ss).set i (f ml[i] s) = List.zipWith f ml (ss.set i s) := by
  refine List.ext_getElem (by simp) fun j h3 h4 => ?_
  simp only [List.getElem_set, List.getElem_zipWith]
  split
  · next h => subst h; rfl
  · rfl
theorem zw_at {σ τ : Type} {f : σ → τ → (Nat → Prop) → World → Prop} (hf : ∀ a b, Framed (f a b)) {ml : List σ} {ss : List τ} {T : Nat → Prop} {w : World} (h : SepL (List.zipWith f ml ss) T w) (i : Nat) (h1 : i < ml.length) (h2 : i < ss.length) :
    ∃ A, f ml[i] ss[i] A w ∧ ∀ s' w', Upd (f ml[i] s') A w w' → Upd (SepL (List.zipWith f ml (ss.set i s'))) T w w' := by
  obtain ⟨A, hA, ha⟩ := SepL.at (zw_framed hf) h i (by simp; omega)
  simp only [List.getElem_zipWith] at hA
  refine ⟨A, hA, fun s' w' hu => ?_⟩
  have := ha _ w' (hf _ _) hu
  rwa [zw_set i h1] at this
theorem zw_snoc {σ τ : Type} {f : σ → τ → (Nat → Prop) → World → Prop} {ml : List σ} {ss : List τ} (h : ml.length = ss.length) (a : σ) (s : τ) : List.zipWith f ml ss ++ [f a s] = List.zipWith f (ml ++ [a]) (ss ++ [s]) := by
  simp [List.zipWith_append h]
theorem ownL_framed {ml : List MSh} {ss : List Sh} : Framed (SepL (ownL ml ss)) := SepL.framed (zw_framed fun _ _ => ShardS.framed)
theorem rownL_framed {ml : List MRSh} {ss : List RSt} : Framed (SepL (rownL ml ss)) := SepL.framed (zw_framed fun _ _ => RShardS.framed)

abbrev ownC (sd n : Int) (vm vl : Value) (en : Bool) : Array Value := #[.int .i64 sd, .int .i64 n, vm, vl, .bool en]
def OwnV (g : Nat) (sd n : Int) (vm vl : Value) (ml : List MSh) (ss : List Sh) (line : List ReqD) (en : Bool) : (Nat → Prop) → World → Prop :=
  Sep (Obj2 eSh eReq 83 72 37 (ownC sd n vm vl en) g vm vl (ml.map (·.1)) line) (SepL (ownL ml ss))
theorem OwnV.framed {g : Nat} {sd n : Int} {vm vl : Value} {ml : List MSh} {ss : List Sh} {line : List ReqD} {en : Bool} : Framed (OwnV g sd n vm vl ml ss line en) := Sep.framed Obj2.framed ownL_framed
def OwnS (g : Nat) (sd n : Int) (ml : List MSh) (ss : List Sh) (line : List ReqD) (en : Bool) (S : Nat → Prop) (w : World) : Prop := ∃ vm vl, OwnV g sd n vm vl ml ss line en S w
theorem OwnS.framed {g : Nat} {sd n : Int} {ml : List MSh} {ss : List Sh} {line : List ReqD} {en : Bool} : Framed (OwnS g sd n ml ss line en) := Framed.ex fun _ => Framed.ex fun _ => OwnV.framed
/-- what goes with an owner's shards -/
structure OGood (ml : List MSh) (ss : List Sh) : Prop where
  len : ml.length = ss.length
  n4 : ml.length ≤ 4
  bd : ∀ m ∈ ml, m.1.bd = decide (m.2.1 = 1)
  good : ∀ (i : Nat) (h1 : i < ml.length) (h2 : i < ss.length), SGood ml[i].1.bd ml[i].2.2 ss[i]
theorem OGood.set {ml : List MSh} {ss : List Sh} (G : OGood ml ss) (i : Nat) (h1 : i < ml.length) {s' : Sh} (h : SGood ml[i].1.bd ml[i].2.2 s') : OGood ml (ss.set i s') := ⟨by rw [List.length_set]; exact G.len, G.n4, G.bd, fun j h1 h2 => by
  simp only [List.getElem_set]
  split
  · next he => subst he; exact h
  · exact G.good j h1 (by simpa using h2)⟩

abbrev rownC (sd n : Int) (vm va : Value) (dn : Int) (ov : Bool) : Array Value := #[.int .i64 sd, .int .i64 n, vm, va, .int .i64 dn, .bool ov]
def ROwnV (g : Nat) (sd n : Int) (vm va : Value) (ml : List MRSh) (ss : List RSt) (all : List ReqD) (dn : Int) (ov : Bool) : (Nat → Prop) → World → Prop :=
  Sep (Obj2 eRSh eReq 66 63 37 (rownC sd n vm va dn ov) g vm va (ml.map (·.1)) all) (SepL (rownL ml ss))
theorem ROwnV.framed {g : Nat} {sd n : Int} {vm va : Value} {ml : List MRSh} {ss : List RSt} {all : List ReqD} {dn : Int} {ov : Bool} : Framed (ROwnV g sd n vm va ml ss all dn ov) := Sep.framed Obj2.framed rownL_framed
def ROwnS (g : Nat) (sd n : Int) (ml : List MRSh) (ss : List RSt) (all : List ReqD) (dn : Int) (ov : Bool) (S : Nat → Prop) (w : World) : Prop := ∃ vm va, ROwnV g sd n vm va ml ss all dn ov S w
theorem ROwnS.framed {g : Nat} {sd n : Int} {ml : List MRSh} {ss : List RSt} {all : List ReqD} {dn : Int} {ov : Bool} : Framed (ROwnS g sd n ml ss all dn ov) := Framed.ex fun _ => Framed.ex fun _ => ROwnV.framed

section
variable {T : Nat → Prop} {w : World} {g : Nat} {sd n : Int} {ml : List MSh} {ss : List Sh} {line : List ReqD} {en : Bool} {vm vl : Value}
theorem OwnV.plain (h : OwnV g sd n vm vl ml ss line en T w) : OwnS g sd n ml ss line en T w := ⟨_, _, h⟩
theorem OwnV.obj (h : OwnV g sd n vm vl ml ss line en T w) : w.heap[g]? = some (.cells (ownC sd n vm vl en) 83 (0, 0)) ∧ Rd eSh w vm (ml.map (·.1)) ∧ Rd eReq w vl line := by
  obtain ⟨A, B, _, _, _, ⟨hg, _, h1, h2⟩, _⟩ := h
  exact ⟨hg, h1.rd, h2.rd⟩
theorem OwnV.shapes (h : OwnV g sd n vm vl ml ss line en T w) : (∃ a c, vm = .slice a ml.length c) ∧ ∃ a c, vl = .slice a line.length c := by
  obtain ⟨_, ⟨_, a, c, rfl, _⟩, ⟨_, a2, c2, rfl, _⟩⟩ := h.obj
  exact ⟨⟨a, c, by simp⟩, a2, c2, rfl⟩
theorem OwnV.slot {a : Option Addr} {c : Nat} (h : OwnV g sd n (.slice a ml.length c) vl ml ss line en T w) {i : Nat} (hi : i < ml.length) : ∃ sb off, a = some ⟨sb, off, none⟩ ∧ w.cell? ⟨sb, off + i, none⟩ = some ml[i].1.val := by
  obtain ⟨_, ⟨_, ao, c', he, _, _, hx⟩, _⟩ := h.obj
  obtain ⟨sb, off, rfl, hc⟩ := hx (by simp; omega)
  obtain ⟨rfl, -, rfl⟩ : a = some ⟨sb, off, none⟩ ∧ ml.length = (ml.map (·.1)).length ∧ c = c' := by simpa using he
  refine ⟨sb, off, rfl, ?_⟩
  have := sh_cell hc i (by simpa using hi)
  simpa using this
theorem OwnV.at (h : OwnV g sd n vm vl ml ss line en T w) (i : Nat) (h1 : i < ml.length) (h2 : i < ss.length) : ∃ A, ShardS ml[i].1 ml[i].2.2 ss[i] A w ∧ ∀ s' w', Upd (ShardS ml[i].1 ml[i].2.2 s') A w w' → Upd (OwnV g sd n vm vl ml (ss.set i s') line en) T w w' := by
  obtain ⟨B, hB, hb⟩ := h.focusR Obj2.framed
  obtain ⟨A, hA, ha⟩ := zw_at (fun _ _ => ShardS.framed) hB i h1 h2
  exact ⟨A, hA, fun s' w' hu => hb _ w' ownL_framed (ha s' w' hu)⟩
/-- the object's own part, with the way back -/
theorem OwnV.own (h : OwnV g sd n vm vl ml ss line en T w) : ∃ A, Obj2 eSh eReq 83 72 37 (ownC sd n vm vl en) g vm vl (ml.map (·.1)) line A w ∧ ∀ vm' vl' line' en' w', Upd (Obj2 eSh eReq 83 72 37 (ownC sd n vm' vl' en') g vm' vl' (ml.map (·.1)) line') A w w' → Upd (OwnV g sd n vm' vl' ml ss line' en') T w w' := by
  obtain ⟨A, hA, ha⟩ := h.focus ownL_framed
  exact ⟨A, hA, fun vm' vl' line' en' w' hu => ha _ w' Obj2.framed hu⟩
end
section
variable {T : Nat → Prop} {w : World} {g : Nat} {sd n : Int} {ml : List MRSh} {ss : List RSt} {all : List ReqD} {dn : Int} {ov : Bool} {vm va : Value}
theorem ROwnV.plain (h : ROwnV g sd n vm va ml ss all dn ov T w) : ROwnS g sd n ml ss all dn ov T w := ⟨_, _, h⟩
theorem ROwnV.obj (h : ROwnV g sd n vm va ml ss all dn ov T w) : w.heap[g]? = some (.cells (rownC sd n vm va dn ov) 66 (0, 0)) ∧ Rd eRSh w vm (ml.map (·.1)) ∧ Rd eReq w va all := by
  obtain ⟨A, B, _, _, _, ⟨hg, _, h1, h2⟩, _⟩ := h
  exact ⟨hg, h1.rd, h2.rd⟩
theorem ROwnV.shapes (h : ROwnV g sd n vm va ml ss all dn ov T w) : (∃ a c, vm = .slice a ml.length c) ∧ ∃ a c, va = .slice a all.length c := by
  obtain ⟨_, ⟨_, a, c, rfl, _⟩, ⟨_, a2, c2, rfl, _⟩⟩ := h.obj
  exact ⟨⟨a, c, by simp⟩, a2, c2, rfl⟩
theorem ROwnV.slot {a : Option Addr} {c : Nat} (h : ROwnV g sd n (.slice a ml.length c) va ml ss all dn ov T w) {i : Nat} (hi : i < ml.length) : ∃ sb off, a = some ⟨sb, off, none⟩ ∧ w.cell? ⟨sb, off + i, none⟩ = some (.pointer (some ⟨ml[i].1.rs, 0, none⟩)) := by
  obtain ⟨_, ⟨_, ao, c', he, _, _, hx⟩, _⟩ := h.obj
  obtain ⟨sb, off, rfl, hc⟩ := hx (by simp; omega)
  obtain ⟨rfl, -, rfl⟩ : a = some ⟨sb, off, none⟩ ∧ ml.length = (ml.map (·.1)).length ∧ c = c' := by simpa using he
  refine ⟨sb, off, rfl, ?_⟩
  have := rsh_cell hc i (by simpa using hi)
  simpa using this
theorem ROwnV.at (h : ROwnV g sd n vm va ml ss all dn ov T w) (i : Nat) (h1 : i < ml.length) (h2 : i < ss.length) : ∃ A, RShardS ml[i].1 ml[i].2.2 ss[i].1 ss[i].2 A w ∧ ∀ (s' : RSt) w', Upd (RShardS ml[i].1 ml[i].2.2 s'.1 s'.2) A w w' → Upd (ROwnV g sd n vm va ml (ss.set i s') all dn ov) T w w' := by
  obtain ⟨B, hB, hb⟩ := h.focusR Obj2.framed
  obtain ⟨A, hA, ha⟩ := zw_at (fun _ _ => RShardS.framed) hB i h1 h2
  exact ⟨A, hA, fun s' w' hu => hb _ w' rownL_framed (ha s' w' hu)⟩
theorem ROwnV.own (h : ROwnV g sd n vm va ml ss all dn ov T w) : ∃ A, Obj2 eRSh eReq 66 63 37 (rownC sd n vm va dn ov) g vm va (ml.map (·.1)) all A w ∧ ∀ vm' va' all' dn' ov' w', Upd (Obj2 eRSh eReq 66 63 37 (rownC sd n vm' va' dn' ov') g vm' va' (ml.map (·.1)) all') A w w' → Upd (ROwnV g sd n vm' va' ml ss all' dn' ov') T w w' := by
  obtain ⟨A, hA, ha⟩ := h.focus rownL_framed
  exact ⟨A, hA, fun vm' va' all' dn' ov' w' hu => ha _ w' Obj2.framed hu⟩
end
/-- may a request be asked here? -/
def fitsP (sd n : Int) (nm : Nat) (q : ReqD) : Bool := (decide (0 ≤ q.2.2.2.1) && decide (q.2.2.2.1 < nm)) && (q.2.2.1 || ((decide (0 ≤ q.2.2.2.2.1) && decide (q.2.2.2.2.1 < 5)) && (ofS q.2.2.2.2.2.1 n == sd)))
/-- Send: what is answered, and the line behind it -/
def sendP (sd n : Int) (nm : Nat) (en : Bool) (line qs : List ReqD) : Int × List ReqD := if en then (43, line) else if qs.all (fitsP sd n nm) then (0, line ++ qs) else (2, line)
end Go.Proofs.Ytdlkblklfoagbaa
