/- cmap: a map, New. -/
import Derived.Test.YthppleegiieneaaShard
import Derived.Test.YthppleegiieneaaMI
namespace Go.Proofs.Ythppleegiieneaa
open Go.RowKit
set_option linter.unusedVariables false
set_option linter.unusedSimpArgs false

def eSh : Enc ShA where
  size := 1
  pos := by decide
  cells a := [a.val]
  len _ := rfl
  one a u h := by
    obtain rfl : u = a.val := by simpa using h
    cases a <;> rfl
theorem eSh_slice : SliceInfo Try.prog 85 28 eSh.size 16 := SliceInfo.mk' Try.underlying85 (z := .nilIface) (by kernel_rfl) rfl
def shL (cap : Int) (al : List ShA) (ss : List Sh) : List ((Nat → Prop) → World → Prop) := List.zipWith (fun a s => ShardS a cap s) al ss
theorem shL_framed {cap : Int} {al : List ShA} {ss : List Sh} : ∀ P ∈ shL cap al ss, Framed P := by
  intro P hP
  obtain ⟨i, hi, rfl⟩ := List.mem_iff_getElem.1 hP
  simp only [shL, List.getElem_zipWith]
  exact ShardS.framed
theorem shL_len {cap : Int} {al : List ShA} {ss : List Sh} (h : al.length = ss.length) : (shL cap al ss).length = ss.length := by simp [shL, h]
theorem shL_get {cap : Int} {al : List ShA} {ss : List Sh} (i : Nat) (h1 : i < (shL cap al ss).length) (h2 : i < al.length) (h3 : i < ss.length) : (shL cap al ss)[i] = ShardS al[i] cap ss[i] := by simp [shL]
theorem shL_set {cap : Int} {al : List ShA} {ss : List Sh} (i : Nat) (h2 : i < al.length) (s : Sh) : (shL cap al ss).set i (ShardS al[i] cap s) = shL cap al (ss.set i s) := by
  refine List.ext_getElem (by simp [shL]) fun j h3 h4 => ?_
  simp only [shL, List.getElem_set, List.getElem_zipWith]
  split
  · next h => subst h; rfl
  · rfl
theorem shL_snoc {cap : Int} {al : List ShA} {ss : List Sh} (h : al.length = ss.length) (a : ShA) (s : Sh) : shL cap al ss ++ [ShardS a cap s] = shL cap (al ++ [a]) (ss ++ [s]) := by
  simp [shL, List.zipWith_append h]
abbrev mapC (kind cap : Int) (v : Value) : Array Value := #[.int .i64 kind, .int .i64 cap, v]
abbrev defO (kind cap : Int) : Obj := .cells #[.int .i64 kind, .int .i64 cap] 24 (0, 0)
def MapS (m : Nat) (kind cap : Int) (al : List ShA) (ss : List Sh) : (Nat → Prop) → World → Prop := Sep (Obj1 eSh 87 28 (mapC kind cap) m al) (SepL (shL cap al ss))
theorem MapS.framed {m : Nat} {kind cap : Int} {al : List ShA} {ss : List Sh} : Framed (MapS m kind cap al ss) := Sep.framed Obj1.framed (SepL.framed shL_framed)
/-- what goes with a map: one shard for each state, of the kind, all well -/
structure MGood (kind cap : Int) (al : List ShA) (ss : List Sh) : Prop where
  len : al.length = ss.length
  n1 : 1 ≤ al.length
  n4 : al.length ≤ 4
  bd : ∀ a ∈ al, a.bd = decide (kind = 1)
  good : ∀ s ∈ ss, SGood (decide (kind = 1)) cap s

/-- an object whose slice was appended to, and the slice set -/
theorem obj_grow {α : Type} {E : Enc α} {ty ety : Nat} {cells : Value → Array Value} {g : Nat} {xs ys : List α} {A : Nat → Prop} {w w1 w2 : World} {v v2 : Value} (hg : w.heap[g]? = some (.cells (cells v) ty (0, 0))) (hown : Ow E 0 ety w v xs) (hA : A g) (hv : ∀ k, v.ownBlock = some k → A k) (hne : ty ≠ ety) (i : Nat) (hc : ∀ v u, (cells v).setIfInBounds i u = cells u)
    (ho : Only (fun _ => False) w w1) (h2 : OwS E ety (fun k => v.ownBlock = some k ∨ w1.heap.size ≤ k) w2 v2 ys) (hO : Only (fun k => v.ownBlock = some k) w1 w2) :
    w2.heap[g]? = some (.cells (cells v) ty (0, 0)) ∧ Upd (Obj1 E ty ety cells g ys) A w (w2.setCell ⟨g, i, none⟩ v2) := by
  have hg2 := hO.heap (ho.heap hg fun h => h) (row_ne hg hown hne)
  refine ⟨hg2, ?_, ?_⟩
  · exact (Obj1.setSlice' hg2 (.inl hA) hne i v2 (OwS.framed.mono _ _ _ h2 fun k _ h => h.imp (hv k) fun h => Nat.le_trans ho.size h) hc).1
  · refine (ho.mono fun _ _ h => h.elim).trans ((hO.mono fun k _ h => hv k h).trans (Only.setCell A w2 g i v2 hA) fun _ _ h => h) fun _ _ h => h
set_option maxHeartbeats 1000000 in
theorem cmapNew_badN (kind cap n : Int) (w : World) (h : n < 1 ∨ 4 < n) :
    Calls Try.prog 13 #[.agg #[.int .i64 kind, .int .i64 cap], .int .i64 n] w fun e w' => e = .returned (.tuple #[.pointer none, .int .i64 2]) ∧ Only (fun _ => False) w w' := by
  rcases h with h | h
  · go_enter Try.func13, Try.ntmps13
    go_wp2_with fail
    go_ret2
    exact ⟨rfl, Only.alloc _ _ _⟩
  · have h1 : ¬ n < 1 := by omega
    go_enter Try.func13, Try.ntmps13
    go_wp2_with fail
    go_ret2
    exact ⟨rfl, Only.alloc _ _ _⟩
set_option maxRecDepth 100000 in
set_option maxHeartbeats 4000000 in
theorem cmapNew_ok (kind cap n : Int) (w : World) (h1 : 1 ≤ n) (h2 : n ≤ 4) (h : okDef kind cap = true) :
    Calls Try.prog 13 #[.agg #[.int .i64 kind, .int .i64 cap], .int .i64 n] w fun e w' => ∃ m, e = .returned (.tuple #[.pointer (some ⟨m, 0, none⟩), .int .i64 0]) ∧ (∃ al, MGood kind cap al (List.replicate n.toNat ([], [])) ∧ MapS m kind cap al (List.replicate n.toNat ([], [])) (fun k => w.heap.size ≤ k) w') ∧ Only (fun _ => False) w w' := by
  have HOK := Lib.hid h
  have HSG := Lib.hid (show SGood (decide (kind = 1)) cap ([], []) by obtain ⟨_, h1, h2⟩ := okDef_iff.1 h; exact sgood_nil h1 h2)
  have hn1 : ¬ n < 1 := by omega
  clear h
  go_enter Try.func13, Try.ntmps13
  go_wp2_with fail
  have HM0 := Lib.hid (show Upd (Sep (Blk w.heap.size (defO kind cap)) (MapS (w.heap.size + 1) kind cap [] [])) (fun _ => False) w ((w.alloc (defO kind cap)).alloc (.cells (mapC kind cap (.slice none 0 0)) 87 (0, 0))) from by
    have h1 := heap_alloc_new (w.alloc (defO kind cap)) (.cells (mapC kind cap (.slice none 0 0)) 87 (0, 0))
    rw [show (w.alloc (defO kind cap)).heap.size = w.heap.size + 1 by simp] at h1
    have h2 : (w.alloc (defO kind cap)).heap[w.heap.size]? = some (defO kind cap) := heap_alloc_new _ _
    refine ⟨⟨fun k => k = w.heap.size, fun k => k = w.heap.size + 1, fun k h1 h2 => by omega, fun k h => .inr (by omega), fun k h => .inr (by omega), ⟨(Only.alloc (fun _ => False) _ _).heap h2 (fun h => h), rfl⟩, ⟨fun k => k = w.heap.size + 1, fun _ => False, fun _ _ h => h, fun _ h => h, fun _ h => h.elim, ⟨.slice none 0 0, h1, Ow.nil _ _ _, rfl, fun k hk => by simp [Value.ownBlock] at hk⟩, trivial⟩⟩, (Only.alloc _ _ _).tr (Only.alloc _ _ _)⟩)
  generalize w.heap.size + 1 = m at *
  generalize World.alloc (w.alloc _) _ = wa at *
  generalize w.heap.size = bd at *
  go_loopw [19, 7, 8] (fun t19 _ _ wr => ∃ (k : Nat) (al : List ShA), (k : Int) ≤ n ∧ t19 = .int .i64 k ∧ Hid (al.length = k ∧ ∀ a ∈ al, a.bd = decide (kind = 1)) ∧ Hid (Upd (Sep (Blk bd (defO kind cap)) (MapS m kind cap al (List.replicate k ([], [])))) (fun _ => False) w wr)) (fun t19 _ _ _ => n.toNat - (intOf t19).toNat)
  case atStart => exact ⟨0, [], by omega, rfl, Lib.hid ⟨rfl, fun _ h => by simp at h⟩, HM0⟩
  case round =>
    clear HM0
    obtain ⟨k, al, hk, rfl, HAL, V⟩ := hrel
    by_cases hlt : (k : Int) < n
    · obtain ⟨_, hbk⟩ := V.out.getL
      have c0 := (blk_cell hbk.1 0).trans rfl
      have c1 := (blk_cell hbk.1 1).trans rfl
      clear hbk
      go_wp2_with fail
      refine (V.out.callNew (Sep.framed Blk.framed MapS.framed) (Yx := fun a S w => a.bd = decide (kind = 1) ∧ ShardS a cap ([], []) S w) (E := fun a e => e = .returned (.tuple #[a.val, .int .i64 0])) (fun _ => Framed.and (Framed.pure _) ShardS.framed) (make_ok kind cap _ HOK.out)).mono ?_
      rintro e w1 ⟨a, rfl, hU⟩
      obtain ⟨tv, xv, hav⟩ : ∃ t x, a.val = .iface t x := by cases a <;> exact ⟨_, _, rfl⟩
      have HAV := Lib.hid hav
      rw [hav]
      have HBD := Lib.hid (show a.bd = decide (kind = 1) by obtain ⟨_, h, _⟩ := hU.getR; exact h)
      have HU := Lib.hid (show Upd (Sep (Blk bd (defO kind cap)) (Sep (Obj1 eSh 87 28 (mapC kind cap) m al) (Sep (SepL (shL cap al (List.replicate k ([], [])))) (ShardS a cap ([], []))))) (fun _ => False) w w1 from hU.imp fun _ h => (h.imp (fun _ h => h) fun _ h => h.2).assoc.imp (fun _ h => h) fun _ h => h.assoc)
      clear hU V c0 c1
      obtain ⟨B, hB, hb⟩ := HU.out.1.focusR Blk.framed
      obtain ⟨A, hA, ha⟩ := hB.focus (Sep.framed (SepL.framed shL_framed) ShardS.framed)
      have HBK : Hid (∀ w', Upd (Obj1 eSh 87 28 (mapC kind cap) m (al ++ [a])) A w1 w' → Upd (Sep (Blk bd (defO kind cap)) (MapS m kind cap (al ++ [a]) (List.replicate (k + 1) ([], [])))) (fun _ => False) w w') := Lib.hid fun w' hu =>
        (HU.out.step (Sep.framed Blk.framed (Sep.framed Obj1.framed (Sep.framed (SepL.framed shL_framed) ShardS.framed))) (hb _ w' (Sep.framed Obj1.framed (Sep.framed (SepL.framed shL_framed) ShardS.framed)) (ha _ w' Obj1.framed hu))).imp fun _ h => h.imp (fun _ h => h) fun _ h => h.imp (fun _ h => h) fun _ h => by
          have := SepL.snoc h
          rwa [shL_snoc (by simpa using HAL.out.1), ← List.replicate_succ'] at this
      obtain ⟨v, hg, hown, hAg, hv⟩ := hA
      have c2 : w1.cell? ⟨m, 2, none⟩ = some v := blk_cell hg 2
      have hll : al.length ≤ 4 := by have := HAL.out.1; omega
      have HOW := Lib.hid (show OwS eSh 28 (fun k => v.ownBlock = some k) (w1.alloc (.cells #[.iface tv xv] 28 (0, 0))) v al from OwS.framed.alloc ⟨hown, fun _ h => h⟩ _)
      have HRD := Lib.hid (Rd.lit (E := eSh) w1 #[.iface tv xv] 28 (0, 0) 1 1 [a] (by simp [Enc.all, eSh, hav]) rfl (Nat.le_refl _) (by decide))
      have HGR := Lib.hid (fun (v2 : Value) (w2 : World) => obj_grow (E := eSh) (v2 := v2) (w2 := w2) (cells := mapC kind cap) hg hown hAg hv (by decide) 2 (fun _ _ => rfl) (Only.alloc (fun _ => False) w1 (.cells #[.iface tv xv] 28 (0, 0))) (ys := al ++ [a]))
      clear hB hb ha hown hv hAg hg hav
      go_wp2_with (at_builtin; refine wl_appendS (E := eSh) rfl _ (.tmp 35) _ rfl 28 16 eSh_slice _ _ al rfl HOW.out _ [a] rfl HRD.out (by simp only [List.length_cons, List.length_nil]; omega) (by unfold maxLen; simp only [List.length_cons, List.length_nil]; omega) ?_)
      intro v2 w2 hown2 hO2
      obtain ⟨hg2, hU2⟩ := HGR.out _ _ (OwS.framed.mono _ _ _ hown2 fun k _ h => by simpa using h) hO2
      have d2 : w2.cell? ⟨m, 2, none⟩ = some v := blk_cell hg2 2
      have f2 := frozen_of_row w2 m 2 _ _ hg2
      have HV2 := Lib.hid (HBK.out _ hU2)
      obtain ⟨a2, n2, c2, rfl⟩ := hown2.shape'
      clear hg2 hU2 hown2 hO2 HGR HOW HRD HBK HU
      go_wp2_with fail
      refine ⟨?_, ?_⟩
      · exact ⟨k + 1, al ++ [a], by omega, by simp, Lib.hid ⟨by have := HAL.out.1; simp [this], fun x hx => by
          rcases List.mem_append.1 hx with hx | hx
          · exact HAL.out.2 x hx
          · rw [List.mem_singleton.1 hx]; exact HBD.out⟩, HV2⟩
      · first | omega | (simp only [intOf]; omega)
    · have hkn : (k : Int) = n := by omega
      go_wp2_with fail
      go_ret2
      obtain rfl : k = n.toNat := by omega
      refine ⟨m, rfl, ⟨al, ⟨by simpa using HAL.out.1, by have := HAL.out.1; omega, by have := HAL.out.1; omega, HAL.out.2, fun s hs => by obtain ⟨_, rfl⟩ := List.mem_replicate.1 hs; exact HSG.out⟩, ?_⟩, V.out.2⟩
      exact MapS.framed.mono _ _ _ (V.out.1.right MapS.framed) fun _ _ h => h.elim False.elim id
/-- the same, its slice's value named -/
def MapV (m : Nat) (kind cap : Int) (v : Value) (al : List ShA) (ss : List Sh) : (Nat → Prop) → World → Prop := Sep (Obj1v eSh 87 28 (mapC kind cap) m v al) (SepL (shL cap al ss))
theorem MapV.framed {m : Nat} {kind cap : Int} {v : Value} {al : List ShA} {ss : List Sh} : Framed (MapV m kind cap v al ss) := Sep.framed Obj1v.framed (SepL.framed shL_framed)
theorem sh_cell {w : World} {b off : Nat} {xs : List ShA} (hc : ∀ j u, (eSh.all xs)[j]? = some u → w.cell? ⟨b, off + j, none⟩ = some u) (k : Nat) (h : k < xs.length) : w.cell? ⟨b, off + k, none⟩ = some xs[k].val := by
  have := eSh.all_at xs k 0 h (by decide)
  refine hc k _ ?_
  simpa [eSh] using this
section
variable {T : Nat → Prop} {w : World} {m : Nat} {kind cap : Int} {al : List ShA} {ss : List Sh} {v : Value}
theorem MapS.named (h : MapS m kind cap al ss T w) : ∃ v, MapV m kind cap v al ss T w := by
  obtain ⟨A, B, hd, hA, hB, ⟨v, h1, h2, h3, h4⟩, hq⟩ := h
  exact ⟨v, A, B, hd, hA, hB, ⟨h1, h2, h3, h4⟩, hq⟩
theorem MapV.plain (h : MapV m kind cap v al ss T w) : MapS m kind cap al ss T w := h.imp (fun _ ⟨h1, h2, h3, h4⟩ => ⟨v, h1, h2, h3, h4⟩) fun _ h => h
theorem MapV.own (h : MapV m kind cap v al ss T w) : w.heap[m]? = some (.cells (mapC kind cap v) 87 (0, 0)) ∧ Rd eSh w v al := by
  obtain ⟨A, B, _, _, _, ⟨hg, ho, _, _⟩, _⟩ := h
  exact ⟨hg, ho.rd⟩
theorem MapV.shape (h : MapV m kind cap v al ss T w) (h0 : 0 < al.length) : ∃ sb off c, v = .slice (some ⟨sb, off, none⟩) al.length c := by
  obtain ⟨_, ao, c, rfl, _, _, hx⟩ := h.own.2
  obtain ⟨sb, off, rfl, _⟩ := hx (by omega)
  exact ⟨sb, off, c, rfl⟩
theorem MapV.slot {sb off c : Nat} (h : MapV m kind cap (.slice (some ⟨sb, off, none⟩) al.length c) al ss T w) {i : Nat} (hi : i < al.length) : w.cell? ⟨m, 2, none⟩ = some (.slice (some ⟨sb, off, none⟩) al.length c) ∧ w.cell? ⟨sb, off + i, none⟩ = some al[i].val := by
  obtain ⟨hg, _, ao, c', he, _, _, hx⟩ := h.own
  obtain ⟨sb', off', rfl, hc⟩ := hx (by omega)
  obtain ⟨⟨rfl, rfl⟩, rfl⟩ : (sb = sb' ∧ off = off') ∧ c = c' := by simpa using he
  exact ⟨blk_cell hg 2, sh_cell hc i hi⟩
/-- one shard taken out, with the way back -/
theorem MapV.at (h : MapV m kind cap v al ss T w) (hl : al.length = ss.length) (i : Nat) (h1 : i < al.length) (h2 : i < ss.length) : ∃ A, ShardS al[i] cap ss[i] A w ∧ ∀ s' w', Upd (ShardS al[i] cap s') A w w' → Upd (MapV m kind cap v al (ss.set i s')) T w w' := by
  obtain ⟨B, hB, hb⟩ := h.focusR Obj1v.framed
  obtain ⟨A, hA, ha⟩ := SepL.at shL_framed hB i (by rw [shL_len hl]; exact h2)
  rw [shL_get i _ h1 h2] at hA
  refine ⟨A, hA, fun s' w' hu => ?_⟩
  have := hb _ w' (SepL.framed fun P hP => by
    rcases List.mem_or_eq_of_mem_set hP with h | h
    · exact shL_framed P h
    · exact h ▸ ShardS.framed) (ha _ w' (ShardS.framed (s := s')) hu)
  rwa [shL_set i h1] at this
end
end Go.Proofs.Ythppleegiieneaa
