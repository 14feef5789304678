/- owner: OwnerOrders, plain: steps one behind the other; the replies in memory; the law's own shards. -/
import Derived.Test.YtdlkblklfoagbaaOwnMany
namespace Go.Proofs.Ytdlkblklfoagbaa
open Go.RowKit
set_option linter.unusedVariables false
set_option linter.unusedSimpArgs false

/-- a reply as it lies: the request, the answer, the slice of its pairs -/
abbrev RepD := ReqD × ResD × (Option Addr × Nat × Nat)
abbrev repL (x : RepD) : List Value := [.int .i64 x.1.1, .int .i64 x.1.2.1, .bool x.1.2.2.1, .int .i64 x.1.2.2.2.1, .int .i64 x.1.2.2.2.2.1, .int .u64 x.1.2.2.2.2.2.1, .int .u64 x.1.2.2.2.2.2.2, .int .i64 x.2.1.1, .bool x.2.1.2.1, .int .u64 x.2.1.2.2.1, .bool x.2.1.2.2.2.1, .int .u64 x.2.1.2.2.2.2.1, .int .u64 x.2.1.2.2.2.2.2, .slice x.2.2.1 x.2.2.2.1 x.2.2.2.2]
abbrev eRep : Enc RepD where
  size := 14
  pos := by decide
  cells x := repL x
  len _ := rfl
  one q := by simp [Value.oneCell']
theorem eRep_slice : SliceInfo Try.prog 78 44 eRep.size 128 := SliceInfo.mk' Try.underlying78 (z := .agg #[.int .i64 0, .int .i64 0, .bool false, .int .i64 0, .int .i64 0, .int .u64 0, .int .u64 0, .int .i64 0, .bool false, .int .u64 0, .bool false, .int .u64 0, .int .u64 0, .slice none 0 0]) (by kernel_rfl) rfl
theorem repD_cells {w : World} {b off : Nat} {xs : List RepD} (hc : ∀ j u, (eRep.all xs)[j]? = some u → w.cell? ⟨b, off + j, none⟩ = some u) (k : Nat) (h : k < xs.length) :
    w.cell? ⟨b, off + k * 14, none⟩ = some (.int .i64 xs[k].1.1) ∧ w.cell? ⟨b, off + k * 14 + 1, none⟩ = some (.int .i64 xs[k].1.2.1) ∧ w.cell? ⟨b, off + k * 14 + 2, none⟩ = some (.bool xs[k].1.2.2.1) ∧ w.cell? ⟨b, off + k * 14 + 3, none⟩ = some (.int .i64 xs[k].1.2.2.2.1) ∧ w.cell? ⟨b, off + k * 14 + 4, none⟩ = some (.int .i64 xs[k].1.2.2.2.2.1) ∧ w.cell? ⟨b, off + k * 14 + 5, none⟩ = some (.int .u64 xs[k].1.2.2.2.2.2.1) ∧ w.cell? ⟨b, off + k * 14 + 6, none⟩ = some (.int .u64 xs[k].1.2.2.2.2.2.2) ∧ w.cell? ⟨b, off + k * 14 + 7, none⟩ = some (.int .i64 xs[k].2.1.1) ∧ w.cell? ⟨b, off + k * 14 + 8, none⟩ = some (.bool xs[k].2.1.2.1) ∧ w.cell? ⟨b, off + k * 14 + 9, none⟩ = some (.int .u64 xs[k].2.1.2.2.1) ∧ w.cell? ⟨b, off + k * 14 + 10, none⟩ = some (.bool xs[k].2.1.2.2.2.1) ∧ w.cell? ⟨b, off + k * 14 + 11, none⟩ = some (.int .u64 xs[k].2.1.2.2.2.2.1) ∧ w.cell? ⟨b, off + k * 14 + 12, none⟩ = some (.int .u64 xs[k].2.1.2.2.2.2.2) ∧ w.cell? ⟨b, off + k * 14 + 13, none⟩ = some (.slice xs[k].2.2.1 xs[k].2.2.2.1 xs[k].2.2.2.2) := by
  have e : ∀ j (hj : j < 14), w.cell? ⟨b, off + k * 14 + j, none⟩ = some ((eRep.cells xs[k])[j]'(by rw [eRep.len]; exact hj)) := fun j hj => by
    rw [show off + k * 14 + j = off + (k * 14 + j) by omega]
    exact hc _ _ ((eRep.all_at xs k j h hj).trans (List.getElem?_eq_getElem (by rw [eRep.len]; exact hj)))
  exact ⟨e 0 (by decide), e 1 (by decide), e 2 (by decide), e 3 (by decide), e 4 (by decide), e 5 (by decide), e 6 (by decide), e 7 (by decide), e 8 (by decide), e 9 (by decide), e 10 (by decide), e 11 (by decide), e 12 (by decide), e 13 (by decide)⟩
/-- the replies in memory: the rows, and the pairs of each -/
def GotS (v : Value) (rl : List RepD) (pl : List (List PairD)) (S : Nat → Prop) (w : World) : Prop := OwS eRep 44 S w v rl ∧ rl.length = pl.length ∧ ∀ i (h1 : i < rl.length) (h2 : i < pl.length), OwS ePair 50 S w (.slice rl[i].2.2.1 rl[i].2.2.2.1 rl[i].2.2.2.2) pl[i]
theorem GotS.framed {v : Value} {rl : List RepD} {pl : List (List PairD)} : Framed (GotS v rl pl) where
  only S F w w' h ho hn := ⟨OwS.framed.only S F w w' h.1 ho hn, h.2.1, fun i h1 h2 => OwS.framed.only S F w w' (h.2.2 i h1 h2) ho hn⟩
  mono S S' w h hs := ⟨OwS.framed.mono S S' w h.1 hs, h.2.1, fun i h1 h2 => OwS.framed.mono S S' w (h.2.2 i h1 h2) hs⟩
theorem GotS.nil (S : Nat → Prop) (w : World) : GotS (.slice none 0 0) [] [] S w := ⟨OwS.nil _ _, rfl, fun i h => by simp at h⟩
/-- one reply more: its pairs beside -/
theorem GotS.push {v v2 : Value} {rl : List RepD} {pl : List (List PairD)} {A B : Nat → Prop} {w w2 : World} {x : RepD} {ps : List PairD} (h : GotS v rl pl A w) (hp : OwS ePair 50 B w (.slice x.2.2.1 x.2.2.2.1 x.2.2.2.2) ps)
    (h2 : OwS eRep 44 (fun k => v.ownBlock = some k ∨ w.heap.size ≤ k) w2 v2 (rl ++ [x])) (hO : Only (fun k => v.ownBlock = some k) w w2) : GotS v2 (rl ++ [x]) (pl ++ [ps]) (fun k => A k ∨ B k ∨ w.heap.size ≤ k) w2 := by
  have hk : ∀ {u : Value} {S : Nat → Prop} {zs : List PairD}, OwS ePair 50 S w u zs → OwS ePair 50 S w2 u zs := fun hu => ⟨hu.1.only hO fun k hk => own_ne hu.1 h.1.1 (by decide) hk, hu.2⟩
  refine ⟨OwS.framed.mono _ _ _ h2 fun k _ e => e.elim (fun e => .inl (h.1.2 k e)) fun e => .inr (.inr e), by simp [h.2.1], fun i i1 i2 => ?_⟩
  by_cases hi : i < rl.length
  · have hi2 : i < pl.length := by rw [← h.2.1]; exact hi
    simp only [List.getElem_append_left hi, List.getElem_append_left hi2]
    exact OwS.framed.mono _ _ _ (hk (h.2.2 i hi hi2)) fun k _ e => .inl e
  · have he : i = rl.length := by simp at i1; omega
    subst he
    have e1 : (rl ++ [x])[rl.length]'i1 = x := by simp
    have e2 : (pl ++ [ps])[rl.length]'i2 = ps := by
      rw [List.getElem_append_right (by rw [h.2.1]; exact Nat.le_refl _)]
      simp [h.2.1]
    rw [e1, e2]
    exact OwS.framed.mono _ _ _ (hk hp) fun k _ e => .inr (.inl e)
/-- the law's own shards -/
def MineS (v : Value) (ml : List MSh) (ss : List Sh) : (Nat → Prop) → World → Prop := Sep (fun S w => OwS eSh 72 S w v (ml.map (·.1))) (SepL (ownL ml ss))
theorem MineS.framed {v : Value} {ml : List MSh} {ss : List Sh} : Framed (MineS v ml ss) := Sep.framed OwS.framed ownL_framed
theorem MineS.nil (S : Nat → Prop) (w : World) : MineS (.slice none 0 0) [] [] S w := ⟨fun _ => False, fun _ => False, fun _ h _ => h, fun _ h => h.elim, fun _ h => h.elim, OwS.nil _ _, trivial⟩
section
variable {T : Nat → Prop} {w : World} {ml : List MSh} {ss : List Sh} {v : Value}
theorem MineS.slot {a : Option Addr} {c : Nat} (h : MineS (.slice a ml.length c) ml ss T w) {i : Nat} (hi : i < ml.length) : ∃ sb off, a = some ⟨sb, off, none⟩ ∧ w.cell? ⟨sb, off + i, none⟩ = some ml[i].1.val := by
  obtain ⟨_, ao, c', he, _, _, hx⟩ := (h.left OwS.framed).rd
  obtain ⟨sb, off, rfl, hc⟩ := hx (by simp; omega)
  obtain ⟨rfl, -, rfl⟩ : a = some ⟨sb, off, none⟩ ∧ ml.length = (ml.map (·.1)).length ∧ c = c' := by simpa using he
  refine ⟨sb, off, rfl, ?_⟩
  have := sh_cell hc i (by simpa using hi)
  simpa using this
theorem MineS.at (h : MineS v ml ss T w) (i : Nat) (h1 : i < ml.length) (h2 : i < ss.length) : ∃ A, ShardS ml[i].1 ml[i].2.2 ss[i] A w ∧ ∀ s' w', Upd (ShardS ml[i].1 ml[i].2.2 s') A w w' → Upd (MineS v ml (ss.set i s')) T w w' := by
  obtain ⟨B, hB, hb⟩ := h.focusR OwS.framed
  obtain ⟨A, hA, ha⟩ := zw_at (fun _ _ => ShardS.framed) hB i h1 h2
  exact ⟨A, hA, fun s' w' hu => hb _ w' ownL_framed (ha s' w' hu)⟩
end
/-- the shards behind steps -/
def runP (ds : List DefD) (ss : List Sh) (l : List ReqD) : List Sh := l.foldl (fun s q => (stepP ds s q).2.2) ss
theorem runP_snoc (ds : List DefD) (ss : List Sh) (l : List ReqD) (q : ReqD) : runP ds ss (l ++ [q]) = (stepP ds (runP ds ss l) q).2.2 := by simp [runP]
theorem runP_take (ds : List DefD) (ss : List Sh) (l : List ReqD) (k : Nat) (h : k < l.length) : runP ds ss (l.take (k + 1)) = (stepP ds (runP ds ss (l.take k)) l[k]).2.2 := by
  rw [← List.take_append_getElem h, runP_snoc]
theorem runP_good {ml : List MSh} {ss : List Sh} (G : OGood ml ss) (l : List ReqD) : OGood ml (runP (ml.map (·.2)) ss l) := by
  induction l generalizing ss with
  | nil => exact G
  | cons q l ih => exact ih (stepP_good G)
/-- the replies so far are what steps answer -/
structure GotOk (ds : List DefD) (ss0 : List Sh) (took : List ReqD) (rl : List RepD) (pl : List (List PairD)) : Prop where
  len : rl.length ≤ took.length
  at_ : ∀ i (h1 : i < rl.length) (h2 : i < pl.length) (h3 : i < took.length), rl[i].1 = took[i] ∧ (stepP ds (runP ds ss0 (took.take i)) took[i]).1 = rl[i].2.1 ∧ (stepP ds (runP ds ss0 (took.take i)) took[i]).2.1 = pl[i]
theorem GotOk.more {ds : List DefD} {ss0 : List Sh} {took : List ReqD} {rl : List RepD} {pl : List (List PairD)} (H : GotOk ds ss0 took rl pl) (q : ReqD) : GotOk ds ss0 (took ++ [q]) rl pl :=
  ⟨by have := H.len; simp; omega, fun i h1 h2 h3 => by
    have hi : i < took.length := by have := H.len; omega
    rw [List.getElem_append_left hi, List.take_append_of_le_length (by omega)]
    exact H.at_ i h1 h2 hi⟩
theorem GotOk.push {ds : List DefD} {ss0 : List Sh} {took : List ReqD} {rl : List RepD} {pl : List (List PairD)} (H : GotOk ds ss0 took rl pl) (hl : rl.length = pl.length) (hd : rl.length < took.length) {x : RepD} {ps : List PairD} (h1 : x.1 = took[rl.length])
    (h2 : (stepP ds (runP ds ss0 (took.take rl.length)) took[rl.length]).1 = x.2.1) (h3 : (stepP ds (runP ds ss0 (took.take rl.length)) took[rl.length]).2.1 = ps) : GotOk ds ss0 took (rl ++ [x]) (pl ++ [ps]) :=
  ⟨by simp; omega, fun i i1 i2 i3 => by
    by_cases hi : i < rl.length
    · have hi2 : i < pl.length := by rw [← hl]; exact hi
      rw [List.getElem_append_left hi, List.getElem_append_left hi2]
      exact H.at_ i hi hi2 i3
    · have he : i = rl.length := by simp at i1; omega
      subst he
      refine ⟨by simpa using h1, by simpa using h2, ?_⟩
      rw [h3]
      simp [hl]⟩
end Go.Proofs.Ytdlkblklfoagbaa
