/- owner: the law's operations; a script that came in. -/
import Derived.Test.YtdlkblklfoagbaaOwnOpen
import Derived.Test.YtdlkblklfoagbaaROwnAny
namespace Go.Proofs.Ytdlkblklfoagbaa
open Go.RowKit
set_option linter.unusedVariables false
set_option linter.unusedSimpArgs false

abbrev OpD := Int × Int × (Option Addr × Nat × Nat)
abbrev eOp : Enc OpD where
  size := 3
  pos := by decide
  cells x := [.int .i64 x.1, .int .i64 x.2.1, .slice x.2.2.1 x.2.2.2.1 x.2.2.2.2]
  len _ := rfl
  one q := by simp [Value.oneCell']
theorem op_cells {w : World} {b off : Nat} {xs : List OpD} (hc : ∀ j u, (eOp.all xs)[j]? = some u → w.cell? ⟨b, off + j, none⟩ = some u) (k : Nat) (h : k < xs.length) :
    w.cell? ⟨b, off + k * 3, none⟩ = some (.int .i64 xs[k].1) ∧ w.cell? ⟨b, off + k * 3 + 1, none⟩ = some (.int .i64 xs[k].2.1) ∧ w.cell? ⟨b, off + k * 3 + 2, none⟩ = some (.slice xs[k].2.2.1 xs[k].2.2.2.1 xs[k].2.2.2.2) := by
  have e : ∀ j (hj : j < 3), w.cell? ⟨b, off + k * 3 + j, none⟩ = some ((eOp.cells xs[k])[j]'(by rw [eOp.len]; exact hj)) := fun j hj => by
    rw [show off + k * 3 + j = off + (k * 3 + j) by omega]
    exact hc _ _ ((eOp.all_at xs k j h hj).trans (List.getElem?_eq_getElem (by rw [eOp.len]; exact hj)))
  exact ⟨e 0 (by decide), e 1 (by decide), e 2 (by decide)⟩
/-- the requests of an operation -/
def OpL (w : World) (o : OpD) : Prop := ∃ qs, Rd eReq w (.slice o.2.2.1 o.2.2.2.1 o.2.2.2.2) qs ∧ ∀ q ∈ qs, 0 ≤ q.2.2.2.2.2.1 ∧ q.2.2.2.2.2.1 ≤ 18446744073709551615
theorem sendP_drop (sd n : Int) (nm : Nat) (en : Bool) (all qs : List ReqD) (d : Nat) (hd : d ≤ all.length) : sendP sd n nm en (all.drop d) qs = ((sendP sd n nm en all qs).1, (sendP sd n nm en all qs).2.drop d) := by
  unfold sendP
  split
  · rfl
  · split
    · simp only [Prod.mk.injEq, true_and]
      rw [List.drop_append_of_le_length hd]
    · rfl
theorem sendP_all {sd n : Int} {nm : Nat} {en : Bool} {all qs : List ReqD} (h : ∀ q ∈ all, fitsP sd n nm q = true) : (∀ q ∈ (sendP sd n nm en all qs).2, fitsP sd n nm q = true) ∧ all.length ≤ (sendP sd n nm en all qs).2.length ∧ (sendP sd n nm en all qs).2.length ≤ all.length + qs.length := by
  unfold sendP
  split
  · exact ⟨h, Nat.le_refl _, by simp only; omega⟩
  · split
    · next hq =>
      refine ⟨fun q hm => ?_, by simp, by simp⟩
      rcases List.mem_append.1 hm with hm | hm
      · exact h q hm
      · exact List.all_eq_true.1 hq q hm
    · exact ⟨h, Nat.le_refl _, by simp only; omega⟩
/-- the two owners after k operations -/
structure PS (sd n : Int) (ds : List DefD) (ml : List MSh) (mr : List MRSh) (k : Nat) (ss : List Sh) (rs : List RSt) (all : List ReqD) (d : Nat) : Prop where
  sync : OSync ds ml mr ss rs k
  dl : d ≤ all.length
  al : all.length ≤ 40 * k
  fit : ∀ q ∈ all, fitsP sd n ds.length q = true
theorem PS.up {sd n : Int} {ds : List DefD} {ml : List MSh} {mr : List MRSh} {k : Nat} {ss : List Sh} {rs : List RSt} {all : List ReqD} {d : Nat} (H : PS sd n ds ml mr k ss rs all d) : PS sd n ds ml mr (k + 1) ss rs all d := ⟨H.sync.up, H.dl, by have := H.al; omega, H.fit⟩
theorem slice_fromR (ao : Option Addr) (n cap p : Nat) (h : p ≤ n) (W : World) :
    (Instr.slice 25 (.slice ao n cap) (some (.int .i64 (p : Int))) none none).run Try.prog W = .ok (.slice (if cap = p then ao else Option.map (fun x => x.add (p * 7)) ao) (n - p) (cap - p)) W := by
  have h1 : (0 : Int) ≤ (p : Int) := by omega
  have h2 : (p : Int) ≤ (n : Int) := by omega
  go_simp
theorem step_appendW {α : Type} {E : Enc α} {P : Program} {w : World} {ops : Array Oper} {o : Oper} {a : Act} {K : Act → World → Prop} {Q : Exit → Act → World → Prop} {F : Prop} (hgd : o.guard = none) (s x : Operand) (t : TypeId)
    (ho : o.op = .call { callee := .builtin .append, args := #[s, x], argTypes := #[t, t] })
    (e bytes : Nat) (hI : SliceInfo P t e E.size bytes) (S : Nat → Prop) (v : Value) (xs : List α) (hs : a.eval s = v) (hown : OwS E e S w v xs)
    (u : Value) (ys : List α) (hx : a.eval x = u) (hr : Rd E w u ys)
    (hbytes : (5 * (xs.length + ys.length) + 2816) * bytes ≤ 1125899906842624) (h63 : xs.length + ys.length ≤ maxLen)
    (h : ∀ v' w', OwS E e (fun k => S k ∨ w.heap.size ≤ k) w' v' (xs ++ ys) → Only S w w' → K (a.put o.dst v') w') :
    if Region.wanted o (yielded ops a.tmps) = true then Oper.wp P o a w K Q else F :=
  step_append hgd s x t ho 0 e bytes hI v xs hs hown.1 u ys hx hr hbytes h63 (Nat.zero_le _) fun v' w' h1 h2 h3 _ => h v' w' ⟨h1, fun k hk => by
      rcases h3 with h3 | h3
      · exact .inl (hown.2 k (by rw [← h3.1]; exact hk))
      · exact .inr (h3 k hk)⟩ (Only.of_grown h2 fun k hk => hown.2 k hk)
end Go.Proofs.Ytdlkblklfoagbaa
