/- An append behind a guard that lets it through. -/
import Derived.Test.YtncppfoodjgpkaaBase
namespace Go.Proofs.Ytncppfoodjgpkaa
open Go.RowKit
theorem wl_appendG {α : Type} {E : Enc α} {P : Program} {w : World} {ops : Array Oper} {rest : List Oper} {o : Oper} {a : Act} {Q : Exit → Act → World → Prop} (hgd : Region.wanted o (yielded ops a.tmps) = true) (s x : Operand) (t : TypeId)
    (ho : o.op = .call { callee := .builtin .append, args := #[s, x], argTypes := #[t, t] })
    (base e bytes : Nat) (hI : SliceInfo P t e E.size bytes) (v : Value) (xs : List α) (hs : a.eval s = v) (hown : Ow E base e w v xs)
    (u : Value) (ys : List α) (hx : a.eval x = u) (hr : Rd E w u ys)
    (hbytes : (5 * (xs.length + ys.length) + 2816) * bytes ≤ 1125899906842624) (h63 : xs.length + ys.length ≤ maxLen) (hbase : base ≤ w.heap.size)
    (h : ∀ v' w', Ow E base e w' v' (xs ++ ys) → w.grownBy w' v.ownBlock → (v'.ownBlock = v.ownBlock ∧ vstart v' = vstart v ∨ ∀ g, v'.ownBlock = some g → w.heap.size ≤ g) → (∀ q zs, Ow E base e w q zs → vstart q = vstart v → zs.length ≤ xs.length → Ow E base e w' q zs) → wpList P ops Q rest (a.put o.dst v') w') : wpList P ops Q (o :: rest) a w :=
  wpList_step fun K hK => by
    rw [if_pos hgd]
    exact op_append s x t ho base e bytes hI v xs hs hown u ys hx hr hbytes h63 hbase fun v' w' h1 h2 h3 h4 => hK _ _ (h v' w' h1 h2 h3 h4)
end Go.Proofs.Ytncppfoodjgpkaa
