/-
  No cell of these rows narrows 'for every input' (looked for: loops, veiled, ifaces, maps, wideKeys, modest, calm, conditions, laid).
  DERIVED. THE GIVEN ROWS OF THIS SEAT. 7 by the template 'for every input the law returns true; each argument reads behind the call as it read before'; 0 by the template 'total and deterministic' (their statements: YtncppfoodjgpkaaTotals.lean).
  GIVEN WITH THE SEED: the statements are not yours to turn. If you find one false, say at which input.
  Laid BY PROGRAM, IN A SANDBOX (cutbox-rows.mjs): the forced cells as the released guide's own fill.sh prints them over the translation 7e5fe8392738ecdc… (all of the seat's roots in one cut). By AI agents, Wed Nov 11 2026. No macro, syntax, notation, axiom, sorry.
-/
import Derived.Test.YtncppfoodjgpkaaChecked
import GoSem.Claim
import GoSem.ClaimJoined
import GoSem.ClaimMapViews
import Derived.JoinedTies
import Derived.KernelRfl
namespace Go.Proofs.Ytncppfoodjgpkaa
/- THE CELL 'sum', in the pinned program and in every row, IS THE sha256 OF THE DUMP (.gsa) THAT YtncppfoodjgpkaaProg.lean LOADS. Nothing in Lean hashes anything: it is a label: what it is worth is what the hold of that sum in a sandbox is worth. -/
noncomputable def Try.pinned : Pinned := { name := "ytncppfoodjgpkaa", sum := "7e5fe8392738ecdc0f5644b4eaefee8993774cd76d71ef964da2fae51ae1dcff", checked := Try.checked }
namespace Rows
def none {H : Type} : Left H := { results := [], args := [] }

/-- 'tappetlaw01.LebOrders': WHATEVER THE INPUT: true; the input reads as it did. -/
def lebOrdersSpec : ChangeSpec := { name := "lebOrders", fn := fun _ => fun
  | [d1, d2, d3] => { results := [.lit (.bool true)], args := [d1, d2, d3] }
  | _ => none }
def lebOrdersRow : OpenClaim := { program := "ytncppfoodjgpkaa", sum := "7e5fe8392738ecdc0f5644b4eaefee8993774cd76d71ef964da2fae51ae1dcff", func := "tappet/tappetlaw01.LebOrders", spec := "lebOrders", apart := false }
def LebOrdersSaid : Prop := lebOrdersRow.holds Try.pinned (OpenSpec.ofChange lebOrdersSpec)

/-- ITS FALSE NEIGHBOUR: 'it returns false'. Refute it at one input. -/
def lebOrdersWrong : ChangeSpec := { name := "lebOrders", fn := fun _ => fun
  | [d1, d2, d3] => { results := [.lit (.bool false)], args := [d1, d2, d3] }
  | _ => none }
def LebOrdersWrongFalsely : Prop := lebOrdersRow.holds Try.pinned (OpenSpec.ofChange lebOrdersWrong)

/-- 'tappetlaw01.LebGets': WHATEVER THE INPUT: true; the input reads as it did. -/
def lebGetsSpec : ChangeSpec := { name := "lebGets", fn := fun _ => fun
  | [d] => { results := [.lit (.bool true)], args := [d] }
  | _ => none }
def lebGetsRow : OpenClaim := { program := "ytncppfoodjgpkaa", sum := "7e5fe8392738ecdc0f5644b4eaefee8993774cd76d71ef964da2fae51ae1dcff", func := "tappet/tappetlaw01.LebGets", spec := "lebGets", apart := false }
def LebGetsSaid : Prop := lebGetsRow.holds Try.pinned (OpenSpec.ofChange lebGetsSpec)

/-- ITS FALSE NEIGHBOUR: 'it returns false'. Refute it at one input. -/
def lebGetsWrong : ChangeSpec := { name := "lebGets", fn := fun _ => fun
  | [d] => { results := [.lit (.bool false)], args := [d] }
  | _ => none }
def LebGetsWrongFalsely : Prop := lebGetsRow.holds Try.pinned (OpenSpec.ofChange lebGetsWrong)

/-- 'tappetlaw01.LebSigned': WHATEVER THE INPUT: true; the input reads as it did. -/
def lebSignedSpec : ChangeSpec := { name := "lebSigned", fn := fun _ => fun
  | [d1, d2] => { results := [.lit (.bool true)], args := [d1, d2] }
  | _ => none }
def lebSignedRow : OpenClaim := { program := "ytncppfoodjgpkaa", sum := "7e5fe8392738ecdc0f5644b4eaefee8993774cd76d71ef964da2fae51ae1dcff", func := "tappet/tappetlaw01.LebSigned", spec := "lebSigned", apart := false }
def LebSignedSaid : Prop := lebSignedRow.holds Try.pinned (OpenSpec.ofChange lebSignedSpec)

/-- ITS FALSE NEIGHBOUR: 'it returns false'. Refute it at one input. -/
def lebSignedWrong : ChangeSpec := { name := "lebSigned", fn := fun _ => fun
  | [d1, d2] => { results := [.lit (.bool false)], args := [d1, d2] }
  | _ => none }
def LebSignedWrongFalsely : Prop := lebSignedRow.holds Try.pinned (OpenSpec.ofChange lebSignedWrong)

/-- 'tappetlaw01.LebPuts': WHATEVER THE INPUT: true; the input reads as it did. -/
def lebPutsSpec : ChangeSpec := { name := "lebPuts", fn := fun _ => fun
  | [d1, d2] => { results := [.lit (.bool true)], args := [d1, d2] }
  | _ => none }
def lebPutsRow : OpenClaim := { program := "ytncppfoodjgpkaa", sum := "7e5fe8392738ecdc0f5644b4eaefee8993774cd76d71ef964da2fae51ae1dcff", func := "tappet/tappetlaw01.LebPuts", spec := "lebPuts", apart := false }
def LebPutsSaid : Prop := lebPutsRow.holds Try.pinned (OpenSpec.ofChange lebPutsSpec)

/-- ITS FALSE NEIGHBOUR: 'it returns false'. Refute it at one input. -/
def lebPutsWrong : ChangeSpec := { name := "lebPuts", fn := fun _ => fun
  | [d1, d2] => { results := [.lit (.bool false)], args := [d1, d2] }
  | _ => none }
def LebPutsWrongFalsely : Prop := lebPutsRow.holds Try.pinned (OpenSpec.ofChange lebPutsWrong)

/-- 'tappetlaw01.LebAlls': WHATEVER THE INPUT: true; the input reads as it did. -/
def lebAllsSpec : ChangeSpec := { name := "lebAlls", fn := fun _ => fun
  | [d] => { results := [.lit (.bool true)], args := [d] }
  | _ => none }
def lebAllsRow : OpenClaim := { program := "ytncppfoodjgpkaa", sum := "7e5fe8392738ecdc0f5644b4eaefee8993774cd76d71ef964da2fae51ae1dcff", func := "tappet/tappetlaw01.LebAlls", spec := "lebAlls", apart := false }
def LebAllsSaid : Prop := lebAllsRow.holds Try.pinned (OpenSpec.ofChange lebAllsSpec)

/-- ITS FALSE NEIGHBOUR: 'it returns false'. Refute it at one input. -/
def lebAllsWrong : ChangeSpec := { name := "lebAlls", fn := fun _ => fun
  | [d] => { results := [.lit (.bool false)], args := [d] }
  | _ => none }
def LebAllsWrongFalsely : Prop := lebAllsRow.holds Try.pinned (OpenSpec.ofChange lebAllsWrong)

/-- 'tappetlaw01.LebKeeps': WHATEVER THE INPUT: true; the input reads as it did. -/
def lebKeepsSpec : ChangeSpec := { name := "lebKeeps", fn := fun _ => fun
  | [d1, d2] => { results := [.lit (.bool true)], args := [d1, d2] }
  | _ => none }
def lebKeepsRow : OpenClaim := { program := "ytncppfoodjgpkaa", sum := "7e5fe8392738ecdc0f5644b4eaefee8993774cd76d71ef964da2fae51ae1dcff", func := "tappet/tappetlaw01.LebKeeps", spec := "lebKeeps", apart := false }
def LebKeepsSaid : Prop := lebKeepsRow.holds Try.pinned (OpenSpec.ofChange lebKeepsSpec)

/-- ITS FALSE NEIGHBOUR: 'it returns false'. Refute it at one input. -/
def lebKeepsWrong : ChangeSpec := { name := "lebKeeps", fn := fun _ => fun
  | [d1, d2] => { results := [.lit (.bool false)], args := [d1, d2] }
  | _ => none }
def LebKeepsWrongFalsely : Prop := lebKeepsRow.holds Try.pinned (OpenSpec.ofChange lebKeepsWrong)

/-- 'tappetlaw01.LebBack': WHATEVER THE INPUT: true; the input reads as it did. -/
def lebBackSpec : ChangeSpec := { name := "lebBack", fn := fun _ => fun
  | [d1, d2] => { results := [.lit (.bool true)], args := [d1, d2] }
  | _ => none }
def lebBackRow : OpenClaim := { program := "ytncppfoodjgpkaa", sum := "7e5fe8392738ecdc0f5644b4eaefee8993774cd76d71ef964da2fae51ae1dcff", func := "tappet/tappetlaw01.LebBack", spec := "lebBack", apart := false }
def LebBackSaid : Prop := lebBackRow.holds Try.pinned (OpenSpec.ofChange lebBackSpec)

/-- ITS FALSE NEIGHBOUR: 'it returns false'. Refute it at one input. -/
def lebBackWrong : ChangeSpec := { name := "lebBack", fn := fun _ => fun
  | [d1, d2] => { results := [.lit (.bool false)], args := [d1, d2] }
  | _ => none }
def LebBackWrongFalsely : Prop := lebBackRow.holds Try.pinned (OpenSpec.ofChange lebBackWrong)

/- THE SECOND FORM. 'bulk': how many values and letters a reading holds, each counted each time it is reached (what is shared counts as often as it is met; a slice's spare places count too). A statement '..UptoSaid' is the law's where the arguments, and the package variables that the reading takes, are together of bulk at most 1048576: NARROWER than '..Said'. Prove '..Said' where nothing that the law and all that it calls make is longer than what came in: it says more and counts as full. Else prove '..UptoSaid'. A law counts once. -/
mutual
def uptoBulk {H : Type} : DataW H → Nat
  | .lit (.string bytes) => bytes.length + 1
  | .lit _ => 1
  | .nil => 1
  | .ptr d => uptoBulk d + 1
  | .slice elems spare => uptoBulkAll elems + uptoBulkAll spare + 1
  | .agg parts => uptoBulkAll parts + 1
  | .iface _ d => uptoBulk d + 1
  | .map entries => uptoBulkEntries entries + 1
  | .held _ => 1
def uptoBulkAll {H : Type} : List (DataW H) → Nat
  | [] => 0
  | d :: r => uptoBulk d + uptoBulkAll r
def uptoBulkEntries {H : Type} : List (Lit × DataW H) → Nat
  | [] => 0
  | x :: r => uptoBulkEntry x + uptoBulkEntries r
def uptoBulkEntry {H : Type} : Lit × DataW H → Nat
  | (.string bytes, d) => bytes.length + uptoBulk d + 1
  | (_, d) => uptoBulk d + 1
 end
def uptoSmall : (H : Type) → List (DataW H) → Bool := fun _ ds => decide (uptoBulkAll ds ≤ 1048576)
def OpenSpec.upto (s : _root_.Go.ChangeSpec) : _root_.Go.OpenSpec := { _root_.Go.OpenSpec.ofChange s with cond := some uptoSmall }

/-- 'tappetlaw01.LebOrders', WHERE WHAT IT READS IS OF BULK AT MOST 1048576: true; the input reads as it did. -/
def lebOrdersUptoRow : OpenClaim := { program := "ytncppfoodjgpkaa", sum := "7e5fe8392738ecdc0f5644b4eaefee8993774cd76d71ef964da2fae51ae1dcff", func := "tappet/tappetlaw01.LebOrders", spec := "lebOrders", apart := false, narrowed := true }
def LebOrdersUptoSaid : Prop := lebOrdersUptoRow.holds Try.pinned (OpenSpec.upto lebOrdersSpec)

/-- 'tappetlaw01.LebGets', WHERE WHAT IT READS IS OF BULK AT MOST 1048576: true; the input reads as it did. -/
def lebGetsUptoRow : OpenClaim := { program := "ytncppfoodjgpkaa", sum := "7e5fe8392738ecdc0f5644b4eaefee8993774cd76d71ef964da2fae51ae1dcff", func := "tappet/tappetlaw01.LebGets", spec := "lebGets", apart := false, narrowed := true }
def LebGetsUptoSaid : Prop := lebGetsUptoRow.holds Try.pinned (OpenSpec.upto lebGetsSpec)

/-- 'tappetlaw01.LebSigned', WHERE WHAT IT READS IS OF BULK AT MOST 1048576: true; the input reads as it did. -/
def lebSignedUptoRow : OpenClaim := { program := "ytncppfoodjgpkaa", sum := "7e5fe8392738ecdc0f5644b4eaefee8993774cd76d71ef964da2fae51ae1dcff", func := "tappet/tappetlaw01.LebSigned", spec := "lebSigned", apart := false, narrowed := true }
def LebSignedUptoSaid : Prop := lebSignedUptoRow.holds Try.pinned (OpenSpec.upto lebSignedSpec)

/-- 'tappetlaw01.LebPuts', WHERE WHAT IT READS IS OF BULK AT MOST 1048576: true; the input reads as it did. -/
def lebPutsUptoRow : OpenClaim := { program := "ytncppfoodjgpkaa", sum := "7e5fe8392738ecdc0f5644b4eaefee8993774cd76d71ef964da2fae51ae1dcff", func := "tappet/tappetlaw01.LebPuts", spec := "lebPuts", apart := false, narrowed := true }
def LebPutsUptoSaid : Prop := lebPutsUptoRow.holds Try.pinned (OpenSpec.upto lebPutsSpec)

/-- 'tappetlaw01.LebAlls', WHERE WHAT IT READS IS OF BULK AT MOST 1048576: true; the input reads as it did. -/
def lebAllsUptoRow : OpenClaim := { program := "ytncppfoodjgpkaa", sum := "7e5fe8392738ecdc0f5644b4eaefee8993774cd76d71ef964da2fae51ae1dcff", func := "tappet/tappetlaw01.LebAlls", spec := "lebAlls", apart := false, narrowed := true }
def LebAllsUptoSaid : Prop := lebAllsUptoRow.holds Try.pinned (OpenSpec.upto lebAllsSpec)

/-- 'tappetlaw01.LebKeeps', WHERE WHAT IT READS IS OF BULK AT MOST 1048576: true; the input reads as it did. -/
def lebKeepsUptoRow : OpenClaim := { program := "ytncppfoodjgpkaa", sum := "7e5fe8392738ecdc0f5644b4eaefee8993774cd76d71ef964da2fae51ae1dcff", func := "tappet/tappetlaw01.LebKeeps", spec := "lebKeeps", apart := false, narrowed := true }
def LebKeepsUptoSaid : Prop := lebKeepsUptoRow.holds Try.pinned (OpenSpec.upto lebKeepsSpec)

/-- 'tappetlaw01.LebBack', WHERE WHAT IT READS IS OF BULK AT MOST 1048576: true; the input reads as it did. -/
def lebBackUptoRow : OpenClaim := { program := "ytncppfoodjgpkaa", sum := "7e5fe8392738ecdc0f5644b4eaefee8993774cd76d71ef964da2fae51ae1dcff", func := "tappet/tappetlaw01.LebBack", spec := "lebBack", apart := false, narrowed := true }
def LebBackUptoSaid : Prop := lebBackUptoRow.holds Try.pinned (OpenSpec.upto lebBackSpec)

end Rows
end Go.Proofs.Ytncppfoodjgpkaa
