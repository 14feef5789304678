/-
  No cell of these rows narrows 'for every input' (looked for: loops, veiled, ifaces, maps, wideKeys, modest, calm, conditions, laid).
  DERIVED. THE GIVEN ROWS OF THIS SEAT. 4 by the template 'for every input the law returns true; each argument reads behind the call as it read before'; 0 by the template 'total and deterministic' (their statements: YthemkcgifefjmaaTotals.lean).
  GIVEN WITH THE SEED: the statements are not yours to turn. If you find one false, say at which input.
  Laid BY PROGRAM, IN A SANDBOX (cutbox-rows.mjs): the forced cells as the released guide's own fill.sh prints them over the translation 4fe6de0e707fd431… (all of the seat's roots in one cut). By AI agents, Wed Nov 11 2026. No macro, syntax, notation, axiom, sorry.
-/
import Derived.Test.YthemkcgifefjmaaChecked
import GoSem.Claim
import GoSem.ClaimJoined
import GoSem.ClaimMapViews
import Derived.JoinedTies
import Derived.KernelRfl
namespace Go.Proofs.Ythemkcgifefjmaa
/- THE CELL 'sum', in the pinned program and in every row, IS THE sha256 OF THE DUMP (.gsa) THAT YthemkcgifefjmaaProg.lean LOADS. Nothing in Lean hashes anything: it is a label: what it is worth is what the hold of that sum in a sandbox is worth. -/
noncomputable def Try.pinned : Pinned := { name := "ythemkcgifefjmaa", sum := "4fe6de0e707fd431fd31e6c23f25c4b59511ae138dbcba165517c60867356475", checked := Try.checked }
namespace Rows
def none {H : Type} : Left H := { results := [], args := [] }

/-- 'tappetlaw19.HooksWhere': WHATEVER THE INPUT: true; the input reads as it did. -/
def hooksWhereSpec : ChangeSpec := { name := "hooksWhere", fn := fun _ => fun
  | [d1, d2, d3] => { results := [.lit (.bool true)], args := [d1, d2, d3] }
  | _ => none }
def hooksWhereRow : OpenClaim := { program := "ythemkcgifefjmaa", sum := "4fe6de0e707fd431fd31e6c23f25c4b59511ae138dbcba165517c60867356475", func := "tappet/tappetlaw19.HooksWhere", spec := "hooksWhere", apart := false }
def HooksWhereSaid : Prop := hooksWhereRow.holds Try.pinned (OpenSpec.ofChange hooksWhereSpec)

/-- ITS FALSE NEIGHBOUR: 'it returns false'. Refute it at one input. -/
def hooksWhereWrong : ChangeSpec := { name := "hooksWhere", fn := fun _ => fun
  | [d1, d2, d3] => { results := [.lit (.bool false)], args := [d1, d2, d3] }
  | _ => none }
def HooksWhereWrongFalsely : Prop := hooksWhereRow.holds Try.pinned (OpenSpec.ofChange hooksWhereWrong)

/-- 'tappetlaw19.HooksVersions': WHATEVER THE INPUT: true; the input reads as it did. -/
def hooksVersionsSpec : ChangeSpec := { name := "hooksVersions", fn := fun _ => fun
  | [d1, d2] => { results := [.lit (.bool true)], args := [d1, d2] }
  | _ => none }
def hooksVersionsRow : OpenClaim := { program := "ythemkcgifefjmaa", sum := "4fe6de0e707fd431fd31e6c23f25c4b59511ae138dbcba165517c60867356475", func := "tappet/tappetlaw19.HooksVersions", spec := "hooksVersions", apart := false }
def HooksVersionsSaid : Prop := hooksVersionsRow.holds Try.pinned (OpenSpec.ofChange hooksVersionsSpec)

/-- ITS FALSE NEIGHBOUR: 'it returns false'. Refute it at one input. -/
def hooksVersionsWrong : ChangeSpec := { name := "hooksVersions", fn := fun _ => fun
  | [d1, d2] => { results := [.lit (.bool false)], args := [d1, d2] }
  | _ => none }
def HooksVersionsWrongFalsely : Prop := hooksVersionsRow.holds Try.pinned (OpenSpec.ofChange hooksVersionsWrong)

/-- 'tappetlaw19.HooksMany': WHATEVER THE INPUT: true; the input reads as it did. -/
def hooksManySpec : ChangeSpec := { name := "hooksMany", fn := fun _ => fun
  | [d1, d2, d3] => { results := [.lit (.bool true)], args := [d1, d2, d3] }
  | _ => none }
def hooksManyRow : OpenClaim := { program := "ythemkcgifefjmaa", sum := "4fe6de0e707fd431fd31e6c23f25c4b59511ae138dbcba165517c60867356475", func := "tappet/tappetlaw19.HooksMany", spec := "hooksMany", apart := false }
def HooksManySaid : Prop := hooksManyRow.holds Try.pinned (OpenSpec.ofChange hooksManySpec)

/-- ITS FALSE NEIGHBOUR: 'it returns false'. Refute it at one input. -/
def hooksManyWrong : ChangeSpec := { name := "hooksMany", fn := fun _ => fun
  | [d1, d2, d3] => { results := [.lit (.bool false)], args := [d1, d2, d3] }
  | _ => none }
def HooksManyWrongFalsely : Prop := hooksManyRow.holds Try.pinned (OpenSpec.ofChange hooksManyWrong)

/-- 'tappetlaw19.HooksPlays': WHATEVER THE INPUT: true; the input reads as it did. -/
def hooksPlaysSpec : ChangeSpec := { name := "hooksPlays", fn := fun _ => fun
  | [d1, d2] => { results := [.lit (.bool true)], args := [d1, d2] }
  | _ => none }
def hooksPlaysRow : OpenClaim := { program := "ythemkcgifefjmaa", sum := "4fe6de0e707fd431fd31e6c23f25c4b59511ae138dbcba165517c60867356475", func := "tappet/tappetlaw19.HooksPlays", spec := "hooksPlays", apart := false }
def HooksPlaysSaid : Prop := hooksPlaysRow.holds Try.pinned (OpenSpec.ofChange hooksPlaysSpec)

/-- ITS FALSE NEIGHBOUR: 'it returns false'. Refute it at one input. -/
def hooksPlaysWrong : ChangeSpec := { name := "hooksPlays", fn := fun _ => fun
  | [d1, d2] => { results := [.lit (.bool false)], args := [d1, d2] }
  | _ => none }
def HooksPlaysWrongFalsely : Prop := hooksPlaysRow.holds Try.pinned (OpenSpec.ofChange hooksPlaysWrong)

/- THE SECOND FORM. 'bulk': how many values and letters a reading holds, each counted each time it is reached (what is shared counts as often as it is met; a slice's spare places count too). A statement '..UptoSaid' is the law's where the arguments, and the package variables that the reading takes, are together of bulk at most 1048576: NARROWER than '..Said'. Prove '..Said' where nothing that the law and all that it calls make is longer than what came in: it says more and counts as full. Else prove '..UptoSaid'. A law counts once. -/
mutual
def uptoBulk {H : Type} : DataW H → Nat
  | .lit (.string bytes) => bytes.length + 1
  | .lit _ => 1
  | .nil => 1
  | .ptr d => uptoBulk d + 1
  | .slice elems spare => uptoBulkAll elems + uptoBulkAll spare + 1
  | .agg parts => uptoBulkAll parts + 1
  | .iface _ d => uptoBulk d + 1
  | .map entries => uptoBulkEntries entries + 1
  | .held _ => 1
def uptoBulkAll {H : Type} : List (DataW H) → Nat
  | [] => 0
  | d :: r => uptoBulk d + uptoBulkAll r
def uptoBulkEntries {H : Type} : List (Lit × DataW H) → Nat
  | [] => 0
  | x :: r => uptoBulkEntry x + uptoBulkEntries r
def uptoBulkEntry {H : Type} : Lit × DataW H → Nat
  | (.string bytes, d) => bytes.length + uptoBulk d + 1
  | (_, d) => uptoBulk d + 1
 end
def uptoSmall : (H : Type) → List (DataW H) → Bool := fun _ ds => decide (uptoBulkAll ds ≤ 1048576)
def OpenSpec.upto (s : _root_.Go.ChangeSpec) : _root_.Go.OpenSpec := { _root_.Go.OpenSpec.ofChange s with cond := some uptoSmall }

/-- 'tappetlaw19.HooksWhere', WHERE WHAT IT READS IS OF BULK AT MOST 1048576: true; the input reads as it did. -/
def hooksWhereUptoRow : OpenClaim := { program := "ythemkcgifefjmaa", sum := "4fe6de0e707fd431fd31e6c23f25c4b59511ae138dbcba165517c60867356475", func := "tappet/tappetlaw19.HooksWhere", spec := "hooksWhere", apart := false, narrowed := true }
def HooksWhereUptoSaid : Prop := hooksWhereUptoRow.holds Try.pinned (OpenSpec.upto hooksWhereSpec)

/-- 'tappetlaw19.HooksVersions', WHERE WHAT IT READS IS OF BULK AT MOST 1048576: true; the input reads as it did. -/
def hooksVersionsUptoRow : OpenClaim := { program := "ythemkcgifefjmaa", sum := "4fe6de0e707fd431fd31e6c23f25c4b59511ae138dbcba165517c60867356475", func := "tappet/tappetlaw19.HooksVersions", spec := "hooksVersions", apart := false, narrowed := true }
def HooksVersionsUptoSaid : Prop := hooksVersionsUptoRow.holds Try.pinned (OpenSpec.upto hooksVersionsSpec)

/-- 'tappetlaw19.HooksMany', WHERE WHAT IT READS IS OF BULK AT MOST 1048576: true; the input reads as it did. -/
def hooksManyUptoRow : OpenClaim := { program := "ythemkcgifefjmaa", sum := "4fe6de0e707fd431fd31e6c23f25c4b59511ae138dbcba165517c60867356475", func := "tappet/tappetlaw19.HooksMany", spec := "hooksMany", apart := false, narrowed := true }
def HooksManyUptoSaid : Prop := hooksManyUptoRow.holds Try.pinned (OpenSpec.upto hooksManySpec)

/-- 'tappetlaw19.HooksPlays', WHERE WHAT IT READS IS OF BULK AT MOST 1048576: true; the input reads as it did. -/
def hooksPlaysUptoRow : OpenClaim := { program := "ythemkcgifefjmaa", sum := "4fe6de0e707fd431fd31e6c23f25c4b59511ae138dbcba165517c60867356475", func := "tappet/tappetlaw19.HooksPlays", spec := "hooksPlays", apart := false, narrowed := true }
def HooksPlaysUptoSaid : Prop := hooksPlaysUptoRow.holds Try.pinned (OpenSpec.upto hooksPlaysSpec)

end Rows
end Go.Proofs.Ythemkcgifefjmaa
