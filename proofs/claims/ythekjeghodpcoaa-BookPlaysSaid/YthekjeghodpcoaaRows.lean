/-
  No cell of these rows narrows 'for every input' (looked for: loops, veiled, ifaces, maps, wideKeys, modest, calm, conditions, laid).
  DERIVED. THE GIVEN ROWS OF THIS SEAT. 4 by the template 'for every input the law returns true; each argument reads behind the call as it read before'; 0 by the template 'total and deterministic' (their statements: YthekjeghodpcoaaTotals.lean).
  GIVEN WITH THE SEED: the statements are not yours to turn. If you find one false, say at which input.
  Laid BY PROGRAM, IN A SANDBOX (cutbox-rows.mjs): the forced cells as the released guide's own fill.sh prints them over the translation e471887bdb7ee8a4… (all of the seat's roots in one cut). By AI agents, Wed Nov 11 2026. No macro, syntax, notation, axiom, sorry.
-/
import Derived.Test.YthekjeghodpcoaaChecked
import GoSem.Claim
import GoSem.ClaimJoined
import GoSem.ClaimMapViews
import Derived.JoinedTies
import Derived.KernelRfl
namespace Go.Proofs.Ythekjeghodpcoaa
/- THE CELL 'sum', in the pinned program and in every row, IS THE sha256 OF THE DUMP (.gsa) THAT YthekjeghodpcoaaProg.lean LOADS. Nothing in Lean hashes anything: it is a label: what it is worth is what the hold of that sum in a sandbox is worth. -/
noncomputable def Try.pinned : Pinned := { name := "ythekjeghodpcoaa", sum := "e471887bdb7ee8a4c18cdd6857aea29b1751dd3d0d0a085a0cac6c72ba8c556c", checked := Try.checked }
namespace Rows
def none {H : Type} : Left H := { results := [], args := [] }

/-- 'tappetlaw13.BookLaws': WHATEVER THE INPUT: true; the input reads as it did. -/
def bookLawsSpec : ChangeSpec := { name := "bookLaws", fn := fun _ => fun
  | [d1, d2, d3] => { results := [.lit (.bool true)], args := [d1, d2, d3] }
  | _ => none }
def bookLawsRow : OpenClaim := { program := "ythekjeghodpcoaa", sum := "e471887bdb7ee8a4c18cdd6857aea29b1751dd3d0d0a085a0cac6c72ba8c556c", func := "tappet/tappetlaw13.BookLaws", spec := "bookLaws", inPlace := ["slices.overlaps[tappet/api.Pair]"], unfollowed := true, recurses := true, apart := false }
def BookLawsSaid : Prop := bookLawsRow.holds Try.pinned (OpenSpec.ofChange bookLawsSpec)

/-- ITS FALSE NEIGHBOUR: 'it returns false'. Refute it at one input. -/
def bookLawsWrong : ChangeSpec := { name := "bookLaws", fn := fun _ => fun
  | [d1, d2, d3] => { results := [.lit (.bool false)], args := [d1, d2, d3] }
  | _ => none }
def BookLawsWrongFalsely : Prop := bookLawsRow.holds Try.pinned (OpenSpec.ofChange bookLawsWrong)

/-- 'tappetlaw13.BookPlays': WHATEVER THE INPUT: true; the input reads as it did. -/
def bookPlaysSpec : ChangeSpec := { name := "bookPlays", fn := fun _ => fun
  | [d1, d2] => { results := [.lit (.bool true)], args := [d1, d2] }
  | _ => none }
def bookPlaysRow : OpenClaim := { program := "ythekjeghodpcoaa", sum := "e471887bdb7ee8a4c18cdd6857aea29b1751dd3d0d0a085a0cac6c72ba8c556c", func := "tappet/tappetlaw13.BookPlays", spec := "bookPlays", inPlace := ["slices.overlaps[tappet/api.Pair]"], unfollowed := true, recurses := true, apart := false }
def BookPlaysSaid : Prop := bookPlaysRow.holds Try.pinned (OpenSpec.ofChange bookPlaysSpec)

/-- ITS FALSE NEIGHBOUR: 'it returns false'. Refute it at one input. -/
def bookPlaysWrong : ChangeSpec := { name := "bookPlays", fn := fun _ => fun
  | [d1, d2] => { results := [.lit (.bool false)], args := [d1, d2] }
  | _ => none }
def BookPlaysWrongFalsely : Prop := bookPlaysRow.holds Try.pinned (OpenSpec.ofChange bookPlaysWrong)

/-- 'tappetlaw13.BookFills': WHATEVER THE INPUT: true; the input reads as it did. -/
def bookFillsSpec : ChangeSpec := { name := "bookFills", fn := fun _ => fun
  | [d1, d2] => { results := [.lit (.bool true)], args := [d1, d2] }
  | _ => none }
def bookFillsRow : OpenClaim := { program := "ythekjeghodpcoaa", sum := "e471887bdb7ee8a4c18cdd6857aea29b1751dd3d0d0a085a0cac6c72ba8c556c", func := "tappet/tappetlaw13.BookFills", spec := "bookFills", inPlace := ["slices.overlaps[tappet/api.Pair]"], unfollowed := true, recurses := true, apart := false }
def BookFillsSaid : Prop := bookFillsRow.holds Try.pinned (OpenSpec.ofChange bookFillsSpec)

/-- ITS FALSE NEIGHBOUR: 'it returns false'. Refute it at one input. -/
def bookFillsWrong : ChangeSpec := { name := "bookFills", fn := fun _ => fun
  | [d1, d2] => { results := [.lit (.bool false)], args := [d1, d2] }
  | _ => none }
def BookFillsWrongFalsely : Prop := bookFillsRow.holds Try.pinned (OpenSpec.ofChange bookFillsWrong)

/-- 'tappetlaw13.BookOrder': WHATEVER THE INPUT: true; the input reads as it did. -/
def bookOrderSpec : ChangeSpec := { name := "bookOrder", fn := fun _ => fun
  | [d] => { results := [.lit (.bool true)], args := [d] }
  | _ => none }
def bookOrderRow : OpenClaim := { program := "ythekjeghodpcoaa", sum := "e471887bdb7ee8a4c18cdd6857aea29b1751dd3d0d0a085a0cac6c72ba8c556c", func := "tappet/tappetlaw13.BookOrder", spec := "bookOrder", inPlace := ["slices.overlaps[tappet/api.Pair]"], unfollowed := true, recurses := true, apart := false }
def BookOrderSaid : Prop := bookOrderRow.holds Try.pinned (OpenSpec.ofChange bookOrderSpec)

/-- ITS FALSE NEIGHBOUR: 'it returns false'. Refute it at one input. -/
def bookOrderWrong : ChangeSpec := { name := "bookOrder", fn := fun _ => fun
  | [d] => { results := [.lit (.bool false)], args := [d] }
  | _ => none }
def BookOrderWrongFalsely : Prop := bookOrderRow.holds Try.pinned (OpenSpec.ofChange bookOrderWrong)

/- THE SECOND FORM. 'bulk': how many values and letters a reading holds, each counted each time it is reached (what is shared counts as often as it is met; a slice's spare places count too). A statement '..UptoSaid' is the law's where the arguments, and the package variables that the reading takes, are together of bulk at most 1048576: NARROWER than '..Said'. Prove '..Said' where nothing that the law and all that it calls make is longer than what came in: it says more and counts as full. Else prove '..UptoSaid'. A law counts once. -/
mutual
def uptoBulk {H : Type} : DataW H → Nat
  | .lit (.string bytes) => bytes.length + 1
  | .lit _ => 1
  | .nil => 1
  | .ptr d => uptoBulk d + 1
  | .slice elems spare => uptoBulkAll elems + uptoBulkAll spare + 1
  | .agg parts => uptoBulkAll parts + 1
  | .iface _ d => uptoBulk d + 1
  | .map entries => uptoBulkEntries entries + 1
  | .held _ => 1
def uptoBulkAll {H : Type} : List (DataW H) → Nat
  | [] => 0
  | d :: r => uptoBulk d + uptoBulkAll r
def uptoBulkEntries {H : Type} : List (Lit × DataW H) → Nat
  | [] => 0
  | x :: r => uptoBulkEntry x + uptoBulkEntries r
def uptoBulkEntry {H : Type} : Lit × DataW H → Nat
  | (.string bytes, d) => bytes.length + uptoBulk d + 1
  | (_, d) => uptoBulk d + 1
 end
def uptoSmall : (H : Type) → List (DataW H) → Bool := fun _ ds => decide (uptoBulkAll ds ≤ 1048576)
def OpenSpec.upto (s : _root_.Go.ChangeSpec) : _root_.Go.OpenSpec := { _root_.Go.OpenSpec.ofChange s with cond := some uptoSmall }

/-- 'tappetlaw13.BookLaws', WHERE WHAT IT READS IS OF BULK AT MOST 1048576: true; the input reads as it did. -/
def bookLawsUptoRow : OpenClaim := { program := "ythekjeghodpcoaa", sum := "e471887bdb7ee8a4c18cdd6857aea29b1751dd3d0d0a085a0cac6c72ba8c556c", func := "tappet/tappetlaw13.BookLaws", spec := "bookLaws", inPlace := ["slices.overlaps[tappet/api.Pair]"], unfollowed := true, recurses := true, apart := false, narrowed := true }
def BookLawsUptoSaid : Prop := bookLawsUptoRow.holds Try.pinned (OpenSpec.upto bookLawsSpec)

/-- 'tappetlaw13.BookPlays', WHERE WHAT IT READS IS OF BULK AT MOST 1048576: true; the input reads as it did. -/
def bookPlaysUptoRow : OpenClaim := { program := "ythekjeghodpcoaa", sum := "e471887bdb7ee8a4c18cdd6857aea29b1751dd3d0d0a085a0cac6c72ba8c556c", func := "tappet/tappetlaw13.BookPlays", spec := "bookPlays", inPlace := ["slices.overlaps[tappet/api.Pair]"], unfollowed := true, recurses := true, apart := false, narrowed := true }
def BookPlaysUptoSaid : Prop := bookPlaysUptoRow.holds Try.pinned (OpenSpec.upto bookPlaysSpec)

/-- 'tappetlaw13.BookFills', WHERE WHAT IT READS IS OF BULK AT MOST 1048576: true; the input reads as it did. -/
def bookFillsUptoRow : OpenClaim := { program := "ythekjeghodpcoaa", sum := "e471887bdb7ee8a4c18cdd6857aea29b1751dd3d0d0a085a0cac6c72ba8c556c", func := "tappet/tappetlaw13.BookFills", spec := "bookFills", inPlace := ["slices.overlaps[tappet/api.Pair]"], unfollowed := true, recurses := true, apart := false, narrowed := true }
def BookFillsUptoSaid : Prop := bookFillsUptoRow.holds Try.pinned (OpenSpec.upto bookFillsSpec)

/-- 'tappetlaw13.BookOrder', WHERE WHAT IT READS IS OF BULK AT MOST 1048576: true; the input reads as it did. -/
def bookOrderUptoRow : OpenClaim := { program := "ythekjeghodpcoaa", sum := "e471887bdb7ee8a4c18cdd6857aea29b1751dd3d0d0a085a0cac6c72ba8c556c", func := "tappet/tappetlaw13.BookOrder", spec := "bookOrder", inPlace := ["slices.overlaps[tappet/api.Pair]"], unfollowed := true, recurses := true, apart := false, narrowed := true }
def BookOrderUptoSaid : Prop := bookOrderUptoRow.holds Try.pinned (OpenSpec.upto bookOrderSpec)

end Rows
end Go.Proofs.Ythekjeghodpcoaa
