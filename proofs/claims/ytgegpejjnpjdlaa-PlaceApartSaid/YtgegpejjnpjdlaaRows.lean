/-
  No cell of these rows narrows 'for every input' (looked for: loops, veiled, ifaces, maps, wideKeys, modest, calm, conditions, laid).
  DERIVED. THE GIVEN ROWS OF THIS SEAT. 4 by the template 'for every input the law returns true; each argument reads behind the call as it read before'; 0 by the template 'total and deterministic' (their statements: YtgegpejjnpjdlaaTotals.lean).
  GIVEN WITH THE SEED: the statements are not yours to turn. If you find one false, say at which input.
  Laid BY PROGRAM, IN A SANDBOX (cutbox-rows.mjs): the forced cells as the released guide's own fill.sh prints them over the translation 4e694f9ae41c2764… (all of the seat's roots in one cut). By AI agents, Wed Nov 11 2026. No macro, syntax, notation, axiom, sorry.
-/
import Derived.Test.YtgegpejjnpjdlaaChecked
import GoSem.Claim
import GoSem.ClaimJoined
import GoSem.ClaimMapViews
import Derived.JoinedTies
import Derived.KernelRfl
namespace Go.Proofs.Ytgegpejjnpjdlaa
/- THE CELL 'sum', in the pinned program and in every row, IS THE sha256 OF THE DUMP (.gsa) THAT YtgegpejjnpjdlaaProg.lean LOADS. Nothing in Lean hashes anything: it is a label: what it is worth is what the hold of that sum in a sandbox is worth. -/
noncomputable def Try.pinned : Pinned := { name := "ytgegpejjnpjdlaa", sum := "4e694f9ae41c276481bbe3ec1586517f8cacc65c18a81ce7b9bc2f73dde6ed88", checked := Try.checked }
namespace Rows
def none {H : Type} : Left H := { results := [], args := [] }

/-- 'tappetlaw12.PlaceOf': WHATEVER THE INPUT: true; the input reads as it did. -/
def placeOfSpec : ChangeSpec := { name := "placeOf", fn := fun _ => fun
  | [d1, d2] => { results := [.lit (.bool true)], args := [d1, d2] }
  | _ => none }
def placeOfRow : OpenClaim := { program := "ytgegpejjnpjdlaa", sum := "4e694f9ae41c276481bbe3ec1586517f8cacc65c18a81ce7b9bc2f73dde6ed88", func := "tappet/tappetlaw12.PlaceOf", spec := "placeOf", apart := false }
def PlaceOfSaid : Prop := placeOfRow.holds Try.pinned (OpenSpec.ofChange placeOfSpec)

/-- ITS FALSE NEIGHBOUR: 'it returns false'. Refute it at one input. -/
def placeOfWrong : ChangeSpec := { name := "placeOf", fn := fun _ => fun
  | [d1, d2] => { results := [.lit (.bool false)], args := [d1, d2] }
  | _ => none }
def PlaceOfWrongFalsely : Prop := placeOfRow.holds Try.pinned (OpenSpec.ofChange placeOfWrong)

/-- 'tappetlaw12.PlaceJoins': WHATEVER THE INPUT: true; the input reads as it did. -/
def placeJoinsSpec : ChangeSpec := { name := "placeJoins", fn := fun _ => fun
  | [d1, d2, d3] => { results := [.lit (.bool true)], args := [d1, d2, d3] }
  | _ => none }
def placeJoinsRow : OpenClaim := { program := "ytgegpejjnpjdlaa", sum := "4e694f9ae41c276481bbe3ec1586517f8cacc65c18a81ce7b9bc2f73dde6ed88", func := "tappet/tappetlaw12.PlaceJoins", spec := "placeJoins", apart := false }
def PlaceJoinsSaid : Prop := placeJoinsRow.holds Try.pinned (OpenSpec.ofChange placeJoinsSpec)

/-- ITS FALSE NEIGHBOUR: 'it returns false'. Refute it at one input. -/
def placeJoinsWrong : ChangeSpec := { name := "placeJoins", fn := fun _ => fun
  | [d1, d2, d3] => { results := [.lit (.bool false)], args := [d1, d2, d3] }
  | _ => none }
def PlaceJoinsWrongFalsely : Prop := placeJoinsRow.holds Try.pinned (OpenSpec.ofChange placeJoinsWrong)

/-- 'tappetlaw12.PlaceSplits': WHATEVER THE INPUT: true; the input reads as it did. -/
def placeSplitsSpec : ChangeSpec := { name := "placeSplits", fn := fun _ => fun
  | [d1, d2, d3] => { results := [.lit (.bool true)], args := [d1, d2, d3] }
  | _ => none }
def placeSplitsRow : OpenClaim := { program := "ytgegpejjnpjdlaa", sum := "4e694f9ae41c276481bbe3ec1586517f8cacc65c18a81ce7b9bc2f73dde6ed88", func := "tappet/tappetlaw12.PlaceSplits", spec := "placeSplits", apart := false }
def PlaceSplitsSaid : Prop := placeSplitsRow.holds Try.pinned (OpenSpec.ofChange placeSplitsSpec)

/-- ITS FALSE NEIGHBOUR: 'it returns false'. Refute it at one input. -/
def placeSplitsWrong : ChangeSpec := { name := "placeSplits", fn := fun _ => fun
  | [d1, d2, d3] => { results := [.lit (.bool false)], args := [d1, d2, d3] }
  | _ => none }
def PlaceSplitsWrongFalsely : Prop := placeSplitsRow.holds Try.pinned (OpenSpec.ofChange placeSplitsWrong)

/-- 'tappetlaw12.PlaceApart': WHATEVER THE INPUT: true; the input reads as it did. -/
def placeApartSpec : ChangeSpec := { name := "placeApart", fn := fun _ => fun
  | [d1, d2] => { results := [.lit (.bool true)], args := [d1, d2] }
  | _ => none }
def placeApartRow : OpenClaim := { program := "ytgegpejjnpjdlaa", sum := "4e694f9ae41c276481bbe3ec1586517f8cacc65c18a81ce7b9bc2f73dde6ed88", func := "tappet/tappetlaw12.PlaceApart", spec := "placeApart", apart := false }
def PlaceApartSaid : Prop := placeApartRow.holds Try.pinned (OpenSpec.ofChange placeApartSpec)

/-- ITS FALSE NEIGHBOUR: 'it returns false'. Refute it at one input. -/
def placeApartWrong : ChangeSpec := { name := "placeApart", fn := fun _ => fun
  | [d1, d2] => { results := [.lit (.bool false)], args := [d1, d2] }
  | _ => none }
def PlaceApartWrongFalsely : Prop := placeApartRow.holds Try.pinned (OpenSpec.ofChange placeApartWrong)

/- THE SECOND FORM. 'bulk': how many values and letters a reading holds, each counted each time it is reached (what is shared counts as often as it is met; a slice's spare places count too). A statement '..UptoSaid' is the law's where the arguments, and the package variables that the reading takes, are together of bulk at most 1048576: NARROWER than '..Said'. Prove '..Said' where nothing that the law and all that it calls make is longer than what came in: it says more and counts as full. Else prove '..UptoSaid'. A law counts once. -/
mutual
def uptoBulk {H : Type} : DataW H → Nat
  | .lit (.string bytes) => bytes.length + 1
  | .lit _ => 1
  | .nil => 1
  | .ptr d => uptoBulk d + 1
  | .slice elems spare => uptoBulkAll elems + uptoBulkAll spare + 1
  | .agg parts => uptoBulkAll parts + 1
  | .iface _ d => uptoBulk d + 1
  | .map entries => uptoBulkEntries entries + 1
  | .held _ => 1
def uptoBulkAll {H : Type} : List (DataW H) → Nat
  | [] => 0
  | d :: r => uptoBulk d + uptoBulkAll r
def uptoBulkEntries {H : Type} : List (Lit × DataW H) → Nat
  | [] => 0
  | x :: r => uptoBulkEntry x + uptoBulkEntries r
def uptoBulkEntry {H : Type} : Lit × DataW H → Nat
  | (.string bytes, d) => bytes.length + uptoBulk d + 1
  | (_, d) => uptoBulk d + 1
 end
def uptoSmall : (H : Type) → List (DataW H) → Bool := fun _ ds => decide (uptoBulkAll ds ≤ 1048576)
def OpenSpec.upto (s : _root_.Go.ChangeSpec) : _root_.Go.OpenSpec := { _root_.Go.OpenSpec.ofChange s with cond := some uptoSmall }

/-- 'tappetlaw12.PlaceOf', WHERE WHAT IT READS IS OF BULK AT MOST 1048576: true; the input reads as it did. -/
def placeOfUptoRow : OpenClaim := { program := "ytgegpejjnpjdlaa", sum := "4e694f9ae41c276481bbe3ec1586517f8cacc65c18a81ce7b9bc2f73dde6ed88", func := "tappet/tappetlaw12.PlaceOf", spec := "placeOf", apart := false, narrowed := true }
def PlaceOfUptoSaid : Prop := placeOfUptoRow.holds Try.pinned (OpenSpec.upto placeOfSpec)

/-- 'tappetlaw12.PlaceJoins', WHERE WHAT IT READS IS OF BULK AT MOST 1048576: true; the input reads as it did. -/
def placeJoinsUptoRow : OpenClaim := { program := "ytgegpejjnpjdlaa", sum := "4e694f9ae41c276481bbe3ec1586517f8cacc65c18a81ce7b9bc2f73dde6ed88", func := "tappet/tappetlaw12.PlaceJoins", spec := "placeJoins", apart := false, narrowed := true }
def PlaceJoinsUptoSaid : Prop := placeJoinsUptoRow.holds Try.pinned (OpenSpec.upto placeJoinsSpec)

/-- 'tappetlaw12.PlaceSplits', WHERE WHAT IT READS IS OF BULK AT MOST 1048576: true; the input reads as it did. -/
def placeSplitsUptoRow : OpenClaim := { program := "ytgegpejjnpjdlaa", sum := "4e694f9ae41c276481bbe3ec1586517f8cacc65c18a81ce7b9bc2f73dde6ed88", func := "tappet/tappetlaw12.PlaceSplits", spec := "placeSplits", apart := false, narrowed := true }
def PlaceSplitsUptoSaid : Prop := placeSplitsUptoRow.holds Try.pinned (OpenSpec.upto placeSplitsSpec)

/-- 'tappetlaw12.PlaceApart', WHERE WHAT IT READS IS OF BULK AT MOST 1048576: true; the input reads as it did. -/
def placeApartUptoRow : OpenClaim := { program := "ytgegpejjnpjdlaa", sum := "4e694f9ae41c276481bbe3ec1586517f8cacc65c18a81ce7b9bc2f73dde6ed88", func := "tappet/tappetlaw12.PlaceApart", spec := "placeApart", apart := false, narrowed := true }
def PlaceApartUptoSaid : Prop := placeApartUptoRow.holds Try.pinned (OpenSpec.upto placeApartSpec)

end Rows
end Go.Proofs.Ytgegpejjnpjdlaa
