/-
  No cell of these rows narrows 'for every input' (looked for: loops, veiled, ifaces, maps, wideKeys, modest, calm, conditions, laid).
  DERIVED. THE GIVEN ROWS OF THIS SEAT. 4 by the template 'for every input the law returns true; each argument reads behind the call as it read before'; 0 by the template 'total and deterministic' (their statements: YthppleegiieneaaTotals.lean).
  GIVEN WITH THE SEED: the statements are not yours to turn. If you find one false, say at which input.
  Laid BY PROGRAM, IN A SANDBOX (cutbox-rows.mjs): the forced cells as the released guide's own fill.sh prints them over the translation a13788cfef5ad1f0… (all of the seat's roots in one cut). By AI agents, Wed Nov 11 2026. No macro, syntax, notation, axiom, sorry.
-/
import Derived.Test.YthppleegiieneaaChecked
import GoSem.Claim
import GoSem.ClaimJoined
import GoSem.ClaimMapViews
import Derived.JoinedTies
import Derived.KernelRfl
namespace Go.Proofs.Ythppleegiieneaa
/- THE CELL 'sum', in the pinned program and in every row, IS THE sha256 OF THE DUMP (.gsa) THAT YthppleegiieneaaProg.lean LOADS. Nothing in Lean hashes anything: it is a label: what it is worth is what the hold of that sum in a sandbox is worth. -/
noncomputable def Try.pinned : Pinned := { name := "ythppleegiieneaa", sum := "a13788cfef5ad1f0e647246812bb6bf7003ce6debc8197fca5f258d95ef14102", checked := Try.checked }
namespace Rows
def none {H : Type} : Left H := { results := [], args := [] }

/-- 'tappetlaw15.CmapMakes': WHATEVER THE INPUT: true; the input reads as it did. -/
def cmapMakesSpec : ChangeSpec := { name := "cmapMakes", fn := fun _ => fun
  | [d1, d2] => { results := [.lit (.bool true)], args := [d1, d2] }
  | _ => none }
def cmapMakesRow : OpenClaim := { program := "ythppleegiieneaa", sum := "a13788cfef5ad1f0e647246812bb6bf7003ce6debc8197fca5f258d95ef14102", func := "tappet/tappetlaw15.CmapMakes", spec := "cmapMakes", unfollowed := true, recurses := true, apart := false }
def CmapMakesSaid : Prop := cmapMakesRow.holds Try.pinned (OpenSpec.ofChange cmapMakesSpec)

/-- ITS FALSE NEIGHBOUR: 'it returns false'. Refute it at one input. -/
def cmapMakesWrong : ChangeSpec := { name := "cmapMakes", fn := fun _ => fun
  | [d1, d2] => { results := [.lit (.bool false)], args := [d1, d2] }
  | _ => none }
def CmapMakesWrongFalsely : Prop := cmapMakesRow.holds Try.pinned (OpenSpec.ofChange cmapMakesWrong)

/-- 'tappetlaw15.CmapParts': WHATEVER THE INPUT: true; the input reads as it did. -/
def cmapPartsSpec : ChangeSpec := { name := "cmapParts", fn := fun _ => fun
  | [d1, d2, d3] => { results := [.lit (.bool true)], args := [d1, d2, d3] }
  | _ => none }
def cmapPartsRow : OpenClaim := { program := "ythppleegiieneaa", sum := "a13788cfef5ad1f0e647246812bb6bf7003ce6debc8197fca5f258d95ef14102", func := "tappet/tappetlaw15.CmapParts", spec := "cmapParts", unfollowed := true, recurses := true, apart := false }
def CmapPartsSaid : Prop := cmapPartsRow.holds Try.pinned (OpenSpec.ofChange cmapPartsSpec)

/-- ITS FALSE NEIGHBOUR: 'it returns false'. Refute it at one input. -/
def cmapPartsWrong : ChangeSpec := { name := "cmapParts", fn := fun _ => fun
  | [d1, d2, d3] => { results := [.lit (.bool false)], args := [d1, d2, d3] }
  | _ => none }
def CmapPartsWrongFalsely : Prop := cmapPartsRow.holds Try.pinned (OpenSpec.ofChange cmapPartsWrong)

/-- 'tappetlaw15.CmapPlays': WHATEVER THE INPUT: true; the input reads as it did. -/
def cmapPlaysSpec : ChangeSpec := { name := "cmapPlays", fn := fun _ => fun
  | [d1, d2, d3] => { results := [.lit (.bool true)], args := [d1, d2, d3] }
  | _ => none }
def cmapPlaysRow : OpenClaim := { program := "ythppleegiieneaa", sum := "a13788cfef5ad1f0e647246812bb6bf7003ce6debc8197fca5f258d95ef14102", func := "tappet/tappetlaw15.CmapPlays", spec := "cmapPlays", unfollowed := true, recurses := true, apart := false }
def CmapPlaysSaid : Prop := cmapPlaysRow.holds Try.pinned (OpenSpec.ofChange cmapPlaysSpec)

/-- ITS FALSE NEIGHBOUR: 'it returns false'. Refute it at one input. -/
def cmapPlaysWrong : ChangeSpec := { name := "cmapPlays", fn := fun _ => fun
  | [d1, d2, d3] => { results := [.lit (.bool false)], args := [d1, d2, d3] }
  | _ => none }
def CmapPlaysWrongFalsely : Prop := cmapPlaysRow.holds Try.pinned (OpenSpec.ofChange cmapPlaysWrong)

/-- 'tappetlaw15.CmapBatches': WHATEVER THE INPUT: true; the input reads as it did. -/
def cmapBatchesSpec : ChangeSpec := { name := "cmapBatches", fn := fun _ => fun
  | [d1, d2, d3] => { results := [.lit (.bool true)], args := [d1, d2, d3] }
  | _ => none }
def cmapBatchesRow : OpenClaim := { program := "ythppleegiieneaa", sum := "a13788cfef5ad1f0e647246812bb6bf7003ce6debc8197fca5f258d95ef14102", func := "tappet/tappetlaw15.CmapBatches", spec := "cmapBatches", unfollowed := true, recurses := true, apart := false }
def CmapBatchesSaid : Prop := cmapBatchesRow.holds Try.pinned (OpenSpec.ofChange cmapBatchesSpec)

/-- ITS FALSE NEIGHBOUR: 'it returns false'. Refute it at one input. -/
def cmapBatchesWrong : ChangeSpec := { name := "cmapBatches", fn := fun _ => fun
  | [d1, d2, d3] => { results := [.lit (.bool false)], args := [d1, d2, d3] }
  | _ => none }
def CmapBatchesWrongFalsely : Prop := cmapBatchesRow.holds Try.pinned (OpenSpec.ofChange cmapBatchesWrong)

/- THE SECOND FORM. 'bulk': how many values and letters a reading holds, each counted each time it is reached (what is shared counts as often as it is met; a slice's spare places count too). A statement '..UptoSaid' is the law's where the arguments, and the package variables that the reading takes, are together of bulk at most 1048576: NARROWER than '..Said'. Prove '..Said' where nothing that the law and all that it calls make is longer than what came in: it says more and counts as full. Else prove '..UptoSaid'. A law counts once. -/
mutual
def uptoBulk {H : Type} : DataW H → Nat
  | .lit (.string bytes) => bytes.length + 1
  | .lit _ => 1
  | .nil => 1
  | .ptr d => uptoBulk d + 1
  | .slice elems spare => uptoBulkAll elems + uptoBulkAll spare + 1
  | .agg parts => uptoBulkAll parts + 1
  | .iface _ d => uptoBulk d + 1
  | .map entries => uptoBulkEntries entries + 1
  | .held _ => 1
def uptoBulkAll {H : Type} : List (DataW H) → Nat
  | [] => 0
  | d :: r => uptoBulk d + uptoBulkAll r
def uptoBulkEntries {H : Type} : List (Lit × DataW H) → Nat
  | [] => 0
  | x :: r => uptoBulkEntry x + uptoBulkEntries r
def uptoBulkEntry {H : Type} : Lit × DataW H → Nat
  | (.string bytes, d) => bytes.length + uptoBulk d + 1
  | (_, d) => uptoBulk d + 1
 end
def uptoSmall : (H : Type) → List (DataW H) → Bool := fun _ ds => decide (uptoBulkAll ds ≤ 1048576)
def OpenSpec.upto (s : _root_.Go.ChangeSpec) : _root_.Go.OpenSpec := { _root_.Go.OpenSpec.ofChange s with cond := some uptoSmall }

/-- 'tappetlaw15.CmapMakes', WHERE WHAT IT READS IS OF BULK AT MOST 1048576: true; the input reads as it did. -/
def cmapMakesUptoRow : OpenClaim := { program := "ythppleegiieneaa", sum := "a13788cfef5ad1f0e647246812bb6bf7003ce6debc8197fca5f258d95ef14102", func := "tappet/tappetlaw15.CmapMakes", spec := "cmapMakes", unfollowed := true, recurses := true, apart := false, narrowed := true }
def CmapMakesUptoSaid : Prop := cmapMakesUptoRow.holds Try.pinned (OpenSpec.upto cmapMakesSpec)

/-- 'tappetlaw15.CmapParts', WHERE WHAT IT READS IS OF BULK AT MOST 1048576: true; the input reads as it did. -/
def cmapPartsUptoRow : OpenClaim := { program := "ythppleegiieneaa", sum := "a13788cfef5ad1f0e647246812bb6bf7003ce6debc8197fca5f258d95ef14102", func := "tappet/tappetlaw15.CmapParts", spec := "cmapParts", unfollowed := true, recurses := true, apart := false, narrowed := true }
def CmapPartsUptoSaid : Prop := cmapPartsUptoRow.holds Try.pinned (OpenSpec.upto cmapPartsSpec)

/-- 'tappetlaw15.CmapPlays', WHERE WHAT IT READS IS OF BULK AT MOST 1048576: true; the input reads as it did. -/
def cmapPlaysUptoRow : OpenClaim := { program := "ythppleegiieneaa", sum := "a13788cfef5ad1f0e647246812bb6bf7003ce6debc8197fca5f258d95ef14102", func := "tappet/tappetlaw15.CmapPlays", spec := "cmapPlays", unfollowed := true, recurses := true, apart := false, narrowed := true }
def CmapPlaysUptoSaid : Prop := cmapPlaysUptoRow.holds Try.pinned (OpenSpec.upto cmapPlaysSpec)

/-- 'tappetlaw15.CmapBatches', WHERE WHAT IT READS IS OF BULK AT MOST 1048576: true; the input reads as it did. -/
def cmapBatchesUptoRow : OpenClaim := { program := "ythppleegiieneaa", sum := "a13788cfef5ad1f0e647246812bb6bf7003ce6debc8197fca5f258d95ef14102", func := "tappet/tappetlaw15.CmapBatches", spec := "cmapBatches", unfollowed := true, recurses := true, apart := false, narrowed := true }
def CmapBatchesUptoSaid : Prop := cmapBatchesUptoRow.holds Try.pinned (OpenSpec.upto cmapBatchesSpec)

end Rows
end Go.Proofs.Ythppleegiieneaa
