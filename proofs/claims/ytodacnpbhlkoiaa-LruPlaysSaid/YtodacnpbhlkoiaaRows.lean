/-
  No cell of these rows narrows 'for every input' (looked for: loops, veiled, ifaces, maps, wideKeys, modest, calm, conditions, laid).
  DERIVED. THE GIVEN ROWS OF THIS SEAT. 4 by the template 'for every input the law returns true; each argument reads behind the call as it read before'; 0 by the template 'total and deterministic' (their statements: YtodacnpbhlkoiaaTotals.lean).
  GIVEN WITH THE SEED: the statements are not yours to turn. If you find one false, say at which input.
  Laid BY PROGRAM, IN A SANDBOX (cutbox-rows.mjs): the forced cells as the released guide's own fill.sh prints them over the translation 8a9ea28b447a8a24… (all of the seat's roots in one cut). By AI agents, Wed Nov 11 2026. No macro, syntax, notation, axiom, sorry.
-/
import Derived.Test.YtodacnpbhlkoiaaChecked
import GoSem.Claim
import GoSem.ClaimJoined
import GoSem.ClaimMapViews
import Derived.JoinedTies
import Derived.KernelRfl
namespace Go.Proofs.Ytodacnpbhlkoiaa
/- THE CELL 'sum', in the pinned program and in every row, IS THE sha256 OF THE DUMP (.gsa) THAT YtodacnpbhlkoiaaProg.lean LOADS. Nothing in Lean hashes anything: it is a label: what it is worth is what the hold of that sum in a sandbox is worth. -/
noncomputable def Try.pinned : Pinned := { name := "ytodacnpbhlkoiaa", sum := "8a9ea28b447a8a24f38dd71ed34007aed05762389e072112d469c3c09b3ebb5f", checked := Try.checked }
namespace Rows
def none {H : Type} : Left H := { results := [], args := [] }

/-- 'tappetlaw14.LruEvicts': WHATEVER THE INPUT: true; the input reads as it did. -/
def lruEvictsSpec : ChangeSpec := { name := "lruEvicts", fn := fun _ => fun
  | [d1, d2] => { results := [.lit (.bool true)], args := [d1, d2] }
  | _ => none }
def lruEvictsRow : OpenClaim := { program := "ytodacnpbhlkoiaa", sum := "8a9ea28b447a8a24f38dd71ed34007aed05762389e072112d469c3c09b3ebb5f", func := "tappet/tappetlaw14.LruEvicts", spec := "lruEvicts", inPlace := ["slices.overlaps[tappet/api.Pair]", "slices.overlaps[uint64]"], unfollowed := true, recurses := true, apart := false }
def LruEvictsSaid : Prop := lruEvictsRow.holds Try.pinned (OpenSpec.ofChange lruEvictsSpec)

/-- ITS FALSE NEIGHBOUR: 'it returns false'. Refute it at one input. -/
def lruEvictsWrong : ChangeSpec := { name := "lruEvicts", fn := fun _ => fun
  | [d1, d2] => { results := [.lit (.bool false)], args := [d1, d2] }
  | _ => none }
def LruEvictsWrongFalsely : Prop := lruEvictsRow.holds Try.pinned (OpenSpec.ofChange lruEvictsWrong)

/-- 'tappetlaw14.LruBook': WHATEVER THE INPUT: true; the input reads as it did. -/
def lruBookSpec : ChangeSpec := { name := "lruBook", fn := fun _ => fun
  | [d1, d2] => { results := [.lit (.bool true)], args := [d1, d2] }
  | _ => none }
def lruBookRow : OpenClaim := { program := "ytodacnpbhlkoiaa", sum := "8a9ea28b447a8a24f38dd71ed34007aed05762389e072112d469c3c09b3ebb5f", func := "tappet/tappetlaw14.LruBook", spec := "lruBook", inPlace := ["slices.overlaps[tappet/api.Pair]", "slices.overlaps[uint64]"], unfollowed := true, recurses := true, apart := false }
def LruBookSaid : Prop := lruBookRow.holds Try.pinned (OpenSpec.ofChange lruBookSpec)

/-- ITS FALSE NEIGHBOUR: 'it returns false'. Refute it at one input. -/
def lruBookWrong : ChangeSpec := { name := "lruBook", fn := fun _ => fun
  | [d1, d2] => { results := [.lit (.bool false)], args := [d1, d2] }
  | _ => none }
def LruBookWrongFalsely : Prop := lruBookRow.holds Try.pinned (OpenSpec.ofChange lruBookWrong)

/-- 'tappetlaw14.LruPlays': WHATEVER THE INPUT: true; the input reads as it did. -/
def lruPlaysSpec : ChangeSpec := { name := "lruPlays", fn := fun _ => fun
  | [d1, d2] => { results := [.lit (.bool true)], args := [d1, d2] }
  | _ => none }
def lruPlaysRow : OpenClaim := { program := "ytodacnpbhlkoiaa", sum := "8a9ea28b447a8a24f38dd71ed34007aed05762389e072112d469c3c09b3ebb5f", func := "tappet/tappetlaw14.LruPlays", spec := "lruPlays", inPlace := ["slices.overlaps[tappet/api.Pair]", "slices.overlaps[uint64]"], unfollowed := true, recurses := true, apart := false }
def LruPlaysSaid : Prop := lruPlaysRow.holds Try.pinned (OpenSpec.ofChange lruPlaysSpec)

/-- ITS FALSE NEIGHBOUR: 'it returns false'. Refute it at one input. -/
def lruPlaysWrong : ChangeSpec := { name := "lruPlays", fn := fun _ => fun
  | [d1, d2] => { results := [.lit (.bool false)], args := [d1, d2] }
  | _ => none }
def LruPlaysWrongFalsely : Prop := lruPlaysRow.holds Try.pinned (OpenSpec.ofChange lruPlaysWrong)

/-- 'tappetlaw14.LruFills': WHATEVER THE INPUT: true; the input reads as it did. -/
def lruFillsSpec : ChangeSpec := { name := "lruFills", fn := fun _ => fun
  | [d1, d2, d3] => { results := [.lit (.bool true)], args := [d1, d2, d3] }
  | _ => none }
def lruFillsRow : OpenClaim := { program := "ytodacnpbhlkoiaa", sum := "8a9ea28b447a8a24f38dd71ed34007aed05762389e072112d469c3c09b3ebb5f", func := "tappet/tappetlaw14.LruFills", spec := "lruFills", inPlace := ["slices.overlaps[tappet/api.Pair]", "slices.overlaps[uint64]"], unfollowed := true, recurses := true, apart := false }
def LruFillsSaid : Prop := lruFillsRow.holds Try.pinned (OpenSpec.ofChange lruFillsSpec)

/-- ITS FALSE NEIGHBOUR: 'it returns false'. Refute it at one input. -/
def lruFillsWrong : ChangeSpec := { name := "lruFills", fn := fun _ => fun
  | [d1, d2, d3] => { results := [.lit (.bool false)], args := [d1, d2, d3] }
  | _ => none }
def LruFillsWrongFalsely : Prop := lruFillsRow.holds Try.pinned (OpenSpec.ofChange lruFillsWrong)

/- THE SECOND FORM. 'bulk': how many values and letters a reading holds, each counted each time it is reached (what is shared counts as often as it is met; a slice's spare places count too). A statement '..UptoSaid' is the law's where the arguments, and the package variables that the reading takes, are together of bulk at most 1048576: NARROWER than '..Said'. Prove '..Said' where nothing that the law and all that it calls make is longer than what came in: it says more and counts as full. Else prove '..UptoSaid'. A law counts once. -/
mutual
def uptoBulk {H : Type} : DataW H → Nat
  | .lit (.string bytes) => bytes.length + 1
  | .lit _ => 1
  | .nil => 1
  | .ptr d => uptoBulk d + 1
  | .slice elems spare => uptoBulkAll elems + uptoBulkAll spare + 1
  | .agg parts => uptoBulkAll parts + 1
  | .iface _ d => uptoBulk d + 1
  | .map entries => uptoBulkEntries entries + 1
  | .held _ => 1
def uptoBulkAll {H : Type} : List (DataW H) → Nat
  | [] => 0
  | d :: r => uptoBulk d + uptoBulkAll r
def uptoBulkEntries {H : Type} : List (Lit × DataW H) → Nat
  | [] => 0
  | x :: r => uptoBulkEntry x + uptoBulkEntries r
def uptoBulkEntry {H : Type} : Lit × DataW H → Nat
  | (.string bytes, d) => bytes.length + uptoBulk d + 1
  | (_, d) => uptoBulk d + 1
 end
def uptoSmall : (H : Type) → List (DataW H) → Bool := fun _ ds => decide (uptoBulkAll ds ≤ 1048576)
def OpenSpec.upto (s : _root_.Go.ChangeSpec) : _root_.Go.OpenSpec := { _root_.Go.OpenSpec.ofChange s with cond := some uptoSmall }

/-- 'tappetlaw14.LruEvicts', WHERE WHAT IT READS IS OF BULK AT MOST 1048576: true; the input reads as it did. -/
def lruEvictsUptoRow : OpenClaim := { program := "ytodacnpbhlkoiaa", sum := "8a9ea28b447a8a24f38dd71ed34007aed05762389e072112d469c3c09b3ebb5f", func := "tappet/tappetlaw14.LruEvicts", spec := "lruEvicts", inPlace := ["slices.overlaps[tappet/api.Pair]", "slices.overlaps[uint64]"], unfollowed := true, recurses := true, apart := false, narrowed := true }
def LruEvictsUptoSaid : Prop := lruEvictsUptoRow.holds Try.pinned (OpenSpec.upto lruEvictsSpec)

/-- 'tappetlaw14.LruBook', WHERE WHAT IT READS IS OF BULK AT MOST 1048576: true; the input reads as it did. -/
def lruBookUptoRow : OpenClaim := { program := "ytodacnpbhlkoiaa", sum := "8a9ea28b447a8a24f38dd71ed34007aed05762389e072112d469c3c09b3ebb5f", func := "tappet/tappetlaw14.LruBook", spec := "lruBook", inPlace := ["slices.overlaps[tappet/api.Pair]", "slices.overlaps[uint64]"], unfollowed := true, recurses := true, apart := false, narrowed := true }
def LruBookUptoSaid : Prop := lruBookUptoRow.holds Try.pinned (OpenSpec.upto lruBookSpec)

/-- 'tappetlaw14.LruPlays', WHERE WHAT IT READS IS OF BULK AT MOST 1048576: true; the input reads as it did. -/
def lruPlaysUptoRow : OpenClaim := { program := "ytodacnpbhlkoiaa", sum := "8a9ea28b447a8a24f38dd71ed34007aed05762389e072112d469c3c09b3ebb5f", func := "tappet/tappetlaw14.LruPlays", spec := "lruPlays", inPlace := ["slices.overlaps[tappet/api.Pair]", "slices.overlaps[uint64]"], unfollowed := true, recurses := true, apart := false, narrowed := true }
def LruPlaysUptoSaid : Prop := lruPlaysUptoRow.holds Try.pinned (OpenSpec.upto lruPlaysSpec)

/-- 'tappetlaw14.LruFills', WHERE WHAT IT READS IS OF BULK AT MOST 1048576: true; the input reads as it did. -/
def lruFillsUptoRow : OpenClaim := { program := "ytodacnpbhlkoiaa", sum := "8a9ea28b447a8a24f38dd71ed34007aed05762389e072112d469c3c09b3ebb5f", func := "tappet/tappetlaw14.LruFills", spec := "lruFills", inPlace := ["slices.overlaps[tappet/api.Pair]", "slices.overlaps[uint64]"], unfollowed := true, recurses := true, apart := false, narrowed := true }
def LruFillsUptoSaid : Prop := lruFillsUptoRow.holds Try.pinned (OpenSpec.upto lruFillsSpec)

end Rows
end Go.Proofs.Ytodacnpbhlkoiaa
