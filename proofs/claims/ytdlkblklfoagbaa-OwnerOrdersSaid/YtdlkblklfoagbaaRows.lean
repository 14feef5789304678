/-
  No cell of these rows narrows 'for every input' (looked for: loops, veiled, ifaces, maps, wideKeys, modest, calm, conditions, laid).
  DERIVED. THE GIVEN ROWS OF THIS SEAT. 4 by the template 'for every input the law returns true; each argument reads behind the call as it read before'; 0 by the template 'total and deterministic' (their statements: YtdlkblklfoagbaaTotals.lean).
  GIVEN WITH THE SEED: the statements are not yours to turn. If you find one false, say at which input.
  Laid BY PROGRAM, IN A SANDBOX (cutbox-rows.mjs): the forced cells as the released guide's own fill.sh prints them over the translation c92fbd360b01e7ba… (all of the seat's roots in one cut). By AI agents, Wed Nov 11 2026. No macro, syntax, notation, axiom, sorry.
-/
import Derived.Test.YtdlkblklfoagbaaChecked
import GoSem.Claim
import GoSem.ClaimJoined
import GoSem.ClaimMapViews
import Derived.JoinedTies
import Derived.KernelRfl
namespace Go.Proofs.Ytdlkblklfoagbaa
/- THE CELL 'sum', in the pinned program and in every row, IS THE sha256 OF THE DUMP (.gsa) THAT YtdlkblklfoagbaaProg.lean LOADS. Nothing in Lean hashes anything: it is a label: what it is worth is what the hold of that sum in a sandbox is worth. -/
noncomputable def Try.pinned : Pinned := { name := "ytdlkblklfoagbaa", sum := "c92fbd360b01e7babde0017f544fcc26e89508871f072cbfbe68d5c93aa3ea08", checked := Try.checked }
namespace Rows
def none {H : Type} : Left H := { results := [], args := [] }

/-- 'tappetlaw22.OwnerFresh': WHATEVER THE INPUT: true; the input reads as it did. -/
def ownerFreshSpec : ChangeSpec := { name := "ownerFresh", fn := fun _ => fun
  | [d1, d2] => { results := [.lit (.bool true)], args := [d1, d2] }
  | _ => none }
def ownerFreshRow : OpenClaim := { program := "ytdlkblklfoagbaa", sum := "c92fbd360b01e7babde0017f544fcc26e89508871f072cbfbe68d5c93aa3ea08", func := "tappet/tappetlaw22.OwnerFresh", spec := "ownerFresh", unfollowed := true, recurses := true, apart := false }
def OwnerFreshSaid : Prop := ownerFreshRow.holds Try.pinned (OpenSpec.ofChange ownerFreshSpec)

/-- ITS FALSE NEIGHBOUR: 'it returns false'. Refute it at one input. -/
def ownerFreshWrong : ChangeSpec := { name := "ownerFresh", fn := fun _ => fun
  | [d1, d2] => { results := [.lit (.bool false)], args := [d1, d2] }
  | _ => none }
def OwnerFreshWrongFalsely : Prop := ownerFreshRow.holds Try.pinned (OpenSpec.ofChange ownerFreshWrong)

/-- 'tappetlaw22.OwnerMany': WHATEVER THE INPUT: true; the input reads as it did. -/
def ownerManySpec : ChangeSpec := { name := "ownerMany", fn := fun _ => fun
  | [d1, d2] => { results := [.lit (.bool true)], args := [d1, d2] }
  | _ => none }
def ownerManyRow : OpenClaim := { program := "ytdlkblklfoagbaa", sum := "c92fbd360b01e7babde0017f544fcc26e89508871f072cbfbe68d5c93aa3ea08", func := "tappet/tappetlaw22.OwnerMany", spec := "ownerMany", unfollowed := true, recurses := true, apart := false }
def OwnerManySaid : Prop := ownerManyRow.holds Try.pinned (OpenSpec.ofChange ownerManySpec)

/-- ITS FALSE NEIGHBOUR: 'it returns false'. Refute it at one input. -/
def ownerManyWrong : ChangeSpec := { name := "ownerMany", fn := fun _ => fun
  | [d1, d2] => { results := [.lit (.bool false)], args := [d1, d2] }
  | _ => none }
def OwnerManyWrongFalsely : Prop := ownerManyRow.holds Try.pinned (OpenSpec.ofChange ownerManyWrong)

/-- 'tappetlaw22.OwnerPlays': WHATEVER THE INPUT: true; the input reads as it did. -/
def ownerPlaysSpec : ChangeSpec := { name := "ownerPlays", fn := fun _ => fun
  | [d1, d2] => { results := [.lit (.bool true)], args := [d1, d2] }
  | _ => none }
def ownerPlaysRow : OpenClaim := { program := "ytdlkblklfoagbaa", sum := "c92fbd360b01e7babde0017f544fcc26e89508871f072cbfbe68d5c93aa3ea08", func := "tappet/tappetlaw22.OwnerPlays", spec := "ownerPlays", unfollowed := true, recurses := true, apart := false }
def OwnerPlaysSaid : Prop := ownerPlaysRow.holds Try.pinned (OpenSpec.ofChange ownerPlaysSpec)

/-- ITS FALSE NEIGHBOUR: 'it returns false'. Refute it at one input. -/
def ownerPlaysWrong : ChangeSpec := { name := "ownerPlays", fn := fun _ => fun
  | [d1, d2] => { results := [.lit (.bool false)], args := [d1, d2] }
  | _ => none }
def OwnerPlaysWrongFalsely : Prop := ownerPlaysRow.holds Try.pinned (OpenSpec.ofChange ownerPlaysWrong)

/-- 'tappetlaw22.OwnerOrders': WHATEVER THE INPUT: true; the input reads as it did. -/
def ownerOrdersSpec : ChangeSpec := { name := "ownerOrders", fn := fun _ => fun
  | [d1, d2, d3] => { results := [.lit (.bool true)], args := [d1, d2, d3] }
  | _ => none }
def ownerOrdersRow : OpenClaim := { program := "ytdlkblklfoagbaa", sum := "c92fbd360b01e7babde0017f544fcc26e89508871f072cbfbe68d5c93aa3ea08", func := "tappet/tappetlaw22.OwnerOrders", spec := "ownerOrders", unfollowed := true, recurses := true, apart := false }
def OwnerOrdersSaid : Prop := ownerOrdersRow.holds Try.pinned (OpenSpec.ofChange ownerOrdersSpec)

/-- ITS FALSE NEIGHBOUR: 'it returns false'. Refute it at one input. -/
def ownerOrdersWrong : ChangeSpec := { name := "ownerOrders", fn := fun _ => fun
  | [d1, d2, d3] => { results := [.lit (.bool false)], args := [d1, d2, d3] }
  | _ => none }
def OwnerOrdersWrongFalsely : Prop := ownerOrdersRow.holds Try.pinned (OpenSpec.ofChange ownerOrdersWrong)

/- THE SECOND FORM. 'bulk': how many values and letters a reading holds, each counted each time it is reached (what is shared counts as often as it is met; a slice's spare places count too). A statement '..UptoSaid' is the law's where the arguments, and the package variables that the reading takes, are together of bulk at most 1048576: NARROWER than '..Said'. Prove '..Said' where nothing that the law and all that it calls make is longer than what came in: it says more and counts as full. Else prove '..UptoSaid'. A law counts once. -/
mutual
def uptoBulk {H : Type} : DataW H → Nat
  | .lit (.string bytes) => bytes.length + 1
  | .lit _ => 1
  | .nil => 1
  | .ptr d => uptoBulk d + 1
  | .slice elems spare => uptoBulkAll elems + uptoBulkAll spare + 1
  | .agg parts => uptoBulkAll parts + 1
  | .iface _ d => uptoBulk d + 1
  | .map entries => uptoBulkEntries entries + 1
  | .held _ => 1
def uptoBulkAll {H : Type} : List (DataW H) → Nat
  | [] => 0
  | d :: r => uptoBulk d + uptoBulkAll r
def uptoBulkEntries {H : Type} : List (Lit × DataW H) → Nat
  | [] => 0
  | x :: r => uptoBulkEntry x + uptoBulkEntries r
def uptoBulkEntry {H : Type} : Lit × DataW H → Nat
  | (.string bytes, d) => bytes.length + uptoBulk d + 1
  | (_, d) => uptoBulk d + 1
 end
def uptoSmall : (H : Type) → List (DataW H) → Bool := fun _ ds => decide (uptoBulkAll ds ≤ 1048576)
def OpenSpec.upto (s : _root_.Go.ChangeSpec) : _root_.Go.OpenSpec := { _root_.Go.OpenSpec.ofChange s with cond := some uptoSmall }

/-- 'tappetlaw22.OwnerFresh', WHERE WHAT IT READS IS OF BULK AT MOST 1048576: true; the input reads as it did. -/
def ownerFreshUptoRow : OpenClaim := { program := "ytdlkblklfoagbaa", sum := "c92fbd360b01e7babde0017f544fcc26e89508871f072cbfbe68d5c93aa3ea08", func := "tappet/tappetlaw22.OwnerFresh", spec := "ownerFresh", unfollowed := true, recurses := true, apart := false, narrowed := true }
def OwnerFreshUptoSaid : Prop := ownerFreshUptoRow.holds Try.pinned (OpenSpec.upto ownerFreshSpec)

/-- 'tappetlaw22.OwnerMany', WHERE WHAT IT READS IS OF BULK AT MOST 1048576: true; the input reads as it did. -/
def ownerManyUptoRow : OpenClaim := { program := "ytdlkblklfoagbaa", sum := "c92fbd360b01e7babde0017f544fcc26e89508871f072cbfbe68d5c93aa3ea08", func := "tappet/tappetlaw22.OwnerMany", spec := "ownerMany", unfollowed := true, recurses := true, apart := false, narrowed := true }
def OwnerManyUptoSaid : Prop := ownerManyUptoRow.holds Try.pinned (OpenSpec.upto ownerManySpec)

/-- 'tappetlaw22.OwnerPlays', WHERE WHAT IT READS IS OF BULK AT MOST 1048576: true; the input reads as it did. -/
def ownerPlaysUptoRow : OpenClaim := { program := "ytdlkblklfoagbaa", sum := "c92fbd360b01e7babde0017f544fcc26e89508871f072cbfbe68d5c93aa3ea08", func := "tappet/tappetlaw22.OwnerPlays", spec := "ownerPlays", unfollowed := true, recurses := true, apart := false, narrowed := true }
def OwnerPlaysUptoSaid : Prop := ownerPlaysUptoRow.holds Try.pinned (OpenSpec.upto ownerPlaysSpec)

/-- 'tappetlaw22.OwnerOrders', WHERE WHAT IT READS IS OF BULK AT MOST 1048576: true; the input reads as it did. -/
def ownerOrdersUptoRow : OpenClaim := { program := "ytdlkblklfoagbaa", sum := "c92fbd360b01e7babde0017f544fcc26e89508871f072cbfbe68d5c93aa3ea08", func := "tappet/tappetlaw22.OwnerOrders", spec := "ownerOrders", unfollowed := true, recurses := true, apart := false, narrowed := true }
def OwnerOrdersUptoSaid : Prop := ownerOrdersUptoRow.holds Try.pinned (OpenSpec.upto ownerOrdersSpec)

end Rows
end Go.Proofs.Ytdlkblklfoagbaa
