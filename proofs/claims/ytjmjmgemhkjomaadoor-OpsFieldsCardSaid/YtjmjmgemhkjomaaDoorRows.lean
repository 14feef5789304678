/-
  NARROWER THAN 'FOR EVERY INPUT', by the rows' own cells (each row's printed sentence says how): OpsNames: laid · OpsRight: laid · OpsFields: laid · OpsReads: laid.
  DERIVED. THE GIVEN ROWS OF THIS SEAT. 4 by the template 'for every input the law returns true; each argument reads behind the call as it read before'; 0 by the template 'total and deterministic' (their statements: YtjmjmgemhkjomaaDoorTotals.lean).
  GIVEN WITH THE SEED: the statements are not yours to turn. If you find one false, say at which input.
  Laid BY PROGRAM, IN A SANDBOX (cutbox-rows.mjs): the forced cells as the released guide's own fill.sh prints them over the translation 73fb289d2d4797f1… (all of the seat's roots in one cut). By AI agents, Wed Nov 11 2026. No macro, syntax, notation, axiom, sorry.
-/
import Derived.Test.YtjmjmgemhkjomaaDoorChecked
import GoSem.Claim
import GoSem.ClaimJoined
import GoSem.ClaimMapViews
import Derived.JoinedTies
import Derived.KernelRfl
namespace Go.Proofs.YtjmjmgemhkjomaaDoor
/- THE CELL 'sum', in the pinned program and in every row, IS THE sha256 OF THE DUMP (.gsa) THAT YtjmjmgemhkjomaaDoorProg.lean LOADS. Nothing in Lean hashes anything: it is a label: what it is worth is what the hold of that sum in a sandbox is worth. -/
noncomputable def Tryd.pinned : Pinned := { name := "ytjmjmgemhkjomaadoor", sum := "73fb289d2d4797f1b07770d4d2388d9a6e98a09aad395674dc4b8db7530352cd", checked := Tryd.checked }
namespace Rows
def none {H : Type} : Left H := { results := [], args := [] }

/- WHAT THE LISTED PACKAGE-LEVEL VARIABLES READ AS WHEN THE CALL BEGINS. Each datum BY PROGRAM (the guide's laid-datum.mjs) off the statement by which the dump's own 'gosem.cut.vars' lays the variable. In a bare row this is a premise. The card (YtjmjmgemhkjomaaDoorCards.lean) ties it to the program's text. -/
def laid_tappet_ops_forms {H : Type} : DataW H := .agg [.agg [.lit (.string [115, 101, 116]), .lit (.string [100, 115])], .agg [.lit (.string [97, 100, 100]), .lit (.string [100, 97, 115])], .agg [.lit (.string [115, 117, 98]), .lit (.string [100, 97, 115])], .agg [.lit (.string [109, 117, 108]), .lit (.string [100, 97, 115])], .agg [.lit (.string [100, 105, 118]), .lit (.string [100, 97, 115])], .agg [.lit (.string [114, 101, 109]), .lit (.string [100, 97, 115])], .agg [.lit (.string [97, 110, 100]), .lit (.string [100, 97, 115])], .agg [.lit (.string [111, 114]), .lit (.string [100, 97, 115])], .agg [.lit (.string [120, 111, 114]), .lit (.string [100, 97, 115])], .agg [.lit (.string [115, 104, 108]), .lit (.string [100, 97, 115])], .agg [.lit (.string [115, 104, 114]), .lit (.string [100, 97, 115])], .agg [.lit (.string [108, 111, 97, 100]), .lit (.string [100, 115])], .agg [.lit (.string [115, 116, 111, 114, 101]), .lit (.string [97, 115])], .agg [.lit (.string [102, 105, 101, 108, 100]), .lit (.string [100, 102])], .agg [.lit (.string [109, 97, 112]), .lit (.string [100, 109])], .agg [.lit (.string [106, 117, 109, 112]), .lit (.string [106])], .agg [.lit (.string [106, 101, 113]), .lit (.string [106, 97, 115])], .agg [.lit (.string [106, 110, 101]), .lit (.string [106, 97, 115])], .agg [.lit (.string [106, 108, 116]), .lit (.string [106, 97, 115])], .agg [.lit (.string [106, 103, 101]), .lit (.string [106, 97, 115])], .agg [.lit (.string [108, 111, 111, 112]), .lit (.string [98, 97, 110])], .agg [.lit (.string [99, 97, 108, 108]), .lit (.string [104])], .agg [.lit (.string [101, 120, 105, 116]), .lit (.string [97])]]

/-- 'tappetlaw02.OpsNames': WHATEVER THE INPUT: true; the input reads as it did. -/
def opsNamesSpec : ChangeSpec := { name := "opsNames", fn := fun _ => fun
  | [d1, d2] => { results := [.lit (.bool true)], args := [d1, d2] }
  | _ => none }
def opsNamesRow : OpenClaim := { program := "ytjmjmgemhkjomaadoor", sum := "73fb289d2d4797f1b07770d4d2388d9a6e98a09aad395674dc4b8db7530352cd", func := "tappet/tappetlaw02.OpsNames", spec := "opsNames", named := ["tappet/ops.forms"], apart := false, laid := [("tappet/ops.forms", laid_tappet_ops_forms)] }
def OpsNamesSaid : Prop := opsNamesRow.holds Tryd.pinned (OpenSpec.ofChange opsNamesSpec)

/-- ITS FALSE NEIGHBOUR: 'it returns false'. Refute it at one input. -/
def opsNamesWrong : ChangeSpec := { name := "opsNames", fn := fun _ => fun
  | [d1, d2] => { results := [.lit (.bool false)], args := [d1, d2] }
  | _ => none }
def OpsNamesWrongFalsely : Prop := opsNamesRow.holds Tryd.pinned (OpenSpec.ofChange opsNamesWrong)

/-- 'tappetlaw02.OpsRight': WHATEVER THE INPUT: true; the input reads as it did. -/
def opsRightSpec : ChangeSpec := { name := "opsRight", fn := fun _ => fun
  | [d] => { results := [.lit (.bool true)], args := [d] }
  | _ => none }
def opsRightRow : OpenClaim := { program := "ytjmjmgemhkjomaadoor", sum := "73fb289d2d4797f1b07770d4d2388d9a6e98a09aad395674dc4b8db7530352cd", func := "tappet/tappetlaw02.OpsRight", spec := "opsRight", named := ["tappet/ops.forms"], apart := false, laid := [("tappet/ops.forms", laid_tappet_ops_forms)] }
def OpsRightSaid : Prop := opsRightRow.holds Tryd.pinned (OpenSpec.ofChange opsRightSpec)

/-- ITS FALSE NEIGHBOUR: 'it returns false'. Refute it at one input. -/
def opsRightWrong : ChangeSpec := { name := "opsRight", fn := fun _ => fun
  | [d] => { results := [.lit (.bool false)], args := [d] }
  | _ => none }
def OpsRightWrongFalsely : Prop := opsRightRow.holds Tryd.pinned (OpenSpec.ofChange opsRightWrong)

/-- 'tappetlaw02.OpsFields': WHATEVER THE INPUT: true; the input reads as it did. -/
def opsFieldsSpec : ChangeSpec := { name := "opsFields", fn := fun _ => fun
  | [d1, d2] => { results := [.lit (.bool true)], args := [d1, d2] }
  | _ => none }
def opsFieldsRow : OpenClaim := { program := "ytjmjmgemhkjomaadoor", sum := "73fb289d2d4797f1b07770d4d2388d9a6e98a09aad395674dc4b8db7530352cd", func := "tappet/tappetlaw02.OpsFields", spec := "opsFields", named := ["tappet/ops.forms"], apart := false, laid := [("tappet/ops.forms", laid_tappet_ops_forms)] }
def OpsFieldsSaid : Prop := opsFieldsRow.holds Tryd.pinned (OpenSpec.ofChange opsFieldsSpec)

/-- ITS FALSE NEIGHBOUR: 'it returns false'. Refute it at one input. -/
def opsFieldsWrong : ChangeSpec := { name := "opsFields", fn := fun _ => fun
  | [d1, d2] => { results := [.lit (.bool false)], args := [d1, d2] }
  | _ => none }
def OpsFieldsWrongFalsely : Prop := opsFieldsRow.holds Tryd.pinned (OpenSpec.ofChange opsFieldsWrong)

/-- 'tappetlaw02.OpsReads': WHATEVER THE INPUT: true; the input reads as it did. -/
def opsReadsSpec : ChangeSpec := { name := "opsReads", fn := fun _ => fun
  | [d] => { results := [.lit (.bool true)], args := [d] }
  | _ => none }
def opsReadsRow : OpenClaim := { program := "ytjmjmgemhkjomaadoor", sum := "73fb289d2d4797f1b07770d4d2388d9a6e98a09aad395674dc4b8db7530352cd", func := "tappet/tappetlaw02.OpsReads", spec := "opsReads", named := ["tappet/ops.forms"], apart := false, laid := [("tappet/ops.forms", laid_tappet_ops_forms)] }
def OpsReadsSaid : Prop := opsReadsRow.holds Tryd.pinned (OpenSpec.ofChange opsReadsSpec)

/-- ITS FALSE NEIGHBOUR: 'it returns false'. Refute it at one input. -/
def opsReadsWrong : ChangeSpec := { name := "opsReads", fn := fun _ => fun
  | [d] => { results := [.lit (.bool false)], args := [d] }
  | _ => none }
def OpsReadsWrongFalsely : Prop := opsReadsRow.holds Tryd.pinned (OpenSpec.ofChange opsReadsWrong)

/- THE SECOND FORM. 'bulk': how many values and letters a reading holds, each counted each time it is reached (what is shared counts as often as it is met; a slice's spare places count too). A statement '..UptoSaid' is the law's where the arguments, and the package variables that the reading takes, are together of bulk at most 1048576: NARROWER than '..Said'. Prove '..Said' where nothing that the law and all that it calls make is longer than what came in: it says more and counts as full. Else prove '..UptoSaid'. A law counts once. -/
mutual
def uptoBulk {H : Type} : DataW H → Nat
  | .lit (.string bytes) => bytes.length + 1
  | .lit _ => 1
  | .nil => 1
  | .ptr d => uptoBulk d + 1
  | .slice elems spare => uptoBulkAll elems + uptoBulkAll spare + 1
  | .agg parts => uptoBulkAll parts + 1
  | .iface _ d => uptoBulk d + 1
  | .map entries => uptoBulkEntries entries + 1
  | .held _ => 1
def uptoBulkAll {H : Type} : List (DataW H) → Nat
  | [] => 0
  | d :: r => uptoBulk d + uptoBulkAll r
def uptoBulkEntries {H : Type} : List (Lit × DataW H) → Nat
  | [] => 0
  | x :: r => uptoBulkEntry x + uptoBulkEntries r
def uptoBulkEntry {H : Type} : Lit × DataW H → Nat
  | (.string bytes, d) => bytes.length + uptoBulk d + 1
  | (_, d) => uptoBulk d + 1
 end
def uptoSmall : (H : Type) → List (DataW H) → Bool := fun _ ds => decide (uptoBulkAll ds ≤ 1048576)
def OpenSpec.upto (s : _root_.Go.ChangeSpec) : _root_.Go.OpenSpec := { _root_.Go.OpenSpec.ofChange s with cond := some uptoSmall }

/-- 'tappetlaw02.OpsNames', WHERE WHAT IT READS IS OF BULK AT MOST 1048576: true; the input reads as it did. -/
def opsNamesUptoRow : OpenClaim := { program := "ytjmjmgemhkjomaadoor", sum := "73fb289d2d4797f1b07770d4d2388d9a6e98a09aad395674dc4b8db7530352cd", func := "tappet/tappetlaw02.OpsNames", spec := "opsNames", named := ["tappet/ops.forms"], apart := false, laid := [("tappet/ops.forms", laid_tappet_ops_forms)], narrowed := true }
def OpsNamesUptoSaid : Prop := opsNamesUptoRow.holds Tryd.pinned (OpenSpec.upto opsNamesSpec)

/-- 'tappetlaw02.OpsRight', WHERE WHAT IT READS IS OF BULK AT MOST 1048576: true; the input reads as it did. -/
def opsRightUptoRow : OpenClaim := { program := "ytjmjmgemhkjomaadoor", sum := "73fb289d2d4797f1b07770d4d2388d9a6e98a09aad395674dc4b8db7530352cd", func := "tappet/tappetlaw02.OpsRight", spec := "opsRight", named := ["tappet/ops.forms"], apart := false, laid := [("tappet/ops.forms", laid_tappet_ops_forms)], narrowed := true }
def OpsRightUptoSaid : Prop := opsRightUptoRow.holds Tryd.pinned (OpenSpec.upto opsRightSpec)

/-- 'tappetlaw02.OpsFields', WHERE WHAT IT READS IS OF BULK AT MOST 1048576: true; the input reads as it did. -/
def opsFieldsUptoRow : OpenClaim := { program := "ytjmjmgemhkjomaadoor", sum := "73fb289d2d4797f1b07770d4d2388d9a6e98a09aad395674dc4b8db7530352cd", func := "tappet/tappetlaw02.OpsFields", spec := "opsFields", named := ["tappet/ops.forms"], apart := false, laid := [("tappet/ops.forms", laid_tappet_ops_forms)], narrowed := true }
def OpsFieldsUptoSaid : Prop := opsFieldsUptoRow.holds Tryd.pinned (OpenSpec.upto opsFieldsSpec)

/-- 'tappetlaw02.OpsReads', WHERE WHAT IT READS IS OF BULK AT MOST 1048576: true; the input reads as it did. -/
def opsReadsUptoRow : OpenClaim := { program := "ytjmjmgemhkjomaadoor", sum := "73fb289d2d4797f1b07770d4d2388d9a6e98a09aad395674dc4b8db7530352cd", func := "tappet/tappetlaw02.OpsReads", spec := "opsReads", named := ["tappet/ops.forms"], apart := false, laid := [("tappet/ops.forms", laid_tappet_ops_forms)], narrowed := true }
def OpsReadsUptoSaid : Prop := opsReadsUptoRow.holds Tryd.pinned (OpenSpec.upto opsReadsSpec)

end Rows
end Go.Proofs.YtjmjmgemhkjomaaDoor
