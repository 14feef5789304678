/-
  NARROWER THAN 'FOR EVERY INPUT', by the rows' own cells (each row's printed sentence says how): WireEncodes: laid · WireDecodes: laid · WireBack: laid · WireKeeps: laid · WireLength: laid · WireSame: laid.
  DERIVED. THE GIVEN ROWS OF THIS SEAT. 6 by the template 'for every input the law returns true; each argument reads behind the call as it read before'; 0 by the template 'total and deterministic' (their statements: YtkocfgaajghggaaDoorTotals.lean).
  GIVEN WITH THE SEED: the statements are not yours to turn. If you find one false, say at which input.
  Laid BY PROGRAM, IN A SANDBOX (cutbox-rows.mjs): the forced cells as the released guide's own fill.sh prints them over the translation f716b9cfff747a38… (all of the seat's roots in one cut). By AI agents, Wed Nov 11 2026. No macro, syntax, notation, axiom, sorry.
-/
import Derived.Test.YtkocfgaajghggaaDoorChecked
import GoSem.Claim
import GoSem.ClaimJoined
import GoSem.ClaimMapViews
import Derived.JoinedTies
import Derived.KernelRfl
namespace Go.Proofs.YtkocfgaajghggaaDoor
/- THE CELL 'sum', in the pinned program and in every row, IS THE sha256 OF THE DUMP (.gsa) THAT YtkocfgaajghggaaDoorProg.lean LOADS. Nothing in Lean hashes anything: it is a label: what it is worth is what the hold of that sum in a sandbox is worth. -/
noncomputable def Tryd.pinned : Pinned := { name := "ytkocfgaajghggaadoor", sum := "f716b9cfff747a386fd9d4a79c42c619036545fa16a6cb15fb5b70289fb6367e", checked := Tryd.checked }
namespace Rows
def none {H : Type} : Left H := { results := [], args := [] }

/- WHAT THE LISTED PACKAGE-LEVEL VARIABLES READ AS WHEN THE CALL BEGINS. Each datum BY PROGRAM (the guide's laid-datum.mjs) off the statement by which the dump's own 'gosem.cut.vars' lays the variable. In a bare row this is a premise. The card (YtkocfgaajghggaaDoorCards.lean) ties it to the program's text. -/
def laid_tappet_ops_forms {H : Type} : DataW H := .agg [.agg [.lit (.string [115, 101, 116]), .lit (.string [100, 115])], .agg [.lit (.string [97, 100, 100]), .lit (.string [100, 97, 115])], .agg [.lit (.string [115, 117, 98]), .lit (.string [100, 97, 115])], .agg [.lit (.string [109, 117, 108]), .lit (.string [100, 97, 115])], .agg [.lit (.string [100, 105, 118]), .lit (.string [100, 97, 115])], .agg [.lit (.string [114, 101, 109]), .lit (.string [100, 97, 115])], .agg [.lit (.string [97, 110, 100]), .lit (.string [100, 97, 115])], .agg [.lit (.string [111, 114]), .lit (.string [100, 97, 115])], .agg [.lit (.string [120, 111, 114]), .lit (.string [100, 97, 115])], .agg [.lit (.string [115, 104, 108]), .lit (.string [100, 97, 115])], .agg [.lit (.string [115, 104, 114]), .lit (.string [100, 97, 115])], .agg [.lit (.string [108, 111, 97, 100]), .lit (.string [100, 115])], .agg [.lit (.string [115, 116, 111, 114, 101]), .lit (.string [97, 115])], .agg [.lit (.string [102, 105, 101, 108, 100]), .lit (.string [100, 102])], .agg [.lit (.string [109, 97, 112]), .lit (.string [100, 109])], .agg [.lit (.string [106, 117, 109, 112]), .lit (.string [106])], .agg [.lit (.string [106, 101, 113]), .lit (.string [106, 97, 115])], .agg [.lit (.string [106, 110, 101]), .lit (.string [106, 97, 115])], .agg [.lit (.string [106, 108, 116]), .lit (.string [106, 97, 115])], .agg [.lit (.string [106, 103, 101]), .lit (.string [106, 97, 115])], .agg [.lit (.string [108, 111, 111, 112]), .lit (.string [98, 97, 110])], .agg [.lit (.string [99, 97, 108, 108]), .lit (.string [104])], .agg [.lit (.string [101, 120, 105, 116]), .lit (.string [97])]]

/-- 'tappetlaw04.WireEncodes': WHATEVER THE INPUT: true; the input reads as it did. -/
def wireEncodesSpec : ChangeSpec := { name := "wireEncodes", fn := fun _ => fun
  | [d] => { results := [.lit (.bool true)], args := [d] }
  | _ => none }
def wireEncodesRow : OpenClaim := { program := "ytkocfgaajghggaadoor", sum := "f716b9cfff747a386fd9d4a79c42c619036545fa16a6cb15fb5b70289fb6367e", func := "tappet/tappetlaw04.WireEncodes", spec := "wireEncodes", named := ["tappet/ops.forms"], apart := false, laid := [("tappet/ops.forms", laid_tappet_ops_forms)] }
def WireEncodesSaid : Prop := wireEncodesRow.holds Tryd.pinned (OpenSpec.ofChange wireEncodesSpec)

/-- ITS FALSE NEIGHBOUR: 'it returns false'. Refute it at one input. -/
def wireEncodesWrong : ChangeSpec := { name := "wireEncodes", fn := fun _ => fun
  | [d] => { results := [.lit (.bool false)], args := [d] }
  | _ => none }
def WireEncodesWrongFalsely : Prop := wireEncodesRow.holds Tryd.pinned (OpenSpec.ofChange wireEncodesWrong)

/-- 'tappetlaw04.WireDecodes': WHATEVER THE INPUT: true; the input reads as it did. -/
def wireDecodesSpec : ChangeSpec := { name := "wireDecodes", fn := fun _ => fun
  | [d] => { results := [.lit (.bool true)], args := [d] }
  | _ => none }
def wireDecodesRow : OpenClaim := { program := "ytkocfgaajghggaadoor", sum := "f716b9cfff747a386fd9d4a79c42c619036545fa16a6cb15fb5b70289fb6367e", func := "tappet/tappetlaw04.WireDecodes", spec := "wireDecodes", named := ["tappet/ops.forms"], apart := false, laid := [("tappet/ops.forms", laid_tappet_ops_forms)] }
def WireDecodesSaid : Prop := wireDecodesRow.holds Tryd.pinned (OpenSpec.ofChange wireDecodesSpec)

/-- ITS FALSE NEIGHBOUR: 'it returns false'. Refute it at one input. -/
def wireDecodesWrong : ChangeSpec := { name := "wireDecodes", fn := fun _ => fun
  | [d] => { results := [.lit (.bool false)], args := [d] }
  | _ => none }
def WireDecodesWrongFalsely : Prop := wireDecodesRow.holds Tryd.pinned (OpenSpec.ofChange wireDecodesWrong)

/-- 'tappetlaw04.WireBack': WHATEVER THE INPUT: true; the input reads as it did. -/
def wireBackSpec : ChangeSpec := { name := "wireBack", fn := fun _ => fun
  | [d1, d2, d3] => { results := [.lit (.bool true)], args := [d1, d2, d3] }
  | _ => none }
def wireBackRow : OpenClaim := { program := "ytkocfgaajghggaadoor", sum := "f716b9cfff747a386fd9d4a79c42c619036545fa16a6cb15fb5b70289fb6367e", func := "tappet/tappetlaw04.WireBack", spec := "wireBack", named := ["tappet/ops.forms"], apart := false, laid := [("tappet/ops.forms", laid_tappet_ops_forms)] }
def WireBackSaid : Prop := wireBackRow.holds Tryd.pinned (OpenSpec.ofChange wireBackSpec)

/-- ITS FALSE NEIGHBOUR: 'it returns false'. Refute it at one input. -/
def wireBackWrong : ChangeSpec := { name := "wireBack", fn := fun _ => fun
  | [d1, d2, d3] => { results := [.lit (.bool false)], args := [d1, d2, d3] }
  | _ => none }
def WireBackWrongFalsely : Prop := wireBackRow.holds Tryd.pinned (OpenSpec.ofChange wireBackWrong)

/-- 'tappetlaw04.WireKeeps': WHATEVER THE INPUT: true; the input reads as it did. -/
def wireKeepsSpec : ChangeSpec := { name := "wireKeeps", fn := fun _ => fun
  | [d] => { results := [.lit (.bool true)], args := [d] }
  | _ => none }
def wireKeepsRow : OpenClaim := { program := "ytkocfgaajghggaadoor", sum := "f716b9cfff747a386fd9d4a79c42c619036545fa16a6cb15fb5b70289fb6367e", func := "tappet/tappetlaw04.WireKeeps", spec := "wireKeeps", named := ["tappet/ops.forms"], apart := false, laid := [("tappet/ops.forms", laid_tappet_ops_forms)] }
def WireKeepsSaid : Prop := wireKeepsRow.holds Tryd.pinned (OpenSpec.ofChange wireKeepsSpec)

/-- ITS FALSE NEIGHBOUR: 'it returns false'. Refute it at one input. -/
def wireKeepsWrong : ChangeSpec := { name := "wireKeeps", fn := fun _ => fun
  | [d] => { results := [.lit (.bool false)], args := [d] }
  | _ => none }
def WireKeepsWrongFalsely : Prop := wireKeepsRow.holds Tryd.pinned (OpenSpec.ofChange wireKeepsWrong)

/-- 'tappetlaw04.WireLength': WHATEVER THE INPUT: true; the input reads as it did. -/
def wireLengthSpec : ChangeSpec := { name := "wireLength", fn := fun _ => fun
  | [d] => { results := [.lit (.bool true)], args := [d] }
  | _ => none }
def wireLengthRow : OpenClaim := { program := "ytkocfgaajghggaadoor", sum := "f716b9cfff747a386fd9d4a79c42c619036545fa16a6cb15fb5b70289fb6367e", func := "tappet/tappetlaw04.WireLength", spec := "wireLength", named := ["tappet/ops.forms"], apart := false, laid := [("tappet/ops.forms", laid_tappet_ops_forms)] }
def WireLengthSaid : Prop := wireLengthRow.holds Tryd.pinned (OpenSpec.ofChange wireLengthSpec)

/-- ITS FALSE NEIGHBOUR: 'it returns false'. Refute it at one input. -/
def wireLengthWrong : ChangeSpec := { name := "wireLength", fn := fun _ => fun
  | [d] => { results := [.lit (.bool false)], args := [d] }
  | _ => none }
def WireLengthWrongFalsely : Prop := wireLengthRow.holds Tryd.pinned (OpenSpec.ofChange wireLengthWrong)

/-- 'tappetlaw04.WireSame': WHATEVER THE INPUT: true; the input reads as it did. -/
def wireSameSpec : ChangeSpec := { name := "wireSame", fn := fun _ => fun
  | [d1, d2] => { results := [.lit (.bool true)], args := [d1, d2] }
  | _ => none }
def wireSameRow : OpenClaim := { program := "ytkocfgaajghggaadoor", sum := "f716b9cfff747a386fd9d4a79c42c619036545fa16a6cb15fb5b70289fb6367e", func := "tappet/tappetlaw04.WireSame", spec := "wireSame", named := ["tappet/ops.forms"], apart := false, laid := [("tappet/ops.forms", laid_tappet_ops_forms)] }
def WireSameSaid : Prop := wireSameRow.holds Tryd.pinned (OpenSpec.ofChange wireSameSpec)

/-- ITS FALSE NEIGHBOUR: 'it returns false'. Refute it at one input. -/
def wireSameWrong : ChangeSpec := { name := "wireSame", fn := fun _ => fun
  | [d1, d2] => { results := [.lit (.bool false)], args := [d1, d2] }
  | _ => none }
def WireSameWrongFalsely : Prop := wireSameRow.holds Tryd.pinned (OpenSpec.ofChange wireSameWrong)

/- THE SECOND FORM. 'bulk': how many values and letters a reading holds, each counted each time it is reached (what is shared counts as often as it is met; a slice's spare places count too). A statement '..UptoSaid' is the law's where the arguments, and the package variables that the reading takes, are together of bulk at most 1048576: NARROWER than '..Said'. Prove '..Said' where nothing that the law and all that it calls make is longer than what came in: it says more and counts as full. Else prove '..UptoSaid'. A law counts once. -/
mutual
def uptoBulk {H : Type} : DataW H → Nat
  | .lit (.string bytes) => bytes.length + 1
  | .lit _ => 1
  | .nil => 1
  | .ptr d => uptoBulk d + 1
  | .slice elems spare => uptoBulkAll elems + uptoBulkAll spare + 1
  | .agg parts => uptoBulkAll parts + 1
  | .iface _ d => uptoBulk d + 1
  | .map entries => uptoBulkEntries entries + 1
  | .held _ => 1
def uptoBulkAll {H : Type} : List (DataW H) → Nat
  | [] => 0
  | d :: r => uptoBulk d + uptoBulkAll r
def uptoBulkEntries {H : Type} : List (Lit × DataW H) → Nat
  | [] => 0
  | x :: r => uptoBulkEntry x + uptoBulkEntries r
def uptoBulkEntry {H : Type} : Lit × DataW H → Nat
  | (.string bytes, d) => bytes.length + uptoBulk d + 1
  | (_, d) => uptoBulk d + 1
 end
def uptoSmall : (H : Type) → List (DataW H) → Bool := fun _ ds => decide (uptoBulkAll ds ≤ 1048576)
def OpenSpec.upto (s : _root_.Go.ChangeSpec) : _root_.Go.OpenSpec := { _root_.Go.OpenSpec.ofChange s with cond := some uptoSmall }

/-- 'tappetlaw04.WireEncodes', WHERE WHAT IT READS IS OF BULK AT MOST 1048576: true; the input reads as it did. -/
def wireEncodesUptoRow : OpenClaim := { program := "ytkocfgaajghggaadoor", sum := "f716b9cfff747a386fd9d4a79c42c619036545fa16a6cb15fb5b70289fb6367e", func := "tappet/tappetlaw04.WireEncodes", spec := "wireEncodes", named := ["tappet/ops.forms"], apart := false, laid := [("tappet/ops.forms", laid_tappet_ops_forms)], narrowed := true }
def WireEncodesUptoSaid : Prop := wireEncodesUptoRow.holds Tryd.pinned (OpenSpec.upto wireEncodesSpec)

/-- 'tappetlaw04.WireDecodes', WHERE WHAT IT READS IS OF BULK AT MOST 1048576: true; the input reads as it did. -/
def wireDecodesUptoRow : OpenClaim := { program := "ytkocfgaajghggaadoor", sum := "f716b9cfff747a386fd9d4a79c42c619036545fa16a6cb15fb5b70289fb6367e", func := "tappet/tappetlaw04.WireDecodes", spec := "wireDecodes", named := ["tappet/ops.forms"], apart := false, laid := [("tappet/ops.forms", laid_tappet_ops_forms)], narrowed := true }
def WireDecodesUptoSaid : Prop := wireDecodesUptoRow.holds Tryd.pinned (OpenSpec.upto wireDecodesSpec)

/-- 'tappetlaw04.WireBack', WHERE WHAT IT READS IS OF BULK AT MOST 1048576: true; the input reads as it did. -/
def wireBackUptoRow : OpenClaim := { program := "ytkocfgaajghggaadoor", sum := "f716b9cfff747a386fd9d4a79c42c619036545fa16a6cb15fb5b70289fb6367e", func := "tappet/tappetlaw04.WireBack", spec := "wireBack", named := ["tappet/ops.forms"], apart := false, laid := [("tappet/ops.forms", laid_tappet_ops_forms)], narrowed := true }
def WireBackUptoSaid : Prop := wireBackUptoRow.holds Tryd.pinned (OpenSpec.upto wireBackSpec)

/-- 'tappetlaw04.WireKeeps', WHERE WHAT IT READS IS OF BULK AT MOST 1048576: true; the input reads as it did. -/
def wireKeepsUptoRow : OpenClaim := { program := "ytkocfgaajghggaadoor", sum := "f716b9cfff747a386fd9d4a79c42c619036545fa16a6cb15fb5b70289fb6367e", func := "tappet/tappetlaw04.WireKeeps", spec := "wireKeeps", named := ["tappet/ops.forms"], apart := false, laid := [("tappet/ops.forms", laid_tappet_ops_forms)], narrowed := true }
def WireKeepsUptoSaid : Prop := wireKeepsUptoRow.holds Tryd.pinned (OpenSpec.upto wireKeepsSpec)

/-- 'tappetlaw04.WireLength', WHERE WHAT IT READS IS OF BULK AT MOST 1048576: true; the input reads as it did. -/
def wireLengthUptoRow : OpenClaim := { program := "ytkocfgaajghggaadoor", sum := "f716b9cfff747a386fd9d4a79c42c619036545fa16a6cb15fb5b70289fb6367e", func := "tappet/tappetlaw04.WireLength", spec := "wireLength", named := ["tappet/ops.forms"], apart := false, laid := [("tappet/ops.forms", laid_tappet_ops_forms)], narrowed := true }
def WireLengthUptoSaid : Prop := wireLengthUptoRow.holds Tryd.pinned (OpenSpec.upto wireLengthSpec)

/-- 'tappetlaw04.WireSame', WHERE WHAT IT READS IS OF BULK AT MOST 1048576: true; the input reads as it did. -/
def wireSameUptoRow : OpenClaim := { program := "ytkocfgaajghggaadoor", sum := "f716b9cfff747a386fd9d4a79c42c619036545fa16a6cb15fb5b70289fb6367e", func := "tappet/tappetlaw04.WireSame", spec := "wireSame", named := ["tappet/ops.forms"], apart := false, laid := [("tappet/ops.forms", laid_tappet_ops_forms)], narrowed := true }
def WireSameUptoSaid : Prop := wireSameUptoRow.holds Tryd.pinned (OpenSpec.upto wireSameSpec)

end Rows
end Go.Proofs.YtkocfgaajghggaaDoor
