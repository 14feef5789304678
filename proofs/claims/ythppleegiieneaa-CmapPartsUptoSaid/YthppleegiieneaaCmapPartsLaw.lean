/- The law CmapParts, joined. -/
import Derived.Test.YthppleegiieneaaCmapParts
import Derived.Test.YthppleegiieneaaItemDec
namespace Go.Proofs.Ythppleegiieneaa
open Go.RowKit Go.WideShapes
set_option linter.unusedVariables false
set_option maxRecDepth 100000

theorem open_def {H : Type} {enc : TypeId × Value → H} {w : World} {r : Reach} {base : Nat} {v : Value} {d : DataW H} {p : List MemPlace}
    (ho : Value.okWide Try.prog w r base 24 v) (h : DataW.Trod enc Try.prog w 0 (fun _ => true) true 24 v d p) : ∃ x : DefD, v = x.v ∧ DefD.ok x := by
  obtain ⟨cs, rfl, _⟩ := okWide_struct Try.underlying24 ho
  obtain ⟨fuel, hf⟩ := h
  obtain ⟨x, hx, hv⟩ := (eDef_dec (w := w)).2 H enc fuel _ _ hf
  refine ⟨x, ?_, hv⟩
  have : cs = #[.int .i64 x.1, .int .i64 x.2] := by
    apply Array.ext'
    exact hx
  rw [this]; rfl
theorem cmapParts_any (x : DefD) (n : Int) (ds : List ItemD) (v : Value) (w : World) (hx : DefD.ok x) (hn : -9223372036854775808 ≤ n ∧ n ≤ 9223372036854775807) (hv : Rd eItem w v ds) (hl : ds.length ≤ 1048576) (ho : ∀ x ∈ ds, ItemD.ok x) :
    Calls Try.prog 4 #[x.v, .int .i64 n, v] w fun e w' => e = .returned (.bool true) ∧ Below w.heap.size w w' := by
  by_cases h : (1 ≤ n ∧ n ≤ 4) ∧ okDef x.1 x.2 = true
  · exact cmapParts_yes x.1 x.2 n h.1.1 h.1.2 h.2 ds v w hv
  · exact cmapParts_bad x.1 x.2 n v w h
end Go.Proofs.Ythppleegiieneaa
