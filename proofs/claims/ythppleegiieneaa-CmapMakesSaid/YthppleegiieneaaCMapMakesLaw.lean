/- The law CmapMakes, joined. -/
import Derived.Test.YthppleegiieneaaCMapMakes
import Derived.Test.YthppleegiieneaaItemDec
namespace Go.Proofs.Ythppleegiieneaa
open Go.RowKit Go.WideShapes
set_option linter.unusedVariables false
set_option maxRecDepth 100000

theorem open_def {H : Type} {enc : TypeId × Value → H} {w : World} {r : Reach} {base : Nat} {v : Value} {d : DataW H} {p : List MemPlace}
    (ho : Value.okWide Try.prog w r base 24 v) (h : DataW.Trod enc Try.prog w 0 (fun _ => true) true 24 v d p) : ∃ x : DefD, v = x.v ∧ DefD.ok x := by
  obtain ⟨cs, rfl, _⟩ := okWide_struct Try.underlying24 ho
  obtain ⟨fuel, hf⟩ := h
  obtain ⟨x, hx, hv⟩ := (eDef_dec (w := w)).2 H enc fuel _ _ hf
  refine ⟨x, ?_, hv⟩
  have : cs = #[.int .i64 x.1, .int .i64 x.2] := by
    apply Array.ext'
    exact hx
  rw [this]; rfl
theorem cmapMakes_any (x : DefD) (ds : List ItemD) (v : Value) (w : World) (hx : DefD.ok x) (hv : Rd eItem w v ds) (hl : ds.length * 32 ≤ 140737488351232) (ho : ∀ x ∈ ds, ItemD.ok x) :
    Calls Try.prog 3 #[x.v, v] w fun e w' => e = .returned (.bool true) ∧ Below w.heap.size w w' := by
  cases h : okDef x.1 x.2
  · exact cmapMakes_bad x.1 x.2 v w h
  · exact cmapMakes_yes x.1 x.2 h ds v w hv
end Go.Proofs.Ythppleegiieneaa
