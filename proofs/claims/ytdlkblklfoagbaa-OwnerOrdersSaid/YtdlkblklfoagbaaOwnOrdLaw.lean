/- The law OwnerOrders, joined. -/
import Derived.Test.YtdlkblklfoagbaaOwnOrd
import Derived.Test.YtdlkblklfoagbaaOwnOpen
namespace Go.Proofs.Ytdlkblklfoagbaa
open Go.RowKit Go.WideShapes
set_option linter.unusedVariables false

theorem ownerOrders_any (x : ShapeX) (qs : List ReqD) (v : Value) (cs : List Int) (vc : Value) (w : World) (hx : ShapeX.ok w x) (hv : Rd eReq w v qs) (hl : qs.length * 56 ≤ 140737488351232) (ho : ∀ q ∈ qs, ReqD.ok q) (hc : Rd (eInt .i64) w vc cs) (hlc : cs.length * 8 ≤ 140737488351232) (hwc : ∀ c ∈ cs, (Lit.int .i64 c).wf = true) :
    Calls Try.prog 6 #[x.v, v, vc] w fun e w' => e = .returned (.bool true) ∧ Below w.heap.size w w' := by
  obtain ⟨ds, hr, _⟩ := hx
  cases h : okOwn x.sd x.n ds with
  | false => exact (ownerOrders_bad x.sd x.n x.vm ds v vc w hr h).mono fun e w' ⟨he, ho⟩ => ⟨he, ho.below (Nat.le_refl _) fun _ h => h.elim⟩
  | true => exact (ownerOrders_yes x.sd x.n x.vm ds qs cs v vc w hr h hv hc).mono fun e w' ⟨he, ho⟩ => ⟨he, ho.below (Nat.le_refl _) fun _ h => h.elim⟩
end Go.Proofs.Ytdlkblklfoagbaa
