/- The law OwnerFresh, joined. -/
import Derived.Test.YtdlkblklfoagbaaOwnFresh
import Derived.Test.YtdlkblklfoagbaaOwnOpen
namespace Go.Proofs.Ytdlkblklfoagbaa
open Go.RowKit Go.WideShapes
set_option linter.unusedVariables false

theorem ownerFresh_any (x : ShapeX) (qs : List ReqD) (v : Value) (w : World) (hx : ShapeX.ok w x) (hv : Rd eReq w v qs) (hl : qs.length * 56 ≤ 140737488351232) (ho : ∀ q ∈ qs, ReqD.ok q) :
    Calls Try.prog 3 #[x.v, v] w fun e w' => e = .returned (.bool true) ∧ Below w.heap.size w w' := by
  obtain ⟨ds, hr, _⟩ := hx
  cases h : okOwn x.sd x.n ds with
  | false => exact (ownerFresh_bad x.sd x.n x.vm ds v w hr h).mono fun e w' ⟨he, ho⟩ => ⟨he, ho.below (Nat.le_refl _) fun _ h => h.elim⟩
  | true => exact (ownerFresh_yes x.sd x.n x.vm ds qs v w hr h hv).mono fun e w' ⟨he, ho⟩ => ⟨he, ho.below (Nat.le_refl _) fun _ h => h.elim⟩
end Go.Proofs.Ytdlkblklfoagbaa
