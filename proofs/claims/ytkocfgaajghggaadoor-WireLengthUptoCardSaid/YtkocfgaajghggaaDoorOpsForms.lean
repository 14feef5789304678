/- ops: the table of forms, out of the row's condition. -/
import Derived.Test.YtkocfgaajghggaaDoorBase
import Derived.OpenShut
import Derived.ChangeArms
import Derived.Handed
namespace Go.Proofs.YtkocfgaajghggaaDoor
open Go.RowKit
set_option linter.unusedVariables false
set_option linter.unusedSimpArgs false

/-- the datum's rows -/
def rowsOf : DataW Unit → List (DataW Unit)
  | .agg parts => parts
  | _ => []

/-- the table lies in block 0: row k's two strings in cells 2 k and 2 k + 1 -/
def Forms (w : World) : Prop := ∀ (k : Nat) (nb fb : List UInt8), (rowsOf Rows.laid_tappet_ops_forms)[k]? = some (.agg [.lit (.string nb), .lit (.string fb)]) →
  w.cell? ⟨0, k * 2, none⟩ = some (.string ⟨nb.toArray⟩) ∧ w.cell? ⟨0, k * 2 + 1, none⟩ = some (.string ⟨fb.toArray⟩)

theorem globalForms : Tryd.prog.globalNamed "tappet/ops.forms" = some 0 := by kernel_rfl

theorem string_of_trod {H : Type} {enc : TypeId × Value → H} {P : Program} {w : World} {base : Nat} {sp : Nat → Bool} {held : Bool} {fuel : Nat} {t : TypeId} {cs : List Value} {bytes : List UInt8} {p : List MemPlace}
    (ht : P.underlying t = some .string) (h : DataW.trod enc P w base sp held fuel t cs = some (.lit (.string bytes), p)) : cs = [.string ⟨bytes.toArray⟩] := by
  obtain ⟨s, rfl, hx, _⟩ := DataW.trod_string ht h
  have hb : s.data.toList = bytes := by
    have := (Prod.mk.inj hx).1
    simpa using this.symm
  subst hb
  obtain ⟨⟨l⟩⟩ := s
  rfl

/-- the same, the whole block -/
def FormsB (w : World) : Prop := ∃ cs ty fr, w.heap[0]? = some (.cells cs ty fr) ∧ cs.size = 46 ∧ ∀ (k : Nat) (nb fb : List UInt8), (rowsOf Rows.laid_tappet_ops_forms)[k]? = some (.agg [.lit (.string nb), .lit (.string fb)]) →
  cs[k * 2]? = some (.string ⟨nb.toArray⟩) ∧ cs[k * 2 + 1]? = some (.string ⟨fb.toArray⟩)
theorem FormsB.forms {w : World} (h : FormsB w) : Forms w := by
  obtain ⟨cs, ty, fr, hb, _, hk⟩ := h
  intro k nb fb hr
  simp only [World.cell?, hb]
  exact hk k nb fb hr

theorem formsB_of_laid {W : World} (h : laidMet Tryd.prog [("tappet/ops.forms", Rows.laid_tappet_ops_forms)] W) : FormsB W := by
  obtain ⟨ps, ⟨g, t, cs, fuel, p, q, hg, ht, hvar, hd, _, _⟩, _⟩ := h
  obtain rfl := Option.some.inj (globalForms.symm.trans hg)
  obtain rfl := Option.some.inj ((show (Tryd.prog.globals[0]?).map (·.type) = some 87 by kernel_rfl).symm.trans ht)
  obtain ⟨ty, fz, hb⟩ : ∃ ty fz, W.heap[0]? = some (.cells cs ty fz) := by
    simp only [World.var?, globalForms, Option.bind_some] at hvar
    split at hvar
    · rename_i c a b hb
      obtain rfl := Option.some.inj hvar
      exact ⟨_, _, hb⟩
    · cases hvar
  have hcell : ∀ i v, cs.toList[i]? = some v → cs[i]? = some v := fun i v hv => by rw [← Array.getElem?_toList]; exact hv
  obtain ⟨xs, m, _, hx, hl, hn, hat⟩ := DataW.trod_array Tryd.underlying87 hd
  have hsz : cs.size = 46 := by
    rw [show Tryd.prog.cellsOf 87 = 46 by kernel_rfl] at hl
    simpa using hl
  refine ⟨cs, ty, fz, hb, hsz, ?_⟩
  have hx1 : Rows.laid_tappet_ops_forms (H := Unit) = .agg (xs.map (·.1)) := (Prod.mk.inj hx).1
  intro k nb fb hk
  rw [hx1] at hk
  simp only [rowsOf, List.getElem?_map] at hk
  obtain ⟨y, hy, hy1⟩ := Option.map_eq_some_iff.1 hk
  have hk23 : k < 23 := by
    have := (List.getElem?_eq_some_iff.1 hy).1
    omega
  have h1 := hat k hk23
  rw [hy, show Tryd.prog.cellsOf 83 = 2 by kernel_rfl] at h1
  obtain ⟨ys, n, _, hyx, _, hlen, hg2⟩ := DataW.trod_struct Tryd.underlying83 h1
  have hys : ys.map (·.1) = [.lit (.string nb), .lit (.string fb)] := by
    rw [hyx] at hy1
    simpa using hy1
  match ys, hys with
  | [y0, y1], hys =>
    obtain ⟨e0, e1⟩ : y0.1 = .lit (.string nb) ∧ y1.1 = .lit (.string fb) := by simpa using hys
    have f0 := hg2 0 _ rfl
    have f1 := hg2 1 _ rfl
    obtain ⟨y0a, y0b⟩ := y0
    obtain ⟨y1a, y1b⟩ := y1
    subst e0 e1
    have s0 : List.take (Tryd.prog.cellsOf 9) (List.drop 0 (List.take 2 (List.drop (k * 2) cs.toList))) = _ := string_of_trod Tryd.underlying9 f0
    have s1 : List.take (Tryd.prog.cellsOf 9) (List.drop 1 (List.take 2 (List.drop (k * 2) cs.toList))) = _ := string_of_trod Tryd.underlying9 f1
    rw [show Tryd.prog.cellsOf 9 = 1 by kernel_rfl] at s0 s1
    constructor
    · apply hcell
      have := congrArg (fun l => l[0]?) s0
      simpa [List.getElem?_take, List.getElem?_drop] using this
    · apply hcell
      have := congrArg (fun l => l[0]?) s1
      simpa [List.getElem?_take, List.getElem?_drop, Nat.add_comm] using this
theorem forms_of_laid {W : World} (h : laidMet Tryd.prog [("tappet/ops.forms", Rows.laid_tappet_ops_forms)] W) : Forms W := (formsB_of_laid h).forms
end Go.Proofs.YtkocfgaajghggaaDoor
