/- wire: the reader's begin. -/
import Derived.Test.YtkocfgaajghggaaDoorWireInst
namespace Go.Proofs.YtkocfgaajghggaaDoor
open Go.RowKit
set_option linter.unusedVariables false
set_option linter.unusedSimpArgs false

def atOf (g : Nat) (w : World) : Nat := match w.cell? ⟨g, 1, none⟩ with
  | some (.int _ n) => n.toNat
  | _ => 0
theorem RdrB.atOf {g : Nat} {bv : Value} {p f : Nat} {e : Int} {w : World} (h : RdrB g bv p f e w) : atOf g w = p := by
  unfold Go.Proofs.YtkocfgaajghggaaDoor.atOf
  rw [h.cells.2.1]; simp
def BegPost (g : Nat) (b : List Int) (bv : Value) (w : World) (en : Ending) (w' : World) : Prop :=
  ∃ (p' f' : Nat) (e' : Int), en = .returned (.tuple #[]) ∧ RdrB g bv p' f' e' w' ∧ Only (fun k => k = g) w w' ∧ (e' = 0 → p' = 3) ∧ StR b (decP b) (fun _ => startP b) p' f' e'
theorem head_none {b : List Int} {n p : Nat} (h : b.length ≤ p) : headP b (n + 1) p = .bad p 10 := by
  rw [headP, List.getElem?_eq_none h]
theorem head_no {b : List Int} {n p : Nat} (h : p < b.length) (e : b[p] ≠ headAt p) : headP b (n + 1) p = .bad p 12 := by
  rw [headP, List.getElem?_eq_getElem h]; simp only; rw [if_neg e]
theorem head_yes {b : List Int} {n p : Nat} (h : p < b.length) (e : b[p] = headAt p) : headP b (n + 1) p = headP b n (p + 1) := by
  rw [headP, List.getElem?_eq_getElem h]; simp only; rw [if_pos e]
/-- where the loop stands -/
def BegSt (b : List Int) (p f : Nat) (e : Int) : Prop := (e = 0 ∧ p ≤ 3 ∧ p ≤ b.length ∧ decP b = headP b (3 - p) p) ∨ (e ≠ 0 ∧ p ≤ 3 ∧ decP b = .bad f e)

set_option maxRecDepth 100000 in
set_option maxHeartbeats 8000000 in
theorem begin_st (g : Nat) (b : List Int) (bv : Value) (w : World) (hR : RdrB g bv 0 0 0 w) (hb : Rd eU8 w bv b) (hby : ∀ x ∈ b, 0 ≤ x ∧ x ≤ 255) (hne : 0 < b.length → bv.ownBlock ≠ some g) :
    Calls Tryd.prog 25 #[.pointer (some ⟨g, 0, none⟩)] w (BegPost g b bv w) := by
  have HRD := Lib.hid hb
  have HBY := Lib.hid hby
  have HR := Lib.hid hR
  obtain ⟨hmx, ao, cap, rfl, hcap, _, _⟩ := hb
  unfold maxLen at hmx
  clear hR hby
  go_enter Tryd.func25, Tryd.ntmps25
  go_wp2_with fail
  go_loopw [] (fun wr => ∃ (p f : Nat) (e : Int), p ≤ 3 ∧ Hid (RdrB g (.slice ao b.length cap) p f e wr) ∧ Hid (Only (fun k => k = g) w wr) ∧ Hid (BegSt b p f e)) (fun wr => 3 - atOf g wr)
  case atStart => exact ⟨0, 0, 0, by omega, HR, Lib.hid (Only.refl _ _), Lib.hid (.inl ⟨rfl, by omega, by omega, rfl⟩)⟩
  case round =>
    clear HR
    obtain ⟨p, f, e, hp3, HR, HO, HS⟩ := hrel
    obtain ⟨c0, c1, c2, c3⟩ := HR.out.cells
    have hfz := HR.out.free
    by_cases he : e = 0
    · subst he
      by_cases hp : p = 3
      · subst hp
        have HS0 := Lib.hid (show BegSt b 3 f 0 → 3 ≤ b.length ∧ decP b = startP b from fun h => by
          rcases h with ⟨_, _, h1, h2⟩ | ⟨h, _⟩
          · exact ⟨h1, h2⟩
          · exact absurd rfl h)
        go_wp2_with fail
        go_end0
        exact ⟨3, f, 0, rfl, HR.out, HO.out, fun _ => rfl, .inl ⟨rfl, (HS0.out HS.out).1, (HS0.out HS.out).2⟩⟩
      · obtain rfl | rfl | rfl : p = 0 ∨ p = 1 ∨ p = 2 := by omega
        · skip
          have HS0 := Lib.hid (show 0 ≤ b.length ∧ decP b = headP b (3 - 0) 0 by
            rcases HS.out with ⟨_, _, h1, h2⟩ | ⟨h, _⟩
            · exact ⟨h1, h2⟩
            · exact absurd rfl h)
          obtain ⟨hpl, _⟩ := HS0.out
          go_wp2_with fail
          generalize hW1 : wr.setCell ⟨g, 2, none⟩ (.int .i64 0) = W1 at *
          have HR1 := Lib.hid (show RdrB g (.slice ao b.length cap) 0 0 0 W1 by rw [← hW1]; exact HR.out.field 0)
          have HO1 := Lib.hid (show Only (fun k => k = g) w W1 by rw [← hW1]; exact HO.out.tr Only.cellG)
          have HRD1 := Lib.hid (HRD.out.beside HO1.out hne)
          clear hW1 c0 c1 c2 c3 hfz
          obtain ⟨c0, c1, c2, c3⟩ := HR1.out.cells
          by_cases hlt : 0 < b.length
          · obtain ⟨_, ao', cap', hao, _, _, hx⟩ := id HRD1.out
            obtain ⟨rfl, _, rfl⟩ : ao = ao' ∧ b.length = b.length ∧ cap = cap' := by simpa using hao
            obtain ⟨sb, off, rfl, hc⟩ := hx (by omega)
            have d1 := hc 0 _ (eInt_at .u8 b 0 hlt)
            try rw [Nat.add_zero] at d1
            have hi1 : (0 : Int) < (b.length : Int) := by omega
            have hi2 : ¬ (b.length : Int) ≤ 0 := by omega
            have hi6 : ¬ b.length ≤ 0 := by omega
            have hi3 : 0 < b.length := by omega
            have hi4 : ¬ b.length = 0 := by omega
            have hi5 : ¬ b = [] := fun h => by rw [h] at hi3; simp at hi3
            clear hc hx hao
            by_cases hxe : b[0] = headAt 0
            · have HS4 := Lib.hid (show BegSt b 1 0 0 from .inl ⟨rfl, by omega, by omega, by rw [HS0.out.2]; exact head_yes hlt hxe⟩)
              have hxv : b[0] = 84 := hxe
              clear hxe
              rw [hxv] at d1
              clear hxv
              go_quiet (fail)
              generalize hW2 : W1.drewN nq = W2 at *
              have HR1b := Lib.hid (show RdrB g (.slice (some ⟨sb, off, none⟩) b.length cap) 0 0 0 W2 by rw [← hW2]; exact HR1.out.drew nq)
              have HO1b := Lib.hid (show Only (fun k => k = g) w W2 by rw [← hW2]; exact HO1.out.drewN nq)
              have d2 := hW2 ▸ (show (W1.drewN nq).cell? _ = _ from d1)
              clear hW2 c0 c1 c2 c3 d1 HR1 HO1
              obtain ⟨c0, c1, c2, c3⟩ := HR1b.out.cells
              go_wp2_with fail
              go_quiet (fail)
              generalize hwE : W2.drewN nq = wE at *
              have HR3 := Lib.hid (show RdrB g (.slice (some ⟨sb, off, none⟩) b.length cap) 0 0 0 wE by rw [← hwE]; exact HR1b.out.drew nq)
              have HO3 := Lib.hid (show Only (fun k => k = g) w wE by rw [← hwE]; exact HO1b.out.drewN nq)
              clear hwE c0 c1 c2 c3 d2 HR1b HO1b
              have hR4 := HR3.out.at_ 1
              have HR4 := Lib.hid (show RdrB g (.slice (some ⟨sb, off, none⟩) b.length cap) 1 0 0 (wE.setCell ⟨g, 1, none⟩ (.int .i64 1)) from hR4)
              have hm : 3 - atOf g (wE.setCell ⟨g, 1, none⟩ (.int .i64 1)) < 3 - atOf g wr := by rw [HR4.out.atOf, HR.out.atOf]; omega
              have HM := Lib.hid hm
              obtain ⟨c0, c1, c2, c3⟩ := HR3.out.cells
              have hfz := HR3.out.free
              have HO4 := Lib.hid (HO3.out.tr (Only.cellG (i := 1) (v := .int .i64 1)))
              clear hR4 hm HR HR3 HO3
              go_wp2_with fail
              go_roundw
              case rel => exact ⟨1, 0, 0, by omega, HR4, HO4, HS4⟩
              case measure => exact HM.out
            · have HS4 := Lib.hid (show BegSt b 1 0 12 from .inr ⟨by decide, by omega, by rw [HS0.out.2]; exact head_no hlt hxe⟩)
              have hxv : (b[0] != 84) = true := by rw [bne_iff_ne]; exact fun h => hxe h
              have hxn : ¬ b[0] = 84 := fun h => hxe h
              have hxb : (b[0] == 84) = false := by rw [beq_eq_false_iff_ne]; exact fun h => hxe h
              clear hxe
              generalize b[0] = x at *
              have hx2 : (x != ((((⟨#[84, 80, 1]⟩ : ByteArray)[0]'(by decide)).toNat : Nat) : Int)) = true := hxv
              go_quiet (fail)
              generalize hW2 : W1.drewN nq = W2 at *
              have HR1b := Lib.hid (show RdrB g (.slice (some ⟨sb, off, none⟩) b.length cap) 0 0 0 W2 by rw [← hW2]; exact HR1.out.drew nq)
              have HO1b := Lib.hid (show Only (fun k => k = g) w W2 by rw [← hW2]; exact HO1.out.drewN nq)
              have d2 := hW2 ▸ (show (W1.drewN nq).cell? _ = _ from d1)
              clear hW2 c0 c1 c2 c3 d1 HR1 HO1
              obtain ⟨c0, c1, c2, c3⟩ := HR1b.out.cells
              go_wp2_with fail
              go_quiet (fail)
              generalize hwE : W2.drewN nq = wD at *
              have HR2 := Lib.hid (show RdrB g (.slice (some ⟨sb, off, none⟩) b.length cap) 0 0 0 wD by rw [← hwE]; exact HR1b.out.drew nq)
              have HO2 := Lib.hid (show Only (fun k => k = g) w wD by rw [← hwE]; exact HO1b.out.drewN nq)
              clear hwE c0 c1 c2 c3 d2 HR1b HO1b
              go_wp2_with fail
              refine (fail_live g _ 0 0 12 _ HR2.out).mono ?_
              rintro en wE ⟨rfl, hR3, hO3⟩
              have HR3 := Lib.hid hR3
              have HO3 := Lib.hid (HO2.out.tr hO3)
              clear hR3 hO3 HR2 HO2
              have hR4 := HR3.out.at_ 1
              have HR4 := Lib.hid (show RdrB g (.slice (some ⟨sb, off, none⟩) b.length cap) 1 0 12 (wE.setCell ⟨g, 1, none⟩ (.int .i64 1)) from hR4)
              have hm : 3 - atOf g (wE.setCell ⟨g, 1, none⟩ (.int .i64 1)) < 3 - atOf g wr := by rw [HR4.out.atOf, HR.out.atOf]; omega
              have HM := Lib.hid hm
              obtain ⟨c0, c1, c2, c3⟩ := HR3.out.cells
              have hfz := HR3.out.free
              have HO4 := Lib.hid (HO3.out.tr (Only.cellG (i := 1) (v := .int .i64 1)))
              clear hR4 hm HR HR3 HO3
              go_wp2_with fail
              go_roundw
              case rel => exact ⟨1, 0, 12, by omega, HR4, HO4, HS4⟩
              case measure => exact HM.out
          · have HS4 := Lib.hid (show BegSt b 1 0 10 from .inr ⟨by decide, by omega, by rw [HS0.out.2]; exact head_none (by omega)⟩)
            have hi2 : (b.length : Int) ≤ 0 := by omega
            have hi6 : b.length ≤ 0 := by omega
            have hi4 : b.length = 0 := by omega
            have hi5 : b = [] := List.eq_nil_of_length_eq_zero hi4
            go_quiet (fail)
            generalize hwE : W1.drewN nq = wD at *
            have HR2 := Lib.hid (show RdrB g (.slice ao b.length cap) 0 0 0 wD by rw [← hwE]; exact HR1.out.drew nq)
            have HO2 := Lib.hid (show Only (fun k => k = g) w wD by rw [← hwE]; exact HO1.out.drewN nq)
            clear hwE c0 c1 c2 c3 HR1 HO1
            go_wp2_with fail
            refine (fail_live g _ 0 0 10 _ HR2.out).mono ?_
            rintro en wE ⟨rfl, hR3, hO3⟩
            have HR3 := Lib.hid hR3
            have HO3 := Lib.hid (HO2.out.tr hO3)
            clear hR3 hO3 HR2 HO2
            have hR4 := HR3.out.at_ 1
            have HR4 := Lib.hid (show RdrB g (.slice ao b.length cap) 1 0 10 (wE.setCell ⟨g, 1, none⟩ (.int .i64 1)) from hR4)
            have hm : 3 - atOf g (wE.setCell ⟨g, 1, none⟩ (.int .i64 1)) < 3 - atOf g wr := by rw [HR4.out.atOf, HR.out.atOf]; omega
            have HM := Lib.hid hm
            obtain ⟨c0, c1, c2, c3⟩ := HR3.out.cells
            have hfz := HR3.out.free
            have HO4 := Lib.hid (HO3.out.tr (Only.cellG (i := 1) (v := .int .i64 1)))
            clear hR4 hm HR HR3 HO3
            go_wp2_with fail
            go_roundw
            case rel => exact ⟨1, 0, 10, by omega, HR4, HO4, HS4⟩
            case measure => exact HM.out
        · skip
          have HS0 := Lib.hid (show 1 ≤ b.length ∧ decP b = headP b (3 - 1) 1 by
            rcases HS.out with ⟨_, _, h1, h2⟩ | ⟨h, _⟩
            · exact ⟨h1, h2⟩
            · exact absurd rfl h)
          obtain ⟨hpl, _⟩ := HS0.out
          go_wp2_with fail
          generalize hW1 : wr.setCell ⟨g, 2, none⟩ (.int .i64 1) = W1 at *
          have HR1 := Lib.hid (show RdrB g (.slice ao b.length cap) 1 1 0 W1 by rw [← hW1]; exact HR.out.field 1)
          have HO1 := Lib.hid (show Only (fun k => k = g) w W1 by rw [← hW1]; exact HO.out.tr Only.cellG)
          have HRD1 := Lib.hid (HRD.out.beside HO1.out hne)
          clear hW1 c0 c1 c2 c3 hfz
          obtain ⟨c0, c1, c2, c3⟩ := HR1.out.cells
          by_cases hlt : 1 < b.length
          · obtain ⟨_, ao', cap', hao, _, _, hx⟩ := id HRD1.out
            obtain ⟨rfl, _, rfl⟩ : ao = ao' ∧ b.length = b.length ∧ cap = cap' := by simpa using hao
            obtain ⟨sb, off, rfl, hc⟩ := hx (by omega)
            have d1 := hc 1 _ (eInt_at .u8 b 1 hlt)
            try rw [Nat.add_zero] at d1
            have hi1 : (1 : Int) < (b.length : Int) := by omega
            have hi2 : ¬ (b.length : Int) ≤ 1 := by omega
            have hi6 : ¬ b.length ≤ 1 := by omega
            have hi3 : 0 < b.length := by omega
            have hi4 : ¬ b.length = 0 := by omega
            have hi5 : ¬ b = [] := fun h => by rw [h] at hi3; simp at hi3
            clear hc hx hao
            by_cases hxe : b[1] = headAt 1
            · have HS4 := Lib.hid (show BegSt b 2 1 0 from .inl ⟨rfl, by omega, by omega, by rw [HS0.out.2]; exact head_yes hlt hxe⟩)
              have hxv : b[1] = 80 := hxe
              clear hxe
              rw [hxv] at d1
              clear hxv
              go_quiet (fail)
              generalize hW2 : W1.drewN nq = W2 at *
              have HR1b := Lib.hid (show RdrB g (.slice (some ⟨sb, off, none⟩) b.length cap) 1 1 0 W2 by rw [← hW2]; exact HR1.out.drew nq)
              have HO1b := Lib.hid (show Only (fun k => k = g) w W2 by rw [← hW2]; exact HO1.out.drewN nq)
              have d2 := hW2 ▸ (show (W1.drewN nq).cell? _ = _ from d1)
              clear hW2 c0 c1 c2 c3 d1 HR1 HO1
              obtain ⟨c0, c1, c2, c3⟩ := HR1b.out.cells
              go_wp2_with fail
              go_quiet (fail)
              generalize hwE : W2.drewN nq = wE at *
              have HR3 := Lib.hid (show RdrB g (.slice (some ⟨sb, off, none⟩) b.length cap) 1 1 0 wE by rw [← hwE]; exact HR1b.out.drew nq)
              have HO3 := Lib.hid (show Only (fun k => k = g) w wE by rw [← hwE]; exact HO1b.out.drewN nq)
              clear hwE c0 c1 c2 c3 d2 HR1b HO1b
              have hR4 := HR3.out.at_ 2
              have HR4 := Lib.hid (show RdrB g (.slice (some ⟨sb, off, none⟩) b.length cap) 2 1 0 (wE.setCell ⟨g, 1, none⟩ (.int .i64 2)) from hR4)
              have hm : 3 - atOf g (wE.setCell ⟨g, 1, none⟩ (.int .i64 2)) < 3 - atOf g wr := by rw [HR4.out.atOf, HR.out.atOf]; omega
              have HM := Lib.hid hm
              obtain ⟨c0, c1, c2, c3⟩ := HR3.out.cells
              have hfz := HR3.out.free
              have HO4 := Lib.hid (HO3.out.tr (Only.cellG (i := 1) (v := .int .i64 2)))
              clear hR4 hm HR HR3 HO3
              go_wp2_with fail
              go_roundw
              case rel => exact ⟨2, 1, 0, by omega, HR4, HO4, HS4⟩
              case measure => exact HM.out
            · have HS4 := Lib.hid (show BegSt b 2 1 12 from .inr ⟨by decide, by omega, by rw [HS0.out.2]; exact head_no hlt hxe⟩)
              have hxv : (b[1] != 80) = true := by rw [bne_iff_ne]; exact fun h => hxe h
              have hxn : ¬ b[1] = 80 := fun h => hxe h
              have hxb : (b[1] == 80) = false := by rw [beq_eq_false_iff_ne]; exact fun h => hxe h
              clear hxe
              generalize b[1] = x at *
              have hx2 : (x != ((((⟨#[84, 80, 1]⟩ : ByteArray)[1]'(by decide)).toNat : Nat) : Int)) = true := hxv
              go_quiet (fail)
              generalize hW2 : W1.drewN nq = W2 at *
              have HR1b := Lib.hid (show RdrB g (.slice (some ⟨sb, off, none⟩) b.length cap) 1 1 0 W2 by rw [← hW2]; exact HR1.out.drew nq)
              have HO1b := Lib.hid (show Only (fun k => k = g) w W2 by rw [← hW2]; exact HO1.out.drewN nq)
              have d2 := hW2 ▸ (show (W1.drewN nq).cell? _ = _ from d1)
              clear hW2 c0 c1 c2 c3 d1 HR1 HO1
              obtain ⟨c0, c1, c2, c3⟩ := HR1b.out.cells
              go_wp2_with fail
              go_quiet (fail)
              generalize hwE : W2.drewN nq = wD at *
              have HR2 := Lib.hid (show RdrB g (.slice (some ⟨sb, off, none⟩) b.length cap) 1 1 0 wD by rw [← hwE]; exact HR1b.out.drew nq)
              have HO2 := Lib.hid (show Only (fun k => k = g) w wD by rw [← hwE]; exact HO1b.out.drewN nq)
              clear hwE c0 c1 c2 c3 d2 HR1b HO1b
              go_wp2_with fail
              refine (fail_live g _ 1 1 12 _ HR2.out).mono ?_
              rintro en wE ⟨rfl, hR3, hO3⟩
              have HR3 := Lib.hid hR3
              have HO3 := Lib.hid (HO2.out.tr hO3)
              clear hR3 hO3 HR2 HO2
              have hR4 := HR3.out.at_ 2
              have HR4 := Lib.hid (show RdrB g (.slice (some ⟨sb, off, none⟩) b.length cap) 2 1 12 (wE.setCell ⟨g, 1, none⟩ (.int .i64 2)) from hR4)
              have hm : 3 - atOf g (wE.setCell ⟨g, 1, none⟩ (.int .i64 2)) < 3 - atOf g wr := by rw [HR4.out.atOf, HR.out.atOf]; omega
              have HM := Lib.hid hm
              obtain ⟨c0, c1, c2, c3⟩ := HR3.out.cells
              have hfz := HR3.out.free
              have HO4 := Lib.hid (HO3.out.tr (Only.cellG (i := 1) (v := .int .i64 2)))
              clear hR4 hm HR HR3 HO3
              go_wp2_with fail
              go_roundw
              case rel => exact ⟨2, 1, 12, by omega, HR4, HO4, HS4⟩
              case measure => exact HM.out
          · have HS4 := Lib.hid (show BegSt b 2 1 10 from .inr ⟨by decide, by omega, by rw [HS0.out.2]; exact head_none (by omega)⟩)
            have hi2 : (b.length : Int) ≤ 1 := by omega
            have hi6 : b.length ≤ 1 := by omega
            go_quiet (fail)
            generalize hwE : W1.drewN nq = wD at *
            have HR2 := Lib.hid (show RdrB g (.slice ao b.length cap) 1 1 0 wD by rw [← hwE]; exact HR1.out.drew nq)
            have HO2 := Lib.hid (show Only (fun k => k = g) w wD by rw [← hwE]; exact HO1.out.drewN nq)
            clear hwE c0 c1 c2 c3 HR1 HO1
            go_wp2_with fail
            refine (fail_live g _ 1 1 10 _ HR2.out).mono ?_
            rintro en wE ⟨rfl, hR3, hO3⟩
            have HR3 := Lib.hid hR3
            have HO3 := Lib.hid (HO2.out.tr hO3)
            clear hR3 hO3 HR2 HO2
            have hR4 := HR3.out.at_ 2
            have HR4 := Lib.hid (show RdrB g (.slice ao b.length cap) 2 1 10 (wE.setCell ⟨g, 1, none⟩ (.int .i64 2)) from hR4)
            have hm : 3 - atOf g (wE.setCell ⟨g, 1, none⟩ (.int .i64 2)) < 3 - atOf g wr := by rw [HR4.out.atOf, HR.out.atOf]; omega
            have HM := Lib.hid hm
            obtain ⟨c0, c1, c2, c3⟩ := HR3.out.cells
            have hfz := HR3.out.free
            have HO4 := Lib.hid (HO3.out.tr (Only.cellG (i := 1) (v := .int .i64 2)))
            clear hR4 hm HR HR3 HO3
            go_wp2_with fail
            go_roundw
            case rel => exact ⟨2, 1, 10, by omega, HR4, HO4, HS4⟩
            case measure => exact HM.out
        · skip
          have HS0 := Lib.hid (show 2 ≤ b.length ∧ decP b = headP b (3 - 2) 2 by
            rcases HS.out with ⟨_, _, h1, h2⟩ | ⟨h, _⟩
            · exact ⟨h1, h2⟩
            · exact absurd rfl h)
          obtain ⟨hpl, _⟩ := HS0.out
          go_wp2_with fail
          generalize hW1 : wr.setCell ⟨g, 2, none⟩ (.int .i64 2) = W1 at *
          have HR1 := Lib.hid (show RdrB g (.slice ao b.length cap) 2 2 0 W1 by rw [← hW1]; exact HR.out.field 2)
          have HO1 := Lib.hid (show Only (fun k => k = g) w W1 by rw [← hW1]; exact HO.out.tr Only.cellG)
          have HRD1 := Lib.hid (HRD.out.beside HO1.out hne)
          clear hW1 c0 c1 c2 c3 hfz
          obtain ⟨c0, c1, c2, c3⟩ := HR1.out.cells
          by_cases hlt : 2 < b.length
          · obtain ⟨_, ao', cap', hao, _, _, hx⟩ := id HRD1.out
            obtain ⟨rfl, _, rfl⟩ : ao = ao' ∧ b.length = b.length ∧ cap = cap' := by simpa using hao
            obtain ⟨sb, off, rfl, hc⟩ := hx (by omega)
            have d1 := hc 2 _ (eInt_at .u8 b 2 hlt)
            try rw [Nat.add_zero] at d1
            have hi1 : (2 : Int) < (b.length : Int) := by omega
            have hi2 : ¬ (b.length : Int) ≤ 2 := by omega
            have hi6 : ¬ b.length ≤ 2 := by omega
            have hi3 : 0 < b.length := by omega
            have hi4 : ¬ b.length = 0 := by omega
            have hi5 : ¬ b = [] := fun h => by rw [h] at hi3; simp at hi3
            clear hc hx hao
            by_cases hxe : b[2] = headAt 2
            · have HS4 := Lib.hid (show BegSt b 3 2 0 from .inl ⟨rfl, by omega, by omega, by rw [HS0.out.2]; exact head_yes hlt hxe⟩)
              have hxv : b[2] = 1 := hxe
              clear hxe
              rw [hxv] at d1
              clear hxv
              go_quiet (fail)
              generalize hW2 : W1.drewN nq = W2 at *
              have HR1b := Lib.hid (show RdrB g (.slice (some ⟨sb, off, none⟩) b.length cap) 2 2 0 W2 by rw [← hW2]; exact HR1.out.drew nq)
              have HO1b := Lib.hid (show Only (fun k => k = g) w W2 by rw [← hW2]; exact HO1.out.drewN nq)
              have d2 := hW2 ▸ (show (W1.drewN nq).cell? _ = _ from d1)
              clear hW2 c0 c1 c2 c3 d1 HR1 HO1
              obtain ⟨c0, c1, c2, c3⟩ := HR1b.out.cells
              go_wp2_with fail
              go_quiet (fail)
              generalize hwE : W2.drewN nq = wE at *
              have HR3 := Lib.hid (show RdrB g (.slice (some ⟨sb, off, none⟩) b.length cap) 2 2 0 wE by rw [← hwE]; exact HR1b.out.drew nq)
              have HO3 := Lib.hid (show Only (fun k => k = g) w wE by rw [← hwE]; exact HO1b.out.drewN nq)
              clear hwE c0 c1 c2 c3 d2 HR1b HO1b
              have hR4 := HR3.out.at_ 3
              have HR4 := Lib.hid (show RdrB g (.slice (some ⟨sb, off, none⟩) b.length cap) 3 2 0 (wE.setCell ⟨g, 1, none⟩ (.int .i64 3)) from hR4)
              have hm : 3 - atOf g (wE.setCell ⟨g, 1, none⟩ (.int .i64 3)) < 3 - atOf g wr := by rw [HR4.out.atOf, HR.out.atOf]; omega
              have HM := Lib.hid hm
              obtain ⟨c0, c1, c2, c3⟩ := HR3.out.cells
              have hfz := HR3.out.free
              have HO4 := Lib.hid (HO3.out.tr (Only.cellG (i := 1) (v := .int .i64 3)))
              clear hR4 hm HR HR3 HO3
              go_wp2_with fail
              go_roundw
              case rel => exact ⟨3, 2, 0, by omega, HR4, HO4, HS4⟩
              case measure => exact HM.out
            · have HS4 := Lib.hid (show BegSt b 3 2 12 from .inr ⟨by decide, by omega, by rw [HS0.out.2]; exact head_no hlt hxe⟩)
              have hxv : (b[2] != 1) = true := by rw [bne_iff_ne]; exact fun h => hxe h
              have hxn : ¬ b[2] = 1 := fun h => hxe h
              have hxb : (b[2] == 1) = false := by rw [beq_eq_false_iff_ne]; exact fun h => hxe h
              clear hxe
              generalize b[2] = x at *
              have hx2 : (x != ((((⟨#[84, 80, 1]⟩ : ByteArray)[2]'(by decide)).toNat : Nat) : Int)) = true := hxv
              go_quiet (fail)
              generalize hW2 : W1.drewN nq = W2 at *
              have HR1b := Lib.hid (show RdrB g (.slice (some ⟨sb, off, none⟩) b.length cap) 2 2 0 W2 by rw [← hW2]; exact HR1.out.drew nq)
              have HO1b := Lib.hid (show Only (fun k => k = g) w W2 by rw [← hW2]; exact HO1.out.drewN nq)
              have d2 := hW2 ▸ (show (W1.drewN nq).cell? _ = _ from d1)
              clear hW2 c0 c1 c2 c3 d1 HR1 HO1
              obtain ⟨c0, c1, c2, c3⟩ := HR1b.out.cells
              go_wp2_with fail
              go_quiet (fail)
              generalize hwE : W2.drewN nq = wD at *
              have HR2 := Lib.hid (show RdrB g (.slice (some ⟨sb, off, none⟩) b.length cap) 2 2 0 wD by rw [← hwE]; exact HR1b.out.drew nq)
              have HO2 := Lib.hid (show Only (fun k => k = g) w wD by rw [← hwE]; exact HO1b.out.drewN nq)
              clear hwE c0 c1 c2 c3 d2 HR1b HO1b
              go_wp2_with fail
              refine (fail_live g _ 2 2 12 _ HR2.out).mono ?_
              rintro en wE ⟨rfl, hR3, hO3⟩
              have HR3 := Lib.hid hR3
              have HO3 := Lib.hid (HO2.out.tr hO3)
              clear hR3 hO3 HR2 HO2
              have hR4 := HR3.out.at_ 3
              have HR4 := Lib.hid (show RdrB g (.slice (some ⟨sb, off, none⟩) b.length cap) 3 2 12 (wE.setCell ⟨g, 1, none⟩ (.int .i64 3)) from hR4)
              have hm : 3 - atOf g (wE.setCell ⟨g, 1, none⟩ (.int .i64 3)) < 3 - atOf g wr := by rw [HR4.out.atOf, HR.out.atOf]; omega
              have HM := Lib.hid hm
              obtain ⟨c0, c1, c2, c3⟩ := HR3.out.cells
              have hfz := HR3.out.free
              have HO4 := Lib.hid (HO3.out.tr (Only.cellG (i := 1) (v := .int .i64 3)))
              clear hR4 hm HR HR3 HO3
              go_wp2_with fail
              go_roundw
              case rel => exact ⟨3, 2, 12, by omega, HR4, HO4, HS4⟩
              case measure => exact HM.out
          · have HS4 := Lib.hid (show BegSt b 3 2 10 from .inr ⟨by decide, by omega, by rw [HS0.out.2]; exact head_none (by omega)⟩)
            have hi2 : (b.length : Int) ≤ 2 := by omega
            have hi6 : b.length ≤ 2 := by omega
            go_quiet (fail)
            generalize hwE : W1.drewN nq = wD at *
            have HR2 := Lib.hid (show RdrB g (.slice ao b.length cap) 2 2 0 wD by rw [← hwE]; exact HR1.out.drew nq)
            have HO2 := Lib.hid (show Only (fun k => k = g) w wD by rw [← hwE]; exact HO1.out.drewN nq)
            clear hwE c0 c1 c2 c3 HR1 HO1
            go_wp2_with fail
            refine (fail_live g _ 2 2 10 _ HR2.out).mono ?_
            rintro en wE ⟨rfl, hR3, hO3⟩
            have HR3 := Lib.hid hR3
            have HO3 := Lib.hid (HO2.out.tr hO3)
            clear hR3 hO3 HR2 HO2
            have hR4 := HR3.out.at_ 3
            have HR4 := Lib.hid (show RdrB g (.slice ao b.length cap) 3 2 10 (wE.setCell ⟨g, 1, none⟩ (.int .i64 3)) from hR4)
            have hm : 3 - atOf g (wE.setCell ⟨g, 1, none⟩ (.int .i64 3)) < 3 - atOf g wr := by rw [HR4.out.atOf, HR.out.atOf]; omega
            have HM := Lib.hid hm
            obtain ⟨c0, c1, c2, c3⟩ := HR3.out.cells
            have hfz := HR3.out.free
            have HO4 := Lib.hid (HO3.out.tr (Only.cellG (i := 1) (v := .int .i64 3)))
            clear hR4 hm HR HR3 HO3
            go_wp2_with fail
            go_roundw
            case rel => exact ⟨3, 2, 10, by omega, HR4, HO4, HS4⟩
            case measure => exact HM.out
    · have hq : (e == 0) = false := by simpa using he
      have HT := Lib.hid (show decP b = .bad f e by
        rcases HS.out with ⟨h, _⟩ | ⟨_, _, h⟩
        · exact absurd h he
        · exact h)
      by_cases hp : p < 3
      · have hp2 : (p : Int) < 3 := by omega
        go_wp2_with fail
        go_end0
        exact ⟨p, f, e, rfl, HR.out, HO.out, fun h => absurd h he, .inr ⟨he, HT.out⟩⟩
      · have hp2 : ¬ (p : Int) < 3 := by omega
        go_wp2_with fail
        go_end0
        exact ⟨p, f, e, rfl, HR.out, HO.out, fun h => absurd h he, .inr ⟨he, HT.out⟩⟩
end Go.Proofs.YtkocfgaajghggaaDoor
