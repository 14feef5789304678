/- The law OwnerOrders: whatever the input, the Go function answers true, and each argument reads behind the call as it read before. Conditions: none beyond the row's own. -/
import Derived.Test.YtdlkblklfoagbaaOwnOrdLaw
import Derived.Test.YtdlkblklfoagbaaMH

namespace Go.Proofs.Ytdlkblklfoagbaa.ownerOrders
open Go.ChangeShapes Go.WideShapes Go.ChangeAt Go.RowKit
open Go.ChangeMaps (open_string shut_string)
set_option linter.unusedVariables false

set_option maxRecDepth 100000 in
theorem contract (H : Type) (enc : TypeId × Value → H) (W : World) (base : Nat) (args : Array Value) (ds gs : List (DataW H)) (before : List MemPlace)
    (hval0 : ∀ (j : Nat) t v, Try.f6.params[j]? = some t → args[j]? = some v → Value.okWide Try.prog W .any base t v)
    (hW : DataW.Whole enc Try.prog Try.f6.params.toList Rows.ownerOrdersSpec.vars false W args.toList ds gs before) (hsz : (DataW.weightsEach Try.prog (Try.f6.params.toList ++ Rows.ownerOrdersSpec.plain.varTypes Try.prog) (ds ++ gs)).all (· ≤ reachBytes) = true) :
    Calls Try.prog 6 args W fun e W' => ∃ v, e = .returned v ∧ Rows.ownerOrdersSpec.post enc Try.prog Try.f6 false true false false W args v W' := by
  have hval : ∀ (j : Nat) t v, Try.f6.params[j]? = some t → args[j]? = some v → Value.okWide Try.prog W .any base t v := hval0
  have hW' := hW
  obtain ⟨p, q, hA0, hV, rfl, hfz, hnd⟩ := hW
  have hA : DataW.TrodAll enc Try.prog W 0 (fun _ => true) true Try.f6.params.toList args.toList ds p := hA0
  rw [Try.params6] at hA hval hsz
  obtain ⟨v0, vs0, d0, ds0, p0, q0, hargs, rfl, rfl, h0, r0⟩ := trodAll_cons hA
  obtain ⟨v1, vs1, d1, ds1, p1, q1, rfl, rfl, rfl, h1, r1⟩ := trodAll_cons r0
  obtain ⟨v2, vs2, d2, ds2, p2, q2, rfl, rfl, rfl, h2, r2⟩ := trodAll_cons r1
  obtain ⟨rfl, rfl, rfl⟩ := trodAll_nil r2
  obtain rfl : args = #[v0, v1, v2] := by cases args; simp_all
  obtain ⟨rfl, rfl⟩ := trodVars_none hV
  have k0 := h0
  have lt0 : ∀ x ∈ p0, x.block < W.heap.size := by obtain ⟨m, hm⟩ := k0; exact DataW.trod_lt m _ _ _ hm
  obtain ⟨x0, rfl, o0⟩ := (fun ho h => open_shape ho h (sizedAt hsz 0 rfl rfl)) (hval 0 24 v0 rfl rfl) h0
  obtain ⟨ao1, len1, cap1, rfl⟩ := okWide_slice Try.underlying25 (hval 1 25 v1 rfl rfl)
  have k1 := h1
  have lt1 : ∀ x ∈ p1, x.block < W.heap.size := by obtain ⟨m, hm⟩ := k1; exact DataW.trod_lt m _ _ _ hm
  obtain ⟨x1, r1', e1, o1, z1⟩ := open_rd (E := eReq) Try.underlying25 eReq_dec h1
  have l1 : x1.length * Try.prog.bytesOf 37 ≤ 140737488351232 := by
    rcases z1 with ⟨_, hl, _⟩ | ⟨el, sp, rfl, hl, _⟩
    · rw [e1, hl]; simp
    · have := sized_slice hsz (j := 1) (t := 25) (e := 37) rfl rfl Try.underlying25
      rw [e1, ← hl]
      exact Nat.le_trans (Nat.mul_le_mul_right _ (Nat.le_add_right _ _)) this
  rw [show Try.prog.bytesOf 37 = 56 by kernel_rfl] at l1
  obtain ⟨ao2, len2, cap2, rfl⟩ := okWide_slice Try.underlying69 (hval 2 69 v2 rfl rfl)
  have k2 := h2
  have lt2 : ∀ x ∈ p2, x.block < W.heap.size := by obtain ⟨m, hm⟩ := k2; exact DataW.trod_lt m _ _ _ hm
  obtain ⟨x2, r2', e2, o2, z2⟩ := open_rd (E := (eInt .i64)) Try.underlying69 (dec_int Try.underlying3 (by kernel_rfl)) h2
  have l2 : x2.length * Try.prog.bytesOf 3 ≤ 140737488351232 := by
    rcases z2 with ⟨_, hl, _⟩ | ⟨el, sp, rfl, hl, _⟩
    · rw [e2, hl]; simp
    · have := sized_slice hsz (j := 2) (t := 69) (e := 3) rfl rfl Try.underlying69
      rw [e2, ← hl]
      exact Nat.le_trans (Nat.mul_le_mul_right _ (Nat.le_add_right _ _)) this
  rw [show Try.prog.bytesOf 3 = 8 by kernel_rfl] at l2
  clear hA0 hval0
  refine (ownerOrders_any x0 x1 _ x2 _ W o0 r1' l1 o1 r2' l2 o2).mono fun e W' ⟨he, bel⟩ => ?_
  subst he
  exact ⟨_, rfl, _, _, _, [], _, [], hW', trodAll_mk1 (shut_bool Try.underlying4 _), (trodAll_cons_mk (Below.trod laidOut (by kernel_rfl) (of_decide_eq_true (by kernel_rfl)) k0 bel lt0) (trodAll_cons_mk (Below.trod laidOut (by kernel_rfl) (of_decide_eq_true (by kernel_rfl)) k1 bel lt1) (trodAll_cons_mk (Below.trod laidOut (by kernel_rfl) (of_decide_eq_true (by kernel_rfl)) k2 bel lt2) trodAll_mk0))), rfl, bel.frame _, fun h => by cases h⟩

set_option maxRecDepth 100000 in
theorem lifted (os : Os) (started : os.Started) (H : Type) (enc : TypeId × Value → H) :
    ReturnsInHanded {} Try.checked os 6 .any (Rows.ownerOrdersSpec.pre6 enc Try.prog Try.f6 Rows.ownerOrdersRow.domain false) (Rows.ownerOrdersSpec.post enc Try.prog Try.f6 false true false false) := by
  refine returnsInHanded_of_change_sized (C := Try.checked) own started (by kernel_rfl) Try.func6
    (ChangeSpec.witness6 (enc := enc) (C := Try.checked) false ⟨#[], #[.agg #[.int .i64 0, .int .i64 0, .slice none 0 0], .slice none 0 0, .slice none 0 0], []⟩ 8 (by kernel_rfl) (by kernel_rfl) (by kernel_rfl) (by kernel_rfl)) ?_
  intro W base args ds gs before hval hW _ hsz _
  exact contract H enc W base args ds gs before hval hW hsz

theorem over : Rows.ownerOrdersRow.holds Try.pinned (OpenSpec.ofChange Rows.ownerOrdersSpec) :=
  OpenClaim.holds_of_wide 6 Try.f6 rfl rfl rfl rfl rfl rfl rfl ⟨rfl, rfl, rfl, rfl, rfl⟩ rfl rfl rfl rfl rfl (by kernel_rfl) Try.func6 (by kernel_rfl)
    (of_decide_eq_true (by kernel_rfl)) (by unfold Func.isWrapper; first | (rw [if_pos (by decide +kernel)]; kernel_rfl) | (rw [if_neg (by decide +kernel)]; exact ⟨rfl, rfl⟩))
    (fun os started H enc _ => lifted os started H enc)

theorem proved : Rows.OwnerOrdersSaid := over
#print axioms proved
end Go.Proofs.Ytdlkblklfoagbaa.ownerOrders
