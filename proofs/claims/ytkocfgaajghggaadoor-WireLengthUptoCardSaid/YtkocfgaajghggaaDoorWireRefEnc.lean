/- wire: the document's Encode. -/
import Derived.Test.YtkocfgaajghggaaDoorWireFields
namespace Go.Proofs.YtkocfgaajghggaaDoor
open Go.RowKit
set_option linter.unusedVariables false
set_option linter.unusedSimpArgs false

set_option maxRecDepth 100000 in
set_option maxHeartbeats 4000000 in
theorem refEncode_bad (ms : List Int) (cs : List InstD) (vm vc : Value) (w : World) (hm : Rd (eInt .i64) w vm ms) (hc : Rd eInst w vc cs) (h : modP ms cs = false) :
    Calls Tryd.prog 12 #[.agg #[vm, vc]] w fun e w' => e = .returned (.tuple #[.slice none 0 0, .int .i64 2]) ∧ Only (fun _ => False) w w' := by
  have HFM := Lib.hid (fun W (h : Only (fun _ => False) w W) => refFormed_any ms cs vm vc W (hm.only h) (hc.only h))
  rw [h] at HFM
  obtain ⟨_, am, capm, rfl, _⟩ := hm
  obtain ⟨_, ac, capc, rfl, _⟩ := hc
  go_enter Tryd.func12, Tryd.ntmps12
  go_wp2_with fail
  refine (HFM.out _ (Only.alloc _ _ _)).mono ?_
  rintro e w1 ⟨rfl, hO⟩
  have HO := Lib.hid ((Only.alloc (fun _ => False) w _).tr hO)
  go_wp2_with fail
  go_ret2
  exact ⟨rfl, HO.out⟩
theorem flat_step {Ls : List (List Int)} {k : Nat} (h : k < Ls.length) : (Ls.take (k + 1)).flatten = (Ls.take k).flatten ++ Ls[k] := by
  rw [List.take_succ_eq_append_getElem h, List.flatten_append]; simp
theorem flat_len {Ls : List (List Int)} (h : ∀ l ∈ Ls, l.length ≤ 10) (k : Nat) : (Ls.take k).flatten.length ≤ 10 * k := by
  induction k generalizing Ls with
  | zero => simp
  | succ k ih =>
    cases Ls with
    | nil => simp
    | cons l r =>
      have h1 := h l (by simp)
      have h2 := ih (Ls := r) fun l hl => h l (List.mem_cons_of_mem _ hl)
      simp only [List.take_succ_cons, List.flatten_cons, List.length_append]
      omega
def Short10 (Ls : List (List Int)) : Prop := ∀ l ∈ Ls, l.length ≤ 10
theorem Short10.app {A B : List (List Int)} (h1 : Short10 A) (h2 : Short10 B) : Short10 (A ++ B) := fun l hl => (List.mem_append.1 hl).elim (h1 l) (h2 l)
theorem Short10.nil : Short10 [] := fun l hl => by simp at hl
theorem Short10.cons {l : List Int} {r : List (List Int)} (h : l.length ≤ 10) (h2 : Short10 r) : Short10 (l :: r) := fun x hx => (List.mem_cons.1 hx).elim (fun e => e ▸ h) (h2 x)
theorem leb_short (n : Int) : (leb1 n).length ≤ 10 := (leb1_len n).2
theorem instF_short (i : InstD) : Short10 (instF i) := .cons (leb_short _) (.cons (leb_short _) (.cons (leb_short _) (.cons (leb_short _) (.cons (leb_short _) .nil))))
theorem fM_short (ms : List Int) (k : Nat) : Short10 (fM ms k) :=
  Short10.app (.cons (by decide) (.cons (by decide) (.cons (by decide) (.cons (leb_short _) .nil)))) fun l hl => by
    obtain ⟨m, _, rfl⟩ := List.mem_map.1 hl
    exact leb_short m
theorem fC_short (ms : List Int) (cs : List InstD) (k : Nat) : ∀ l ∈ fC ms cs k, l.length ≤ 10 :=
  Short10.app (Short10.app (fM_short ms ms.length) (.cons (leb_short _) .nil)) fun l hl => by
    obtain ⟨i, _, h⟩ := List.mem_flatMap.1 hl
    exact instF_short i l h
set_option maxRecDepth 100000 in
set_option maxHeartbeats 4000000 in
theorem refEncode_ok (ms : List Int) (cs : List InstD) (vm vc : Value) (w : World) (hm : Rd (eInt .i64) w vm ms) (hc : Rd eInst w vc cs) (hi : ∀ i ∈ cs, ImmOk i) (h : modP ms cs = true) :
    Calls Tryd.prog 12 #[.agg #[vm, vc]] w fun e w' => ∃ v', e = .returned (.tuple #[v', .int .i64 0]) ∧ OwS eU8 5 (fun k => w.heap.size ≤ k) w' v' (encP ms cs) ∧ Only (fun _ => False) w w' := by
  have HFM := Lib.hid (fun W (h : Only (fun _ => False) w W) => refFormed_any ms cs vm vc W (hm.only h) (hc.only h))
  rw [h] at HFM
  have HFI := Lib.hid (fun W (h0 : Only (fun _ => False) w W) => fields_any ms cs vm vc W (hm.only h0) (hc.only h0) hi h)
  have hcl : cs.length ≤ 64 := (modP_ok h).2.2.1
  have hml : ms.length ≤ 4 := (modP_ok h).1.1
  obtain ⟨_, am, capm, rfl, _⟩ := hm
  obtain ⟨_, ac, capc, rfl, _⟩ := hc
  clear h hi
  go_enter Tryd.func12, Tryd.ntmps12
  go_wp2_with fail
  refine (HFM.out _ (Only.alloc _ _ _)).mono ?_
  rintro e w1 ⟨rfl, hO⟩
  have HB := Lib.hid (hO.heap (heap_alloc_new w (.cells #[.slice am ms.length capm, .slice ac cs.length capc] 25)) id)
  have HO := Lib.hid ((Only.alloc (fun _ => False) w (.cells #[.slice am ms.length capm, .slice ac cs.length capc] 25)).tr hO)
  have b0 := cells_of_heap HB.out 0 _ rfl
  have b1 := cells_of_heap HB.out 1 _ rfl
  have hbl := heap_lt HB.out
  clear hO HFM
  go_wp2_with fail
  refine (HFI.out _ HO.out).mono ?_
  rintro e w2 ⟨vf, rfl, hf, hO2⟩
  have HO2 := Lib.hid (HO.out.tr hO2)
  have hfl := fC_len ms cs cs.length
  have HFS := Lib.hid (fC_short ms cs cs.length)
  have HFA := Lib.hid (fC_all ms cs)
  generalize fC ms cs cs.length = Ls at *
  obtain ⟨svs, hs, hl, hr⟩ := hf
  have HS := Lib.hid hs.rd
  have HRW := Lib.hid hr
  obtain ⟨_, af, cf, rfl, _⟩ := id hs.1
  clear hs hr hO2 HFI b0 b1 hbl HB HO
  go_wp2_with fail
  go_loopw [4, 6] (fun t4 t6 wr => ∃ k : Nat, k ≤ svs.length ∧ t6 = .int .i64 k ∧ Hid (OwS eU8 5 (fun k => w2.heap.size ≤ k) wr t4 (Ls.take k).flatten) ∧ Hid (Only (fun _ => False) w2 wr)) (fun _ t6 _ => svs.length - (intOf t6).toNat)
  case atStart => exact ⟨0, Nat.zero_le _, rfl, Lib.hid (by simpa using OwS.nil _ _), Lib.hid (Only.refl _ _)⟩
  case round =>
    obtain ⟨k, hk, rfl, HX, HOr⟩ := hrel
    by_cases hlt : k < svs.length
    · have hlt2 : k < Ls.length := by omega
      obtain ⟨_, af', cf', hao, _, _, hx⟩ := HS.out.only HOr.out
      obtain ⟨rfl, _, rfl⟩ : af = af' ∧ svs.length = svs.length ∧ cf = cf' := by simpa using hao
      obtain ⟨sb, off, rfl, hcx⟩ := hx (by omega)
      have c5 := hcx k _ (eSl_at svs k hlt)
      have hi0 : (0 : Int) ≤ (k : Int) := by omega
      have hi1 : (k : Int) < (svs.length : Int) := by omega
      have HRK := Lib.hid ((HRW.out k hlt hlt2).rd.only HOr.out)
      have HST := Lib.hid (flat_step hlt2)
      have hfk := flat_len HFS.out k
      have hlk := HFS.out _ (List.getElem_mem hlt2)
      clear hcx hx hao
      generalize svs[k] = sv at *
      generalize Ls[k] = l at *
      obtain ⟨sa, sn, sc⟩ := sv
      have c6 : wr.cell? ⟨sb, off + k, none⟩ = some (.slice sa sn sc) := c5
      have HRK2 := Lib.hid (show Rd eU8 wr (.slice sa sn sc) l from HRK.out)
      clear c5 HRK
      go_wp2_with (at_builtin; refine wl_appendS (E := eU8) rfl _ (.tmp 22) _ rfl 5 1 sliceU8 (fun k => w2.heap.size ≤ k) _ (Ls.take k).flatten rfl HX.out _ l rfl HRK2.out (by omega) (by unfold maxLen; omega) ?_)
      intro v5 w5 h5 hO5
      have HO5 := Lib.hid (HOr.out.trans hO5 fun k hk h => by omega)
      have HX5 := Lib.hid (show OwS eU8 5 (fun k => w2.heap.size ≤ k) w5 v5 (Ls.take (k + 1)).flatten by
        rw [HST.out]
        exact OwS.framed.mono _ _ _ h5 fun k _ h => h.elim id fun h => Nat.le_trans HOr.out.size h)
      clear h5 hO5 c6
      go_wp2_with fail
      go_roundw
      case rel => exact ⟨k + 1, by omega, by go_num, HX5, HO5⟩
      case measure => simp [intOf]; omega
    · have h := HX.out
      rw [List.take_of_length_le (by omega), HFA.out] at h
      have HF := Lib.hid h
      clear h
      go_wp2_with fail
      go_ret2
      exact ⟨_, rfl, OwS.framed.mono _ _ _ HF.out fun k _ h => Nat.le_trans HO2.out.size h, HO2.out.tr HOr.out⟩
end Go.Proofs.YtkocfgaajghggaaDoor
