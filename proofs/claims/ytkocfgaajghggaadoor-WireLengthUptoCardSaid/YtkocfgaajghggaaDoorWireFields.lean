/- wire: the document's Fields and Encode. (printed by wirefields.py) -/
import Derived.Test.YtkocfgaajghggaaDoorWireFormed
import Derived.Deep.RegionHeld3
namespace Go.Proofs.YtkocfgaajghggaaDoor
open Go.RowKit
set_option linter.unusedVariables false
set_option linter.unusedSimpArgs false

theorem one_o (n : Int) (w : World) (h0 : 0 ≤ n) (h1 : n ≤ 18446744073709551615) :
    Calls Tryd.prog 39 #[.int .u64 n] w fun e w' => ∃ v', e = .returned v' ∧ OwS eU8 5 (fun k => w.heap.size ≤ k) w' v' (leb1 n) ∧ Only (fun _ => False) w w' :=
  (one_any n w h0 h1).mono fun e w' ⟨v', he, ho, hb⟩ => ⟨v', he, OwS.of_ow ho, Only.of_below hb fun k h1 h2 => by omega⟩
theorem cells5 {w : World} {g : Nat} {a b c d e : Value} (h : w.heap[g]? = some (.cells #[a, b, c, d, e] 44 (0, 0))) :
    w.cell? ⟨g, 0, none⟩ = some a ∧ w.cell? ⟨g, 1, none⟩ = some b ∧ w.cell? ⟨g, 2, none⟩ = some c ∧ w.cell? ⟨g, 3, none⟩ = some d ∧ w.cell? ⟨g, 4, none⟩ = some e :=
  ⟨cells_of_heap h 0 _ rfl, cells_of_heap h 1 _ rfl, cells_of_heap h 2 _ rfl, cells_of_heap h 3 _ rfl, cells_of_heap h 4 _ rfl⟩
theorem eSl_slice : SliceInfo Tryd.prog 52 28 1 24 := SliceInfo.mk' Tryd.underlying52 (z := .slice none 0 0) (by kernel_rfl) rfl
/-- fields: a slice of slices of bytes -/
def FG (B : Nat) (w : World) (v : Value) (Ls : List (List Int)) : Prop := ∃ svs : List SV, OwS eSl 28 (fun k => B ≤ k) w v svs ∧ svs.length = Ls.length ∧ ∀ i (h : i < svs.length) (h2 : i < Ls.length), OwS eU8 5 (fun k => B ≤ k) w svs[i].val Ls[i]
theorem FG.keep0 {B : Nat} {w w' : World} {v : Value} {Ls : List (List Int)} (h : FG B w v Ls) (hO : Only (fun _ => False) w w') : FG B w' v Ls := by
  obtain ⟨svs, h1, h2, h3⟩ := h
  exact ⟨svs, h1.keep0 hO, h2, fun i h h2 => (h3 i h h2).keep0 hO⟩
theorem fg_push {B n : Nat} {w w' : World} {v v' : Value} {svs news : List SV} {Ls newLs : List (List Int)} (h1 : OwS eSl 28 (fun k => B ≤ k) w v svs) (hl : svs.length = Ls.length)
    (hr : ∀ i (h : i < svs.length) (h2 : i < Ls.length), OwS eU8 5 (fun k => B ≤ k) w svs[i].val Ls[i]) (hn : news.length = newLs.length)
    (hr2 : ∀ i (h : i < news.length) (h2 : i < newLs.length), OwS eU8 5 (fun k => B ≤ k) w news[i].val newLs[i])
    (h5 : OwS eSl 28 (fun k => v.ownBlock = some k ∨ n ≤ k) w' v' (svs ++ news)) (hO : Only (fun k => v.ownBlock = some k) w w') (hB : B ≤ n) : FG B w' v' (Ls ++ newLs) := by
  refine ⟨svs ++ news, ⟨h5.1, fun k hk => (h5.2 k hk).elim (fun e => h1.2 k e) (fun e => Nat.le_trans hB e)⟩, by simp [hl, hn], fun i h h2 => ?_⟩
  by_cases hi : i < svs.length
  · have h3 := hr i hi (by omega)
    rw [List.getElem_append_left hi, List.getElem_append_left (by omega)]
    exact h3.keepT hO fun k hk e => own_ne h3.1 h1.1 (by decide) hk e
  · have hi2 : i - svs.length < news.length := by simp at h; omega
    have h3 := hr2 (i - svs.length) hi2 (by omega)
    rw [List.getElem_append_right (by omega), List.getElem_append_right (by omega)]
    have e : Ls.length = svs.length := hl.symm
    simp only [e]
    exact h3.keepT hO fun k hk e => own_ne h3.1 h1.1 (by decide) hk e
def instF (i : InstD) : List (List Int) := [leb1 i.1, leb1 i.2.1, leb1 i.2.2.1, leb1 i.2.2.2.1, leb1 (zz i.2.2.2.2)]
def fM (ms : List Int) (k : Nat) : List (List Int) := [[84], [80], [1], leb1 (ms.length : Int)] ++ (ms.take k).map leb1
def fC (ms : List Int) (cs : List InstD) (k : Nat) : List (List Int) := fM ms ms.length ++ [leb1 (cs.length : Int)] ++ (cs.take k).flatMap instF
theorem fM_step {ms : List Int} {k : Nat} (h : k < ms.length) : fM ms (k + 1) = fM ms k ++ [leb1 ms[k]] := by
  unfold fM; rw [List.take_succ_eq_append_getElem h, List.map_append]; simp
theorem fC_zero (ms : List Int) (cs : List InstD) : fC ms cs 0 = fM ms ms.length ++ [leb1 (cs.length : Int)] := by simp [fC]
theorem fC_step {ms : List Int} {cs : List InstD} {k : Nat} (h : k < cs.length) : fC ms cs (k + 1) = fC ms cs k ++ instF cs[k] := by
  unfold fC; rw [List.take_succ_eq_append_getElem h, List.flatMap_append]; simp
theorem fC_all (ms : List Int) (cs : List InstD) : (fC ms cs cs.length).flatten = encP ms cs := by
  have h1 : ∀ cs : List InstD, (cs.flatMap instF).flatten = codeB cs := by
    intro cs
    induction cs with
    | nil => rfl
    | cons i cs ih => simp [instF, codeB, instB] at ih ⊢; exact ih
  simp only [fC, fM, List.flatten_append, List.take_length, h1]
  simp [encP, mapsB, List.flatMap]
theorem fC_len (ms : List Int) (cs : List InstD) (k : Nat) : (fC ms cs k).length ≤ 5 + ms.length + 5 * k := by
  have h : ∀ cs : List InstD, (cs.flatMap instF).length = 5 * cs.length := by
    intro cs
    induction cs with
    | nil => rfl
    | cons i cs ih => simp [instF] at ih ⊢; omega
  have h2 : (cs.take k).length ≤ k := by simp; omega
  simp only [fC, fM, List.length_append, h, List.length_map, List.length_cons, List.length_nil, List.take_length]
  omega
theorem fM_len (ms : List Int) (k : Nat) : (fM ms k).length ≤ 4 + k := by
  have h2 : (ms.take k).length ≤ k := by simp; omega
  simp only [fM, List.length_append, List.length_map, List.length_cons, List.length_nil]
  omega
theorem lit1 (w : World) (B : Nat) (n : Int) (hB : B ≤ w.heap.size) : OwS eU8 5 (fun k => B ≤ k) (w.alloc (.cells #[.int .u8 n] 5)) (.slice (some ⟨w.heap.size, 0, none⟩) 1 1) [n] :=
  ⟨Ow.lit w 0 #[.int .u8 n] 5 1 [n] (by simp [Enc.all, eInt]) rfl (by simp [maxLen]) (Nat.zero_le _), fun k hk => by
    obtain rfl : w.heap.size = k := by simpa [Value.ownBlock] using hk
    exact hB⟩
set_option maxRecDepth 100000 in
set_option maxHeartbeats 8000000 in
theorem fields_any (ms : List Int) (cs : List InstD) (vm vc : Value) (w : World) (hm : Rd (eInt .i64) w vm ms) (hc : Rd eInst w vc cs) (hi : ∀ i ∈ cs, ImmOk i) (h : modP ms cs = true) :
    Calls Tryd.prog 24 #[.agg #[vm, vc]] w fun e w' => ∃ v', e = .returned v' ∧ FG w.heap.size w' v' (fC ms cs cs.length) ∧ Only (fun _ => False) w w' := by
  have HMD := Lib.hid (modP_ok h)
  obtain ⟨hm4, h1, h64, hal⟩ := modP_ok h
  have hml : ms.length ≤ 4 := hm4.1
  have HI := Lib.hid hi
  have HM := Lib.hid hm
  have HC := Lib.hid hc
  obtain ⟨_, am, capm, rfl, hcapm, _, _⟩ := id hm
  obtain ⟨_, ac, capc, rfl, hcapc, _, _⟩ := id hc
  obtain ⟨wb, hwb⟩ : ∃ wb, wb = w.alloc (.cells #[.slice am ms.length capm, .slice ac cs.length capc] 25) := ⟨_, rfl⟩
  have HB := Lib.hid (show wb.heap[w.heap.size]? = some (.cells #[.slice am ms.length capm, .slice ac cs.length capc] 25 (0, 0)) by rw [hwb]; exact heap_alloc_new w _)
  have HOb := Lib.hid (show Only (fun _ => False) w wb by rw [hwb]; exact Only.alloc _ _ _)
  have hsz : wb.heap.size = w.heap.size + 1 := by rw [hwb]; simp
  obtain ⟨w3, hw3⟩ : ∃ w3, w3 = ((wb.alloc (.cells #[.int .u8 84] 5)).alloc (.cells #[.int .u8 80] 5)).alloc (.cells #[.int .u8 1] 5) := ⟨_, rfl⟩
  have HA1 := Lib.hid (show OwS eU8 5 (fun k => w.heap.size ≤ k) w3 (.slice (some ⟨w.heap.size + 1, 0, none⟩) 1 1) [84] by
    have h := lit1 wb w.heap.size 84 (by omega)
    rw [hsz] at h
    rw [hw3]; exact (h.keep0 (Only.alloc _ _ _)).keep0 (Only.alloc _ _ _))
  have HA2 := Lib.hid (show OwS eU8 5 (fun k => w.heap.size ≤ k) w3 (.slice (some ⟨w.heap.size + 1 + 1, 0, none⟩) 1 1) [80] by
    have h := lit1 (wb.alloc (.cells #[.int .u8 84] 5)) w.heap.size 80 (by simp; omega)
    rw [show (wb.alloc (.cells #[.int .u8 84] 5)).heap.size = w.heap.size + 1 + 1 by simp [hsz]] at h
    rw [hw3]; exact h.keep0 (Only.alloc _ _ _))
  have HA3 := Lib.hid (show OwS eU8 5 (fun k => w.heap.size ≤ k) w3 (.slice (some ⟨w.heap.size + 1 + 1 + 1, 0, none⟩) 1 1) [1] by
    have h := lit1 ((wb.alloc (.cells #[.int .u8 84] 5)).alloc (.cells #[.int .u8 80] 5)) w.heap.size 1 (by simp; omega)
    rw [show ((wb.alloc (.cells #[.int .u8 84] 5)).alloc (.cells #[.int .u8 80] 5)).heap.size = w.heap.size + 1 + 1 + 1 by simp [hsz]] at h
    rw [hw3]; exact h)
  have HO3 := Lib.hid (show Only (fun _ => False) w w3 ∧ w3.heap[w.heap.size]? = some (.cells #[.slice am ms.length capm, .slice ac cs.length capc] 25 (0, 0)) by
    rw [hw3]; exact ⟨((HOb.out.tr (Only.alloc _ _ _)).tr (Only.alloc _ _ _)).tr (Only.alloc _ _ _), heap_alloc (heap_alloc (heap_alloc HB.out))⟩)
  have HW3 := Lib.hid (hwb ▸ hw3)
  have hwm : IntKind.u64.wrap (ms.length : Int) = (ms.length : Int) := by rw [IntKind.wrap_u64]; omega
  have hwc : IntKind.u64.wrap (cs.length : Int) = (cs.length : Int) := by rw [IntKind.wrap_u64]; omega
  clear hw3 hwb hsz hm hc hi hm4 hal h HB HOb
  go_enter Tryd.func24, Tryd.ntmps24
  go_wp2_with fail
  rw [← HW3.out]
  generalize hg1 : w.heap.size = g1 at *
  have HG1 := Lib.hid hg1
  clear hg1
  refine (one_o (ms.length : Int) w3 (by omega) (by omega)).mono ?_
  rintro e w4 ⟨v4, rfl, hv4, hO4⟩
  obtain ⟨_, a4, c4, rfl, _⟩ := id hv4.1
  have hO4w : Only (fun _ => False) w (w4.alloc (.cells #[.slice (some ⟨g1 + 1, 0, none⟩) 1 1, .slice (some ⟨g1 + 1 + 1, 0, none⟩) 1 1, .slice (some ⟨g1 + 1 + 1 + 1, 0, none⟩) 1 1, .slice a4 (leb1 (ms.length : Int)).length c4] 28)) := (HO3.out.1.tr hO4).tr (Only.alloc _ _ _)
  have HF0 := Lib.hid (show FG w.heap.size (w4.alloc (.cells #[.slice (some ⟨g1 + 1, 0, none⟩) 1 1, .slice (some ⟨g1 + 1 + 1, 0, none⟩) 1 1, .slice (some ⟨g1 + 1 + 1 + 1, 0, none⟩) 1 1, .slice a4 (leb1 (ms.length : Int)).length c4] 28)) (.slice (some ⟨w4.heap.size, 0, none⟩) 4 4) (fM ms 0) from
    ⟨[((some ⟨g1 + 1, 0, none⟩, 1, 1) : SV), (some ⟨g1 + 1 + 1, 0, none⟩, 1, 1), (some ⟨g1 + 1 + 1 + 1, 0, none⟩, 1, 1), (a4, (leb1 (ms.length : Int)).length, c4)],
      ⟨Ow.lit (E := eSl) w4 0 _ 28 4 _ rfl rfl (by simp [maxLen]) (Nat.zero_le _), fun k hk => by
        obtain rfl : w4.heap.size = k := by simpa [Value.ownBlock] using hk
        exact (HO3.out.1.tr hO4).size⟩, rfl, fun i h h2 => by
        have hk : Only (fun _ => False) w3 (w4.alloc (.cells #[.slice (some ⟨g1 + 1, 0, none⟩) 1 1, .slice (some ⟨g1 + 1 + 1, 0, none⟩) 1 1, .slice (some ⟨g1 + 1 + 1 + 1, 0, none⟩) 1 1, .slice a4 (leb1 (ms.length : Int)).length c4] 28)) := hO4.tr (Only.alloc _ _ _)
        have e1 := HG1.out
        match i, h with
        | 0, _ => exact OwS.framed.mono _ _ _ (HA1.out.keep0 hk) fun k _ h => by rw [e1]; exact h
        | 1, _ => exact OwS.framed.mono _ _ _ (HA2.out.keep0 hk) fun k _ h => by rw [e1]; exact h
        | 2, _ => exact OwS.framed.mono _ _ _ (HA3.out.keep0 hk) fun k _ h => by rw [e1]; exact h
        | 3, _ => exact OwS.framed.mono _ _ _ (hv4.keep0 (Only.alloc _ _ _)) fun k _ h => Nat.le_trans HO3.out.1.size h⟩)
  have HX0 := Lib.hid (show Only (fun _ => False) w (w4.alloc (.cells #[.slice (some ⟨g1 + 1, 0, none⟩) 1 1, .slice (some ⟨g1 + 1 + 1, 0, none⟩) 1 1, .slice (some ⟨g1 + 1 + 1 + 1, 0, none⟩) 1 1, .slice a4 (leb1 (ms.length : Int)).length c4] 28)) ∧ (w4.alloc (.cells #[.slice (some ⟨g1 + 1, 0, none⟩) 1 1, .slice (some ⟨g1 + 1 + 1, 0, none⟩) 1 1, .slice (some ⟨g1 + 1 + 1 + 1, 0, none⟩) 1 1, .slice a4 (leb1 (ms.length : Int)).length c4] 28)).heap[g1]? = some (.cells #[.slice am ms.length capm, .slice ac cs.length capc] 25 (0, 0)) from ⟨hO4w, heap_alloc (hO4.heap HO3.out.2 id)⟩)
  have hg1l := heap_lt (hO4.heap HO3.out.2 id)
  have c0 := cells_of_heap (hO4.heap HO3.out.2 id) 0 _ rfl
  clear hv4 hO4 hO4w HA1 HA2 HA3 HO3 HW3
  go_wp2_with fail
  go_loopw [3, 4] (fun t3 t4 wr => ∃ k : Nat, k ≤ ms.length ∧ t4 = .int .i64 k ∧ Hid (FG w.heap.size wr t3 (fM ms k)) ∧ Hid (Only (fun _ => False) w wr ∧ wr.heap[g1]? = some (.cells #[.slice am ms.length capm, .slice ac cs.length capc] 25 (0, 0)))) (fun _ t4 _ => ms.length - (intOf t4).toNat)
  case atStart => exact ⟨0, Nat.zero_le _, rfl, HF0, HX0⟩
  case round =>
    clear HF0 HX0 hg1l c0
    obtain ⟨k, hk, rfl, HF, HX⟩ := hrel
    have c0 := cells_of_heap HX.out.2 0 _ rfl
    have hg1l := heap_lt HX.out.2
    by_cases hlt : k < ms.length
    · obtain ⟨_, am', capm', hao, _, _, hx⟩ := HM.out.only HX.out.1
      obtain ⟨rfl, _, rfl⟩ : am = am' ∧ ms.length = ms.length ∧ capm = capm' := by simpa using hao
      obtain ⟨sb, off, rfl, hcx⟩ := hx (by omega)
      have c5 := hcx k _ (eInt_at .i64 ms k hlt)
      have hi0 : (0 : Int) ≤ (k : Int) := by omega
      have hi1 : (k : Int) < (ms.length : Int) := by omega
      have hmr := HMD.out.1.2.1 _ (List.getElem_mem hlt)
      have HST := Lib.hid (fM_step hlt)
      have hfl := fM_len ms k
      clear hcx hx hao
      generalize ms[k] = m at *
      have hwm1 : IntKind.u64.wrap m = m := by rw [IntKind.wrap_u64]; omega
      go_wp2_with fail
      refine (one_o m wr (by omega) (by omega)).mono ?_
      rintro e w5 ⟨v5, rfl, hv5, hO5⟩
      obtain ⟨_, a5, c5', rfl, _⟩ := id hv5.1
      have hOa := hO5.tr (Only.alloc _ w5 (.cells #[.slice a5 (leb1 m).length c5'] 28))
      have HXa := Lib.hid (show Only (fun _ => False) w (w5.alloc (.cells #[.slice a5 (leb1 m).length c5'] 28)) ∧ (w5.alloc (.cells #[.slice a5 (leb1 m).length c5'] 28)).heap[g1]? = some (.cells #[.slice (some ⟨sb, off, none⟩) ms.length capm, .slice ac cs.length capc] 25 (0, 0)) from ⟨HX.out.1.tr hOa, hOa.heap HX.out.2 id⟩)
      have HNE := Lib.hid (OwS.framed.mono _ (fun k => w.heap.size ≤ k) _ (hv5.keep0 (Only.alloc _ w5 (.cells #[.slice a5 (leb1 m).length c5'] 28))) fun k _ h => Nat.le_trans HX.out.1.size h)
      obtain ⟨svs, hs, hl, hr⟩ := HF.out.keep0 hOa
      have HS := Lib.hid hs
      have HRW := Lib.hid hr
      have HRL := Lib.hid (Rd.lit (E := eSl) w5 #[.slice a5 (leb1 m).length c5'] 28 (0, 0) 1 1 [((a5, (leb1 m).length, c5') : SV)] rfl rfl (by simp) (by simp [maxLen]))
      clear hs hr hv5 hO5 hOa c5 c0 hg1l
      go_wp2_with (at_builtin; refine wl_appendS (E := eSl) rfl _ (.tmp 31) _ rfl 28 24 eSl_slice _ _ svs rfl ⟨HS.out.1, fun k h => h⟩ _ [((a5, (leb1 m).length, c5') : SV)] rfl HRL.out (by simp only [List.length_cons, List.length_nil]; omega) (by unfold maxLen; simp only [List.length_cons, List.length_nil]; omega) ?_)
      intro v7 w7 h7 hO7
      have HNF := Lib.hid (show FG w.heap.size w7 v7 (fM ms (k + 1)) by
        rw [HST.out]
        exact fg_push HS.out hl HRW.out rfl (fun i h h2 => by
          match i, h with
          | 0, _ => exact HNE.out) h7 hO7 (by first | exact HXa.out.1.size | (have h := HXa.out.1.size; simp at h; omega)))
      have HX7 := Lib.hid (show Only (fun _ => False) w w7 ∧ w7.heap[g1]? = some (.cells #[.slice (some ⟨sb, off, none⟩) ms.length capm, .slice ac cs.length capc] 25 (0, 0)) from ⟨HXa.out.1.trans hO7 fun k hk e => by have h : w.heap.size ≤ k := HS.out.2 k e; omega, hO7.heap HXa.out.2 (fun e => row_ne HXa.out.2 HS.out.1 (by decide) e)⟩)
      clear h7 hO7 HS HRW HRL HXa HNE HX HF hl
      go_wp2_with fail
      go_roundw
      case rel => exact ⟨k + 1, by omega, by go_num, HNF, HX7⟩
      case measure => simp [intOf]; omega
    · obtain rfl : k = ms.length := by omega
      have c1 := cells_of_heap HX.out.2 1 _ rfl
      have hfl := fM_len ms ms.length
      go_wp2_with fail
      refine (one_o (cs.length : Int) wr (by omega) (by omega)).mono ?_
      rintro e w5 ⟨v5, rfl, hv5, hO5⟩
      obtain ⟨_, a5, c5', rfl, _⟩ := id hv5.1
      have hOa := hO5.tr (Only.alloc _ w5 (.cells #[.slice a5 (leb1 (cs.length : Int)).length c5'] 28))
      have HXa := Lib.hid (show Only (fun _ => False) w (w5.alloc (.cells #[.slice a5 (leb1 (cs.length : Int)).length c5'] 28)) ∧ (w5.alloc (.cells #[.slice a5 (leb1 (cs.length : Int)).length c5'] 28)).heap[g1]? = some (.cells #[.slice am ms.length capm, .slice ac cs.length capc] 25 (0, 0)) from ⟨HX.out.1.tr hOa, hOa.heap HX.out.2 id⟩)
      have HNE := Lib.hid (OwS.framed.mono _ (fun k => w.heap.size ≤ k) _ (hv5.keep0 (Only.alloc _ w5 (.cells #[.slice a5 (leb1 (cs.length : Int)).length c5'] 28))) fun k _ h => Nat.le_trans HX.out.1.size h)
      obtain ⟨svs, hs, hl, hr⟩ := HF.out.keep0 hOa
      have HS := Lib.hid hs
      have HRW := Lib.hid hr
      have HRL := Lib.hid (Rd.lit (E := eSl) w5 #[.slice a5 (leb1 (cs.length : Int)).length c5'] 28 (0, 0) 1 1 [((a5, (leb1 (cs.length : Int)).length, c5') : SV)] rfl rfl (by simp) (by simp [maxLen]))
      clear hs hr hv5 hO5 hOa c1 c0 hg1l
      go_wp2_with (at_builtin; refine wl_appendS (E := eSl) rfl _ (.tmp 39) _ rfl 28 24 eSl_slice _ _ svs rfl ⟨HS.out.1, fun k h => h⟩ _ [((a5, (leb1 (cs.length : Int)).length, c5') : SV)] rfl HRL.out (by simp only [List.length_cons, List.length_nil]; omega) (by unfold maxLen; simp only [List.length_cons, List.length_nil]; omega) ?_)
      intro v7 w7 h7 hO7
      have HNF := Lib.hid (show FG w.heap.size w7 v7 (fC ms cs 0) by
        rw [fC_zero]
        exact fg_push HS.out hl HRW.out rfl (fun i h h2 => by
          match i, h with
          | 0, _ => exact HNE.out) h7 hO7 (by first | exact HXa.out.1.size | (have h := HXa.out.1.size; simp at h; omega)))
      have HX7 := Lib.hid (show Only (fun _ => False) w w7 ∧ w7.heap[g1]? = some (.cells #[.slice am ms.length capm, .slice ac cs.length capc] 25 (0, 0)) from ⟨HXa.out.1.trans hO7 fun k hk e => by have h : w.heap.size ≤ k := HS.out.2 k e; omega, hO7.heap HXa.out.2 (fun e => row_ne HXa.out.2 HS.out.1 (by decide) e)⟩)
      clear h7 hO7 HS HRW HRL HXa HNE HX HF hl
      have c1 := cells_of_heap HX7.out.2 1 _ rfl
      have hg1l := heap_lt HX7.out.2
      go_wp2_with fail
      go_loopw [3, 5, 6] (fun t3 t5 _ wr => ∃ k : Nat, k ≤ cs.length ∧ t5 = .int .i64 k ∧ Hid (FG w.heap.size wr t3 (fC ms cs k)) ∧ Hid (Only (fun _ => False) w wr ∧ wr.heap[g1]? = some (.cells #[.slice am ms.length capm, .slice ac cs.length capc] 25 (0, 0)))) (fun _ t5 _ _ => cs.length - (intOf t5).toNat)
      case atStart => exact ⟨0, Nat.zero_le _, rfl, HNF, HX7⟩
      case round =>
        clear HNF HX7 c1 hg1l
        obtain ⟨k, hk, rfl, HF, HX⟩ := hrel
        have c1 := cells_of_heap HX.out.2 1 _ rfl
        have hg1l := heap_lt HX.out.2
        by_cases hlt : k < cs.length
        · obtain ⟨_, ac', capc', hao, _, _, hx⟩ := HC.out.only HX.out.1
          obtain ⟨rfl, _, rfl⟩ : ac = ac' ∧ cs.length = cs.length ∧ capc = capc' := by simpa using hao
          obtain ⟨sb, off, rfl, hcx⟩ := hx (by omega)
          obtain ⟨d0, d1', d2, d3, d4⟩ := inst_cells hcx k hlt
          have hi0 : (0 : Int) ≤ (k : Int) := by omega
          have hi1 : (k : Int) < (cs.length : Int) := by omega
          have him0 := HI.out _ (List.getElem_mem hlt)
          have hrt : rightP (In.of cs[k]) = true := List.all_eq_true.1 HMD.out.2.2.2 _ (List.getElem_mem hlt)
          have HST := Lib.hid (fC_step (ms := ms) hlt)
          have hfl := fC_len ms cs k
          clear hcx hx hao
          generalize cs[k] = ci at *
          obtain ⟨op, d, a, x, im⟩ := ci
          obtain ⟨⟨o1, o2⟩, ⟨d1, dd2⟩, ⟨a1, a2⟩, b1, b2⟩ : (0 ≤ op ∧ op ≤ 22) ∧ (0 ≤ d ∧ d ≤ 63) ∧ (0 ≤ a ∧ a ≤ 63) ∧ (0 ≤ x ∧ x ≤ 63) := right_fields hrt
          have him : -9223372036854775808 ≤ im ∧ im ≤ 9223372036854775807 := him0
          have hzz := zz_range im him
          have hw1 : IntKind.u64.wrap op = op := by rw [IntKind.wrap_u64]; omega
          have hw2 : IntKind.u64.wrap d = d := by rw [IntKind.wrap_u64]; omega
          have hw3 : IntKind.u64.wrap a = a := by rw [IntKind.wrap_u64]; omega
          have hw4 : IntKind.u64.wrap x = x := by rw [IntKind.wrap_u64]; omega
          dsimp only [In.of] at d0 d1' d2 d3 d4
          clear hrt him0
          go_wp2_with fail
          have HX7m := Lib.hid (fun W (h : Only (fun _ => False) w W) (h2 : Only (fun _ => False) wr W) => h2.heap HX.out.2 id)
          have hOd := (Only.alloc (fun _ => False) wr (.cells #[.int .i64 op, .int .i64 d, .int .i64 a, .int .i64 x, .int .i64 im] 44)).drew_
          have HX0 := Lib.hid (show Only (fun _ => False) w ((wr.alloc (.cells #[.int .i64 op, .int .i64 d, .int .i64 a, .int .i64 x, .int .i64 im] 44)).drew) ∧ ((wr.alloc (.cells #[.int .i64 op, .int .i64 d, .int .i64 a, .int .i64 x, .int .i64 im] 44)).drew).heap[wr.heap.size]? = some (.cells #[.int .i64 op, .int .i64 d, .int .i64 a, .int .i64 x, .int .i64 im] 44 (0, 0)) from ⟨HX.out.1.tr hOd, heap_alloc_new wr (.cells #[.int .i64 op, .int .i64 d, .int .i64 a, .int .i64 x, .int .i64 im] 44)⟩)
          have HB0 := Lib.hid (hOd.heap HX.out.2 id)
          have HGk0 := Lib.hid (HF.out.keep0 hOd)
          clear hOd d0 d1' d2 d3 d4 c1 hg1l HX HF HX7m
          generalize wr.heap.size = g6 at *
          refine wp_region_noPanic ?_
          refine wp_region_held_drew (S := fun w' => w'.cell? ⟨g6, 0, none⟩ = some (.int .i64 op) ∧ w'.cell? ⟨g6, 1, none⟩ = some (.int .i64 d) ∧ w'.cell? ⟨g6, 2, none⟩ = some (.int .i64 a) ∧ w'.cell? ⟨g6, 3, none⟩ = some (.int .i64 x) ∧ w'.cell? ⟨g6, 4, none⟩ = some (.int .i64 im)) (by kernel_rfl) ?_ (fun hHeld => ?_)
          · exact cells5 HX0.out.2
          try simp only [Act.put, List.getElem_toArray, List.getElem_cons_succ, List.getElem_cons_zero, List.setIfInBounds_toArray, List.set_cons_zero, List.set_cons_succ]
          refine wpAnyH_take (i := 0) (v := ?vhy1) rfl (by kernel_rfl) (by kernel_rfl) (by kernel_rfl) (fun _ _ _ h => h) (Or.inl ⟨by rfl, ?hy1⟩) (by assumption) ?resthy1
          case hy1 =>
            intro w hSw
            try dsimp only at hSw
            go_simp
            all_goals with_reducible rfl
          simp only [Act.put, List.getElem_toArray, List.getElem_cons_succ, List.getElem_cons_zero, List.setIfInBounds_toArray, List.set_cons_zero, List.set_cons_succ]
          refine wpAnyH_take (i := 1) (v := ?vhy2) rfl (by kernel_rfl) (by kernel_rfl) (by kernel_rfl) (fun _ _ _ h => h) (Or.inl ⟨by rfl, ?hy2⟩) (by assumption) ?resthy2
          case hy2 =>
            intro w hSw
            try dsimp only at hSw
            go_simp
            all_goals with_reducible rfl
          simp only [Act.put, List.getElem_toArray, List.getElem_cons_succ, List.getElem_cons_zero, List.setIfInBounds_toArray, List.set_cons_zero, List.set_cons_succ]
          refine wpAnyH_take (i := 2) (v := ?vhy3) rfl (by kernel_rfl) (by kernel_rfl) (by kernel_rfl) (fun _ _ _ h => h) (Or.inl ⟨by rfl, ?hy3⟩) (by assumption) ?resthy3
          case hy3 =>
            intro w hSw
            try dsimp only at hSw
            go_simp
            all_goals with_reducible rfl
          simp only [Act.put, List.getElem_toArray, List.getElem_cons_succ, List.getElem_cons_zero, List.setIfInBounds_toArray, List.set_cons_zero, List.set_cons_succ]
          refine wpAnyH_take (i := 3) (v := ?vhy4) rfl (by kernel_rfl) (by kernel_rfl) (by kernel_rfl) (fun _ _ _ h => h) (Or.inl ⟨by rfl, ?hy4⟩) (by assumption) ?resthy4
          case hy4 =>
            intro w hSw
            try dsimp only at hSw
            go_simp
            all_goals with_reducible rfl
          simp only [Act.put, List.getElem_toArray, List.getElem_cons_succ, List.getElem_cons_zero, List.setIfInBounds_toArray, List.set_cons_zero, List.set_cons_succ]
          refine wpAnyH_take (i := 5) (v := ?vhy5) rfl (by kernel_rfl) (by kernel_rfl) (by kernel_rfl) (fun _ _ _ h => h) (Or.inl ⟨by rfl, ?hy5⟩) (by assumption) ?resthy5
          case hy5 =>
            intro w hSw
            try dsimp only at hSw
            go_simp
            all_goals with_reducible rfl
          simp only [Act.put, List.getElem_toArray, List.getElem_cons_succ, List.getElem_cons_zero, List.setIfInBounds_toArray, List.set_cons_zero, List.set_cons_succ]
          refine wpAnyH_take (i := 6) (v := ?vhy6) rfl (by kernel_rfl) (by kernel_rfl) (by kernel_rfl) (fun _ _ _ h => h) (Or.inl ⟨by rfl, ?hy6⟩) (by assumption) ?resthy6
          case hy6 =>
            intro w hSw
            try dsimp only at hSw
            go_simp
            all_goals with_reducible rfl
          simp only [Act.put, List.getElem_toArray, List.getElem_cons_succ, List.getElem_cons_zero, List.setIfInBounds_toArray, List.set_cons_zero, List.set_cons_succ]
          refine wpAnyH_take (i := 7) (v := ?vhy7) rfl (by kernel_rfl) (by kernel_rfl) (by kernel_rfl) (fun _ _ _ h => h) (Or.inl ⟨by rfl, ?hy7⟩) (by assumption) ?resthy7
          case hy7 =>
            intro w hSw
            try dsimp only at hSw
            go_simp
            all_goals with_reducible rfl
          simp only [Act.put, List.getElem_toArray, List.getElem_cons_succ, List.getElem_cons_zero, List.setIfInBounds_toArray, List.set_cons_zero, List.set_cons_succ]
          refine wpAnyH_take (i := 9) (v := ?vhy8) rfl (by kernel_rfl) (by kernel_rfl) (by kernel_rfl) (fun _ _ _ h => h) (Or.inl ⟨by rfl, ?hy8⟩) (by assumption) ?resthy8
          case hy8 =>
            intro w hSw
            try dsimp only at hSw
            go_simp
            all_goals with_reducible rfl
          simp only [Act.put, List.getElem_toArray, List.getElem_cons_succ, List.getElem_cons_zero, List.setIfInBounds_toArray, List.set_cons_zero, List.set_cons_succ]
          refine wpAnyH_take (i := 10) (v := ?vhy9) rfl (by kernel_rfl) (by kernel_rfl) (by kernel_rfl) (fun _ _ _ h => h) (Or.inl ⟨by rfl, ?hy9⟩) (by assumption) ?resthy9
          case hy9 =>
            intro w hSw
            try dsimp only at hSw
            go_simp
            all_goals with_reducible rfl
          simp only [Act.put, List.getElem_toArray, List.getElem_cons_succ, List.getElem_cons_zero, List.setIfInBounds_toArray, List.set_cons_zero, List.set_cons_succ]
          refine wpAnyH_take (i := 11) (v := ?vhy10) rfl (by kernel_rfl) (by kernel_rfl) (by kernel_rfl) (fun _ _ _ h => h) (Or.inl ⟨by rfl, ?hy10⟩) (by assumption) ?resthy10
          case hy10 =>
            intro w hSw
            try dsimp only at hSw
            go_simp
            all_goals with_reducible rfl
          simp only [Act.put, List.getElem_toArray, List.getElem_cons_succ, List.getElem_cons_zero, List.setIfInBounds_toArray, List.set_cons_zero, List.set_cons_succ]
          refine wpAnyH_take (i := 13) (v := ?vhy11) rfl (by kernel_rfl) (by kernel_rfl) (by kernel_rfl) (fun _ _ _ h => h) (Or.inl ⟨by rfl, ?hy11⟩) (by assumption) ?resthy11
          case hy11 =>
            intro w hSw
            try dsimp only at hSw
            go_simp
            all_goals with_reducible rfl
          simp only [Act.put, List.getElem_toArray, List.getElem_cons_succ, List.getElem_cons_zero, List.setIfInBounds_toArray, List.set_cons_zero, List.set_cons_succ]
          refine wpAnyH_take (i := 14) (v := ?vhy12) rfl (by kernel_rfl) (by kernel_rfl) (by kernel_rfl) (fun _ _ _ h => h) (Or.inl ⟨by rfl, ?hy12⟩) (by assumption) ?resthy12
          case hy12 =>
            intro w hSw
            try dsimp only at hSw
            go_simp
            all_goals with_reducible rfl
          simp only [Act.put, List.getElem_toArray, List.getElem_cons_succ, List.getElem_cons_zero, List.setIfInBounds_toArray, List.set_cons_zero, List.set_cons_succ]
          refine wpAnyH_take (i := 15) (v := ?vhy13) rfl (by kernel_rfl) (by kernel_rfl) (by kernel_rfl) (fun _ _ _ h => h) (Or.inl ⟨by rfl, ?hy13⟩) (by assumption) ?resthy13
          case hy13 =>
            intro w hSw
            try dsimp only at hSw
            go_simp
            all_goals with_reducible rfl
          simp only [Act.put, List.getElem_toArray, List.getElem_cons_succ, List.getElem_cons_zero, List.setIfInBounds_toArray, List.set_cons_zero, List.set_cons_succ]
          refine wpAnyH_take (i := 17) (v := ?vhy14) rfl (by kernel_rfl) (by kernel_rfl) (by kernel_rfl) (fun _ _ _ h => h) (Or.inl ⟨by rfl, ?hy14⟩) (by assumption) ?resthy14
          case hy14 =>
            intro w hSw
            try dsimp only at hSw
            go_simp
            all_goals with_reducible rfl
          simp only [Act.put, List.getElem_toArray, List.getElem_cons_succ, List.getElem_cons_zero, List.setIfInBounds_toArray, List.set_cons_zero, List.set_cons_succ]
          refine wpAnyH_take (i := 18) (v := ?vhy15) rfl (by kernel_rfl) (by kernel_rfl) (by kernel_rfl) (fun _ _ _ h => h) (Or.inl ⟨by rfl, ?hy15⟩) (by assumption) ?resthy15
          case hy15 =>
            intro w hSw
            try dsimp only at hSw
            go_simp
            all_goals with_reducible rfl
          simp only [Act.put, List.getElem_toArray, List.getElem_cons_succ, List.getElem_cons_zero, List.setIfInBounds_toArray, List.set_cons_zero, List.set_cons_succ]
          refine wpAnyH_ready (rs := [4]) (by kernel_rfl) (by simp) ?_
          refine AllReadyH.cons rfl (fun K hK => ?_) AllReadyH.nil
          go_simp
          refine (one_o op _ o1 (by omega)).mono ?_
          rintro e W1 ⟨u1, rfl, hu1, hO1⟩
          obtain ⟨_, au1, cu1, rfl, _⟩ := id hu1.1
          have HU1 := Lib.hid (OwS.framed.mono _ (fun k => w.heap.size ≤ k) _ hu1 fun k _ h => Nat.le_trans HX0.out.1.size h)
          have HX1 := Lib.hid (show Only (fun _ => False) w W1 ∧ W1.heap[g6]? = some (.cells #[.int .i64 op, .int .i64 d, .int .i64 a, .int .i64 x, .int .i64 im] 44 (0, 0)) from ⟨HX0.out.1.tr hO1, hO1.heap HX0.out.2 id⟩)
          have HGk1 := Lib.hid (HGk0.out.keep0 hO1)
          have HB1 := Lib.hid (hO1.heap HB0.out id)
          clear hu1 hO1
          try go_wp2_with fail
          refine hK.out _ _ (cells5 HX1.out.2) (fun hHeld => ?_)
          clear hK K
          try simp only [Act.put, List.getElem_toArray, List.getElem_cons_succ, List.getElem_cons_zero, List.setIfInBounds_toArray, List.set_cons_zero, List.set_cons_succ]
          refine wpAnyH_ready (rs := [8]) (by kernel_rfl) (by simp) ?_
          refine AllReadyH.cons rfl (fun K hK => ?_) AllReadyH.nil
          go_simp
          refine (one_o d _ d1 (by omega)).mono ?_
          rintro e W2 ⟨u2, rfl, hu2, hO2⟩
          obtain ⟨_, au2, cu2, rfl, _⟩ := id hu2.1
          have HU2 := Lib.hid (OwS.framed.mono _ (fun k => w.heap.size ≤ k) _ hu2 fun k _ h => Nat.le_trans HX1.out.1.size h)
          have HX2 := Lib.hid (show Only (fun _ => False) w W2 ∧ W2.heap[g6]? = some (.cells #[.int .i64 op, .int .i64 d, .int .i64 a, .int .i64 x, .int .i64 im] 44 (0, 0)) from ⟨HX1.out.1.tr hO2, hO2.heap HX1.out.2 id⟩)
          have HGk2 := Lib.hid (HGk1.out.keep0 hO2)
          have HB2 := Lib.hid (hO2.heap HB1.out id)
          have HU1 := Lib.hid (HU1.out.keep0 hO2)
          clear hu2 hO2
          try go_wp2_with fail
          refine hK.out _ _ (cells5 HX2.out.2) (fun hHeld => ?_)
          clear hK K
          try simp only [Act.put, List.getElem_toArray, List.getElem_cons_succ, List.getElem_cons_zero, List.setIfInBounds_toArray, List.set_cons_zero, List.set_cons_succ]
          refine wpAnyH_ready (rs := [12]) (by kernel_rfl) (by simp) ?_
          refine AllReadyH.cons rfl (fun K hK => ?_) AllReadyH.nil
          go_simp
          refine (one_o a _ a1 (by omega)).mono ?_
          rintro e W3 ⟨u3, rfl, hu3, hO3⟩
          obtain ⟨_, au3, cu3, rfl, _⟩ := id hu3.1
          have HU3 := Lib.hid (OwS.framed.mono _ (fun k => w.heap.size ≤ k) _ hu3 fun k _ h => Nat.le_trans HX2.out.1.size h)
          have HX3 := Lib.hid (show Only (fun _ => False) w W3 ∧ W3.heap[g6]? = some (.cells #[.int .i64 op, .int .i64 d, .int .i64 a, .int .i64 x, .int .i64 im] 44 (0, 0)) from ⟨HX2.out.1.tr hO3, hO3.heap HX2.out.2 id⟩)
          have HGk3 := Lib.hid (HGk2.out.keep0 hO3)
          have HB3 := Lib.hid (hO3.heap HB2.out id)
          have HU1 := Lib.hid (HU1.out.keep0 hO3)
          have HU2 := Lib.hid (HU2.out.keep0 hO3)
          clear hu3 hO3
          try go_wp2_with fail
          refine hK.out _ _ (cells5 HX3.out.2) (fun hHeld => ?_)
          clear hK K
          try simp only [Act.put, List.getElem_toArray, List.getElem_cons_succ, List.getElem_cons_zero, List.setIfInBounds_toArray, List.set_cons_zero, List.set_cons_succ]
          refine wpAnyH_ready (rs := [16]) (by kernel_rfl) (by simp) ?_
          refine AllReadyH.cons rfl (fun K hK => ?_) AllReadyH.nil
          go_simp
          refine (one_o x _ b1 (by omega)).mono ?_
          rintro e W4 ⟨u4, rfl, hu4, hO4⟩
          obtain ⟨_, au4, cu4, rfl, _⟩ := id hu4.1
          have HU4 := Lib.hid (OwS.framed.mono _ (fun k => w.heap.size ≤ k) _ hu4 fun k _ h => Nat.le_trans HX3.out.1.size h)
          have HX4 := Lib.hid (show Only (fun _ => False) w W4 ∧ W4.heap[g6]? = some (.cells #[.int .i64 op, .int .i64 d, .int .i64 a, .int .i64 x, .int .i64 im] 44 (0, 0)) from ⟨HX3.out.1.tr hO4, hO4.heap HX3.out.2 id⟩)
          have HGk4 := Lib.hid (HGk3.out.keep0 hO4)
          have HB4 := Lib.hid (hO4.heap HB3.out id)
          have HU1 := Lib.hid (HU1.out.keep0 hO4)
          have HU2 := Lib.hid (HU2.out.keep0 hO4)
          have HU3 := Lib.hid (HU3.out.keep0 hO4)
          clear hu4 hO4
          try go_wp2_with fail
          refine hK.out _ _ (cells5 HX4.out.2) (fun hHeld => ?_)
          clear hK K
          try simp only [Act.put, List.getElem_toArray, List.getElem_cons_succ, List.getElem_cons_zero, List.setIfInBounds_toArray, List.set_cons_zero, List.set_cons_succ]
          refine wpAnyH_ready (rs := [19]) (by kernel_rfl) (by simp) ?_
          refine AllReadyH.cons rfl (fun K hK => ?_) AllReadyH.nil
          go_simp
          refine (turned_any im _ him).mono ?_
          rintro e Wt ⟨rfl, rfl⟩
          try go_wp2_with fail
          refine hK.out _ _ (cells5 HX4.out.2) (fun hHeld => ?_)
          clear hK K
          try simp only [Act.put, List.getElem_toArray, List.getElem_cons_succ, List.getElem_cons_zero, List.setIfInBounds_toArray, List.set_cons_zero, List.set_cons_succ]
          refine wpAnyH_ready (rs := [20]) (by kernel_rfl) (by simp) ?_
          refine AllReadyH.cons rfl (fun K hK => ?_) AllReadyH.nil
          go_simp
          refine (one_o (zz im) _ hzz.1 hzz.2).mono ?_
          rintro e W5 ⟨u5, rfl, hu5, hO5⟩
          obtain ⟨_, au5, cu5, rfl, _⟩ := id hu5.1
          have HU5 := Lib.hid (OwS.framed.mono _ (fun k => w.heap.size ≤ k) _ hu5 fun k _ h => Nat.le_trans HX4.out.1.size h)
          have HX5 := Lib.hid (show Only (fun _ => False) w W5 ∧ W5.heap[g6]? = some (.cells #[.int .i64 op, .int .i64 d, .int .i64 a, .int .i64 x, .int .i64 im] 44 (0, 0)) from ⟨HX4.out.1.tr hO5, hO5.heap HX4.out.2 id⟩)
          have HGk5 := Lib.hid (HGk4.out.keep0 hO5)
          have HB5 := Lib.hid (hO5.heap HB4.out id)
          have HU1 := Lib.hid (HU1.out.keep0 hO5)
          have HU2 := Lib.hid (HU2.out.keep0 hO5)
          have HU3 := Lib.hid (HU3.out.keep0 hO5)
          have HU4 := Lib.hid (HU4.out.keep0 hO5)
          clear hu5 hO5
          try go_wp2_with fail
          refine hK.out _ _ (cells5 HX5.out.2) (fun hHeld => ?_)
          clear hK K
          try simp only [Act.put, List.getElem_toArray, List.getElem_cons_succ, List.getElem_cons_zero, List.setIfInBounds_toArray, List.set_cons_zero, List.set_cons_succ]
          refine wpAnyH_ready (rs := [21]) (by kernel_rfl) (by simp) ?_
          refine AllReadyH.cons rfl (fun K hK => ?_) AllReadyH.nil
          go_simp
          have hOa := Only.alloc (fun _ => False) W5 (.cells #[.slice au1 (leb1 op).length cu1, .slice au2 (leb1 d).length cu2, .slice au3 (leb1 a).length cu3, .slice au4 (leb1 x).length cu4, .slice au5 (leb1 (zz im)).length cu5] 28)
          have HRL := Lib.hid (Rd.lit (E := eSl) W5 #[.slice au1 (leb1 op).length cu1, .slice au2 (leb1 d).length cu2, .slice au3 (leb1 a).length cu3, .slice au4 (leb1 x).length cu4, .slice au5 (leb1 (zz im)).length cu5] 28 (0, 0) 5 5 [((au1, (leb1 op).length, cu1) : SV), (au2, (leb1 d).length, cu2), (au3, (leb1 a).length, cu3), (au4, (leb1 x).length, cu4), (au5, (leb1 (zz im)).length, cu5)] rfl rfl (by simp) (by simp [maxLen]))
          have HGa := Lib.hid (HGk5.out.keep0 hOa)
          have HBa := Lib.hid (hOa.heap HB5.out id)
          have HXa := Lib.hid (show Only (fun _ => False) w (W5.alloc (.cells #[.slice au1 (leb1 op).length cu1, .slice au2 (leb1 d).length cu2, .slice au3 (leb1 a).length cu3, .slice au4 (leb1 x).length cu4, .slice au5 (leb1 (zz im)).length cu5] 28)) ∧ (W5.alloc (.cells #[.slice au1 (leb1 op).length cu1, .slice au2 (leb1 d).length cu2, .slice au3 (leb1 a).length cu3, .slice au4 (leb1 x).length cu4, .slice au5 (leb1 (zz im)).length cu5] 28)).heap[g6]? = some (.cells #[.int .i64 op, .int .i64 d, .int .i64 a, .int .i64 x, .int .i64 im] 44 (0, 0)) from ⟨HX5.out.1.tr hOa, hOa.heap HX5.out.2 id⟩)
          have HU1 := Lib.hid (HU1.out.keep0 hOa)
          have HU2 := Lib.hid (HU2.out.keep0 hOa)
          have HU3 := Lib.hid (HU3.out.keep0 hOa)
          have HU4 := Lib.hid (HU4.out.keep0 hOa)
          have HU5 := Lib.hid (HU5.out.keep0 hOa)
          clear hOa
          refine hK.out _ _ (cells5 HXa.out.2) (fun hHeld => ?_)
          clear hK K
          try simp only [Act.put, List.getElem_toArray, List.getElem_cons_succ, List.getElem_cons_zero, List.setIfInBounds_toArray, List.set_cons_zero, List.set_cons_succ]
          obtain ⟨svs, hs, hl, hr⟩ := HGa.out
          have HS := Lib.hid hs
          have HRW := Lib.hid hr
          clear hs hr
          refine wpAnyH_ready (rs := [22]) (by kernel_rfl) (by simp) ?_
          refine AllReadyH.cons rfl (fun K hK => ?_) AllReadyH.nil
          refine step_appS (E := eSl) (by rfl) (.tmp 53) (.tmp 74) _ (by rfl) 28 24 eSl_slice _ _ svs (by rfl) ⟨HS.out.1, fun k h => h⟩ _ _ (by rfl) HRL.out (by simp only [List.length_cons, List.length_nil]; omega) (by unfold maxLen; simp only [List.length_cons, List.length_nil]; omega) ?_
          intro v7 w7 h7 hO7
          have HNW := Lib.hid (fg_push HS.out hl HRW.out (newLs := instF (op, d, a, x, im)) rfl (fun i h h2 => by
            match i, h with
            | 0, _ => exact HU1.out
            | 1, _ => exact HU2.out
            | 2, _ => exact HU3.out
            | 3, _ => exact HU4.out
            | 4, _ => exact HU5.out) h7 hO7 (by first | exact HXa.out.1.size | (have h := HXa.out.1.size; simp at h; omega)))
          have hO7b : Only (fun _ => False) w w7 := HXa.out.1.trans hO7 fun k hk e => by have h : w.heap.size ≤ k := HS.out.2 k e; omega
          have h6 : w7.heap[g6]? = some (.cells #[.int .i64 op, .int .i64 d, .int .i64 a, .int .i64 x, .int .i64 im] 44 (0, 0)) := hO7.heap HXa.out.2 (fun e => row_ne HXa.out.2 HS.out.1 (by decide) e)
          have HX7 := Lib.hid (And.intro hO7b h6)
          have HB7 := Lib.hid (hO7.heap HBa.out (fun e => row_ne HBa.out HS.out.1 (by decide) e))
          refine hK.out _ _ (cells5 HX7.out.2) (fun hHeld => ?_)
          clear hK K
          try simp only [Act.put, List.getElem_toArray, List.getElem_cons_succ, List.getElem_cons_zero, List.setIfInBounds_toArray, List.set_cons_zero, List.set_cons_succ]
          refine wpAnyH_take (i := 23) (v := ?vhy16) rfl (by kernel_rfl) (by kernel_rfl) (by kernel_rfl) (fun _ _ _ h => h) (Or.inl ⟨by rfl, ?hy16⟩) (by assumption) ?resthy16
          case hy16 =>
            intro w hSw
            try dsimp only at hSw
            go_simp
            all_goals with_reducible rfl
          simp only [Act.put, List.getElem_toArray, List.getElem_cons_succ, List.getElem_cons_zero, List.setIfInBounds_toArray, List.set_cons_zero, List.set_cons_succ]
          refine wpAnyH_done (by kernel_rfl) ?_ _
          refine NoPanic.normal ?_
          have HNF := Lib.hid (show FG w.heap.size w7 v7 (fC ms cs (k + 1)) by
            have e : fC ms cs (k + 1) = fC ms cs k ++ instF (op, d, a, x, im) := HST.out
            rw [e]; exact HNW.out)
          have HXN := Lib.hid (And.intro HX7.out.1 HB7.out)
          clear HNW HX7 HB7 HS HRW HRL
          go_wp2_with fail
          go_roundw
          case rel => exact ⟨k + 1, by omega, by go_num, HNF, HXN⟩
          case measure => simp [intOf]; omega
        · obtain rfl : k = cs.length := by omega
          go_wp2_with fail
          go_ret
          exact ⟨_, rfl, HF.out, HX.out.1⟩
end Go.Proofs.YtkocfgaajghggaaDoor
