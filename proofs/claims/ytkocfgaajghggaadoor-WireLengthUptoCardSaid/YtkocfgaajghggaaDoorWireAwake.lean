/- wire: the law's own first look. -/
import Derived.Test.YtkocfgaajghggaaDoorWireCopied
import Derived.Test.YtkocfgaajghggaaDoorWireEnc2
namespace Go.Proofs.YtkocfgaajghggaaDoor
open Go.RowKit
set_option linter.unusedVariables false
set_option linter.unusedSimpArgs false

def smallC : List InstD := [(0, 0, 0, 8, 5), (22, 0, 0, 0, 0)]
theorem small_mod : modP [2] smallC = true := by
  simp [modP, formedP, MapsOk, allP, In.of, right_eq, rightR, regB, sourcedR, threeR, jumpR, smallC]
theorem small_imm : ∀ i ∈ smallC, ImmOk i := by simp [smallC, ImmOk]
theorem small_enc : encP [2] smallC = [84, 80, 1, 1, 2, 2, 0, 0, 0, 8, 10, 22, 0, 0, 0, 0] := by decide
theorem small_str : strB [84, 80, 1, 1, 2, 2, 0, 0, 0, 8, 10, 22, 0, 0, 0, 0] = ⟨#[84, 80, 1, 1, 2, 2, 0, 0, 0, 8, 10, 22, 0, 0, 0, 0]⟩ := by rfl
theorem encP_bytes {ms : List Int} {cs : List InstD} (h : modP ms cs = true) (hi : ∀ i ∈ cs, ImmOk i) : ∀ x ∈ encP ms cs, 0 ≤ x ∧ x ≤ 255 := by
  obtain ⟨⟨hl, hm, _⟩, h1, h64, ha⟩ := modP_ok h
  intro x hx
  simp only [encP, List.mem_cons, List.mem_append] at hx
  rcases hx with rfl | rfl | rfl | hx | hx | hx | hx
  · omega
  · omega
  · omega
  · exact leb1_bytes _ (by omega) (by omega) x hx
  · obtain ⟨m, hmm, hx⟩ := List.mem_flatMap.1 hx
    have := hm m hmm
    exact leb1_bytes _ (by omega) (by omega) x hx
  · exact leb1_bytes _ (by omega) (by omega) x hx
  · obtain ⟨i, hic, hx⟩ := List.mem_flatMap.1 hx
    obtain ⟨op, d, a, b, im⟩ := i
    have hr : (0 ≤ op ∧ op ≤ 22) ∧ (0 ≤ d ∧ d ≤ 63) ∧ (0 ≤ a ∧ a ≤ 63) ∧ (0 ≤ b ∧ b ≤ 63) := right_fields (List.all_eq_true.1 ha _ hic)
    have hz := zz_range im (hi _ hic)
    simp only [instB, List.mem_append] at hx
    rcases hx with hx | hx | hx | hx | hx
    · exact leb1_bytes _ (by omega) (by omega) x hx
    · exact leb1_bytes _ (by omega) (by omega) x hx
    · exact leb1_bytes _ (by omega) (by omega) x hx
    · exact leb1_bytes _ (by omega) (by omega) x hx
    · exact leb1_bytes _ hz.1 hz.2 x hx
/-- Decode of what Encode lays -/
theorem decode_enc {ms : List Int} {cs : List InstD} (v : Value) (w : World) (h : modP ms cs = true) (hi : ∀ i ∈ cs, ImmOk i) (hr : Rd eU8 w v (encP ms cs)) (hF : Forms w) :
    Calls Tryd.prog 14 #[v] w fun e w' => ∃ vm vc, e = .returned (.tuple #[.agg #[vm, vc], .int .i64 0, .int .i64 0]) ∧ ModN w vm vc ms cs w' := by
  refine (decode_any _ v w hr (encP_bytes h hi) hF).mono ?_
  rintro e w' ⟨hO, h2⟩
  have hd := dec_enc h hi []
  rw [List.append_nil, if_pos rfl] at hd
  rcases h2 with ⟨ms', cs', vm, vc, hd', _, he, h3, h4⟩ | ⟨p, e', hd', _⟩
  · rw [hd] at hd'
    obtain ⟨rfl, rfl⟩ : ms = ms' ∧ cs = cs' := by simpa using hd'
    exact ⟨vm, vc, he, h3, h4, hO⟩
  · rw [hd] at hd'
    simp at hd'
set_option maxHeartbeats 2000000 in
theorem small_any (w : World) : Calls Tryd.prog 19 #[] w fun e w' => ∃ vm vc, e = .returned (.agg #[vm, vc]) ∧ ModN w vm vc [2] smallC w' := by
  obtain ⟨W, hW⟩ : ∃ W, W = ((w.alloc (.cells #[.slice none 0 0, .slice none 0 0] 25)).alloc (.cells #[.int .i64 2] 3)).alloc (.cells #[.int .i64 0, .int .i64 0, .int .i64 0, .int .i64 8, .int .i64 5, .int .i64 22, .int .i64 0, .int .i64 0, .int .i64 0, .int .i64 0] 44) := ⟨_, rfl⟩
  have HC := Lib.hid (show W.heap[w.heap.size]? = some (.cells #[.slice none 0 0, .slice none 0 0] 25 (0, 0)) by rw [hW]; exact heap_alloc (heap_alloc (heap_alloc_new w _)))
  have hO : Only (fun _ => False) w W := by rw [hW]; exact ((Only.alloc _ _ _).tr (Only.alloc _ _ _)).tr (Only.alloc _ _ _)
  have hA : OwS (eInt .i64) 3 (fun k => w.heap.size ≤ k) W (.slice (some ⟨w.heap.size + 1, 0, none⟩) 1 1) [2] := by
    have h := Ow.lit (E := eInt .i64) (w.alloc (.cells #[.slice none 0 0, .slice none 0 0] 25)) 0 #[.int .i64 2] 3 1 [2] rfl rfl (by simp [maxLen]) (Nat.zero_le _)
    have e : (w.alloc (.cells #[.slice none 0 0, .slice none 0 0] 25)).heap.size = w.heap.size + 1 := by simp
    rw [e] at h
    refine ⟨by rw [hW]; exact h.alloc _, fun k hk => ?_⟩
    obtain rfl : w.heap.size + 1 = k := by simpa [Value.ownBlock] using hk
    show w.heap.size ≤ _
    omega
  have hB : OwS eInst 44 (fun k => w.heap.size ≤ k) W (.slice (some ⟨w.heap.size + 1 + 1, 0, none⟩) 2 2) smallC := by
    have h := Ow.lit (E := eInst) ((w.alloc (.cells #[.slice none 0 0, .slice none 0 0] 25)).alloc (.cells #[.int .i64 2] 3)) 0 #[.int .i64 0, .int .i64 0, .int .i64 0, .int .i64 8, .int .i64 5, .int .i64 22, .int .i64 0, .int .i64 0, .int .i64 0, .int .i64 0] 44 2 smallC rfl rfl (by simp [maxLen]) (Nat.zero_le _)
    have e : ((w.alloc (.cells #[.slice none 0 0, .slice none 0 0] 25)).alloc (.cells #[.int .i64 2] 3)).heap.size = w.heap.size + 1 + 1 := by simp
    rw [e] at h
    refine ⟨by rw [hW]; exact h, fun k hk => ?_⟩
    obtain rfl : w.heap.size + 1 + 1 = k := by simpa [Value.ownBlock] using hk
    show w.heap.size ≤ _
    omega
  have HF := Lib.hid (fun cs => show ModN w _ _ [2] smallC (W.setRow w.heap.size cs) from ⟨hA.keepT (only_setRow W _ cs) fun k hk e => row_ne HC.out hA.1 (by decide) (by rw [hk, e]), hB.keepT (only_setRow W _ cs) fun k hk e => row_ne HC.out hB.1 (by decide) (by rw [hk, e]), hO.trans (only_setRow W _ cs) fun k hk e => by omega⟩)
  have HW := Lib.hid hW
  clear hA hB hO hW
  go_enter Tryd.func19, Tryd.ntmps19
  go_wp2_with (rw [← HW.out]; refine wpList_store_row rfl 25 (.tmp 0) (.tmp 5) rfl w.heap.size _ rfl rfl 25 _ HC.out (by kernel_rfl) rfl (by simp [Value.oneCell']) ?_)
  refine bodyPost_ret (results_cell_row rfl _ _ w.heap.size _ _ _ _ rfl (setRow_heap _ _ _ _ _ _ HC.out) Tryd.underlying25 rfl (by kernel_rfl)) rfl ?_
  exact ⟨_, _, rfl, HF.out _⟩
theorem ModN.grow {w w0 : World} {vm vc : Value} {ms : List Int} {cs : List InstD} {W : World} (h : ModN w vm vc ms cs W) (hO : Only (fun _ => False) w0 w) : ModN w0 vm vc ms cs W :=
  ⟨OwS.framed.mono _ _ _ h.1 fun k _ hk => Nat.le_trans hO.size hk, OwS.framed.mono _ _ _ h.2.1 fun k _ hk => Nat.le_trans hO.size hk, hO.tr h.2.2⟩
theorem ModN.fresh {w : World} {vm vc : Value} {ms : List Int} {cs : List InstD} {W W' : World} (h : ModN w vm vc ms cs W) (hO : Only (fun _ => False) W W') : ModN w vm vc ms cs W' := ⟨h.1.keep0 hO, h.2.1.keep0 hO, h.2.2.tr hO⟩
set_option maxRecDepth 100000 in
set_option maxHeartbeats 4000000 in
theorem awake_any (w : World) (hF : Forms w) : Calls Tryd.prog 9 #[] w fun e w' => e = .returned (.bool true) ∧ Only (fun _ => False) w w' := by
  have HF := Lib.hid hF
  clear hF
  go_enter Tryd.func9, Tryd.ntmps9
  go_wp2_with fail
  refine (small_any w).mono ?_
  rintro e w1 ⟨vm, vc, rfl, hM1⟩
  have HM1 := Lib.hid hM1
  clear hM1
  go_wp2_with fail
  refine (encode_ok [2] smallC vm vc w1 HM1.out.1.rd HM1.out.2.1.rd small_imm (HF.out.only HM1.out.2.2) small_mod).mono ?_
  rintro e w2 ⟨v2, rfl, hv2, hO2⟩
  have HV2 := Lib.hid hv2
  have HO2 := Lib.hid (HM1.out.2.2.tr hO2)
  clear hv2 hO2 HM1
  go_wp2_with fail
  refine (decode_enc v2 w2 small_mod small_imm HV2.out.rd (HF.out.only HO2.out)).mono ?_
  rintro e w3 ⟨va, vb, rfl, hM3⟩
  have HM3 := Lib.hid (hM3.fresh (Only.alloc _ w3 (.cells #[va, vb] 25)))
  have hr2 := (HV2.out.rd.only hM3.2.2).alloc (.cells #[va, vb] 25)
  rw [small_enc] at hr2
  have hcv := conv_rd hr2
  rw [small_str] at hcv
  obtain ⟨_, aa, ca, rfl, _⟩ := id hM3.1.1
  obtain ⟨_, ab, cb, rfl, _, _, hx⟩ := id hM3.2.1.rd
  obtain ⟨sb, off, rfl, hc⟩ := hx (by simp [smallC])
  have d4 : w3.cell? ⟨sb, off + 0 * 5 + 4, none⟩ = some (.int .i64 5) := (inst_cells hc 0 (by simp [smallC])).2.2.2.2
  simp only [Nat.zero_mul, Nat.add_zero] at d4
  have hsb := World.block_lt_of_cell? w3 _ d4
  have hl2 : smallC.length = 2 := rfl
  have hcv2 : (convert 28 9 v2).run Tryd.prog (w3.alloc (.cells #[.slice aa 1 ca, .slice (some ⟨sb, off, none⟩) 2 cb] 25)) = .ok (.string ⟨#[84, 80, 1, 1, 2, 2, 0, 0, 0, 8, 10, 22, 0, 0, 0, 0]⟩) (w3.alloc (.cells #[.slice aa 1 ca, .slice (some ⟨sb, off, none⟩) 2 cb] 25)) := hcv
  clear hcv
  rw [hl2]
  clear hM3 hr2 hx hc
  go_wp2_with fail
  go_ret
  exact ⟨rfl, HO2.out.tr HM3.out.2.2⟩
end Go.Proofs.YtkocfgaajghggaaDoor
