/- cmap: Len. -/
import Derived.Test.YthppleegiieneaaCMapDo
namespace Go.Proofs.Ythppleegiieneaa
open Go.RowKit
set_option linter.unusedVariables false
set_option linter.unusedSimpArgs false

/-- all pairs, shard by shard -/
def allP (ss : List Sh) : List PairD := ss.flatMap (·.1)
theorem allP_take {ss : List Sh} (i : Nat) (h : i < ss.length) : allP (ss.take (i + 1)) = allP (ss.take i) ++ ss[i].1 := by
  have := List.take_append_getElem h
  simp only [allP]
  rw [← this]
  simp only [List.flatMap_append, List.flatMap_cons, List.flatMap_nil, List.append_nil]
theorem allP_len {ss : List Sh} {bd : Bool} {cap : Int} (h : ∀ s ∈ ss, SGood bd cap s) : (allP ss).length ≤ 16 * ss.length := by
  induction ss with
  | nil => simp [allP]
  | cons s ss ih =>
    have h1 := ih fun x hx => h x (List.mem_cons_of_mem _ hx)
    have h2 := (h s (List.mem_cons_self ..)).len
    simp only [allP, List.flatMap_cons, List.length_append, List.length_cons] at *
    omega
theorem cm_lru_n {n : Nat} (g b : Nat) (w : World) (h : w.cell? ⟨g, 0, none⟩ = some (.pointer (some ⟨b, 0, none⟩))) (name : String) (f : FuncId) (hm : ((Try.prog.info? 70).bind fun i => (i.methods.find? (·.name == name)).map fun m => (m.path.toList, m.func)) = some ([{ struct := 92, index := 0, deref := true }], some (f, true))) (hn : n = Try.prog.types.size + Made.depth) :
    (method n 70 (.pointer (some ⟨g, 0, none⟩)) name).run Try.prog w = .ok (f, .pointer (some ⟨b, 0, none⟩)) w := by
  rw [hn]
  exact cm_lru_recv g b w h name f hm
set_option maxRecDepth 100000 in
set_option maxHeartbeats 4000000 in
theorem cmapLen_ {m : Nat} {kind cap : Int} {al : List ShA} {ss : List Sh} {T : Nat → Prop} {w : World} (hT : MapS m kind cap al ss T w) (G : MGood kind cap al ss) :
    Calls Try.prog 17 #[.pointer (some ⟨m, 0, none⟩)] w fun e w' => e = .returned (.int .i64 ((allP ss).length : Int)) ∧ Only (fun _ => False) w w' := by
  obtain ⟨v, hV⟩ := hT.named
  obtain ⟨sb, off, c, rfl⟩ := hV.shape (by have := G.n1; omega)
  obtain ⟨c0, -⟩ := hV.slot (i := 0) (by have := G.n1; omega)
  have h4 := G.n4
  have HG := Lib.hid G
  have HV := Lib.hid hV
  clear hT hV G
  go_enter Try.func17, Try.ntmps17
  go_wp2_with fail
  go_loopw [11, 3, 5] (fun t11 t3 _ wr => ∃ k : Nat, k ≤ al.length ∧ t11 = .int .i64 k ∧ t3 = .int .i64 ((allP (ss.take k)).length : Int) ∧ Hid (Only (fun _ => False) w wr)) (fun t11 _ _ _ => al.length - (intOf t11).toNat)
  case atStart => exact ⟨0, Nat.zero_le _, rfl, rfl, Lib.hid (Only.refl _ _)⟩
  case round =>
    obtain ⟨k, hk, rfl, rfl, V⟩ := hrel
    by_cases hlt : k < al.length
    · have hVr : MapV m kind cap (.slice (some ⟨sb, off, none⟩) al.length c) al ss T wr := MapV.framed.only _ _ _ _ HV.out V.out (fun _ _ _ h => h)
      obtain ⟨-, c1⟩ := hVr.slot hlt
      have h2 : k < ss.length := by rw [← HG.out.len]; exact hlt
      obtain ⟨A, hA, -⟩ := hVr.at HG.out.len k hlt h2
      have hi0 : (0 : Int) ≤ (k : Int) := by omega
      have hi1 : (k : Int) < (al.length : Int) := by omega
      have hb1 := (HG.out.good _ (List.getElem_mem h2)).len
      have hb2 : (allP (ss.take k)).length ≤ 64 := by
        have := allP_len (ss := ss.take k) (fun s hs => HG.out.good s (List.mem_of_mem_take hs))
        have := List.length_take_le k ss
        have := HG.out.len
        omega
      clear hVr
      cases hai : al[k] with
      | plain b =>
        rw [hai] at c1 hA
        have hcm := cm_book_len b
        have HL := Lib.hid (shLen_plain hA)
        replace c1 : wr.cell? ⟨sb, off + k, none⟩ = some (.iface 67 (.pointer (some ⟨b, 0, none⟩))) := c1
        clear hA
        go_wp2_with fail
        refine HL.out.mono ?_
        rintro e w1 ⟨rfl, ho⟩
        have HO1 := Lib.hid (V.out.tr ho)
        clear ho
        go_wp2_with fail
        refine ⟨⟨k + 1, by omega, by simp, ?_, HO1⟩, ?_⟩
        · rw [allP_take k h2]; simp
        · first | omega | (simp only [intOf]; omega)
      | bound g b =>
        rw [hai] at c1 hA
        have HP := Lib.hid hA.ptr
        have HL := Lib.hid (shLen_bound hA)
        replace c1 : wr.cell? ⟨sb, off + k, none⟩ = some (.iface 70 (.pointer (some ⟨g, 0, none⟩))) := c1
        clear hA
        go_wp2_with fail
        rw [cm_lru_n g b wr HP.out "Len" 54 (by kernel_rfl) (by kernel_rfl)]
        go_wp2_with fail
        refine HL.out.mono ?_
        rintro e w1 ⟨rfl, ho⟩
        have HO1 := Lib.hid (V.out.tr ho)
        clear ho
        go_wp2_with fail
        refine ⟨⟨k + 1, by omega, by simp, ?_, HO1⟩, ?_⟩
        · rw [allP_take k h2]; simp
        · first | omega | (simp only [intOf]; omega)
    · obtain rfl : k = al.length := by omega
      have hts : ss.take al.length = ss := by rw [HG.out.len]; exact List.take_length
      rw [hts]
      go_wp2_with fail
      go_ret
      exact ⟨rfl, V.out⟩
end Go.Proofs.Ythppleegiieneaa
