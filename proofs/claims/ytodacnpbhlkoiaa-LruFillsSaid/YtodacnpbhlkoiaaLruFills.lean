/- The law LruFills: its walk. -/
import Derived.Test.YtodacnpbhlkoiaaLruFill
import Derived.Test.YtodacnpbhlkoiaaBookKey
import Derived.Test.YtodacnpbhlkoiaaBookDec
import Derived.Deep.RegionHeld3
import Derived.Deep.DeepCutAuto
import Derived.Deep.CutBlock
namespace Go.Proofs.Ytodacnpbhlkoiaa
open Go.RowKit
set_option linter.unusedVariables false
set_option linter.unusedSimpArgs false

theorem step_appendW {α : Type} {E : Enc α} {P : Program} {w : World} {ops : Array Oper} {o : Oper} {a : Act} {K : Act → World → Prop} {Q : Exit → Act → World → Prop} {F : Prop} (hgd : o.guard = none) (s x : Operand) (t : TypeId)
    (ho : o.op = .call { callee := .builtin .append, args := #[s, x], argTypes := #[t, t] })
    (e bytes : Nat) (hI : SliceInfo P t e E.size bytes) (S : Nat → Prop) (v : Value) (xs : List α) (hs : a.eval s = v) (hown : OwS E e S w v xs)
    (u : Value) (ys : List α) (hx : a.eval x = u) (hr : Rd E w u ys)
    (hbytes : (5 * (xs.length + ys.length) + 2816) * bytes ≤ 1125899906842624) (h63 : xs.length + ys.length ≤ maxLen)
    (h : ∀ v' w', OwS E e (fun k => S k ∨ w.heap.size ≤ k) w' v' (xs ++ ys) → Only S w w' → K (a.put o.dst v') w') :
    if Region.wanted o (yielded ops a.tmps) = true then Oper.wp P o a w K Q else F :=
  step_append hgd s x t ho 0 e bytes hI v xs hs hown.1 u ys hx hr hbytes h63 (Nat.zero_le _) fun v' w' h1 h2 h3 _ => h v' w' ⟨h1, fun k hk => by
      rcases h3 with h3 | h3
      · exact .inl (hown.2 k (by rw [← h3.1]; exact hk))
      · exact .inr (h3 k hk)⟩ (Only.of_grown h2 fun k hk => hown.2 k hk)
theorem Sep.swap23 {P Q R : (Nat → Prop) → World → Prop} {S : Nat → Prop} {w : World} (h : Sep (Sep P Q) R S w) : Sep (Sep P R) Q S w := (h.assoc.imp (fun _ h => h) fun _ h => h.swap).assoc'
theorem two_ptr {ga ba gb bb : Nat} {cap : Int} {s t : List PairD × List Int} {R : (Nat → Prop) → World → Prop} {S : Nat → Prop} {w W : World} (h : Upd (Sep (Sep (LruS ga ba cap s) (LruS gb bb cap t)) R) S w W) :
    W.cell? ⟨ga, 0, none⟩ = some (.pointer (some ⟨ba, 0, none⟩)) ∧ W.cell? ⟨gb, 0, none⟩ = some (.pointer (some ⟨bb, 0, none⟩)) := by
  obtain ⟨_, h1⟩ := h.getA
  obtain ⟨_, h2⟩ := h.getB
  exact ⟨h1.ptr, h2.ptr⟩
theorem Upd.rest2 {P R : (Nat → Prop) → World → Prop} {S : Nat → Prop} {w w1 : World} (h : Upd (Sep P R) S w w1) (hP : Framed P := by exact Sep.framed LruS.framed LruS.framed) : Upd P S w w1 := h.drop hP
theorem numbers_only (xs : List Int) (va vb : Value) (w : World) (ha : Rd eU64 w va xs) (hb : Rd eU64 w vb xs) :
    Calls Try.prog 13 #[va, vb] w fun e w' => e = .returned (.bool true) ∧ Only (fun _ => False) w w' :=
  (numbers_eq xs va vb w ha hb).mono fun _ _ ⟨h1, n, h2⟩ => ⟨h1, by rw [h2]; exact (Only.refl _ _).drewN n⟩
theorem keepP2 {w0 w w' : World} {sb o0 o1 : Nat} {v u : Value} (h : Below w0.heap.size w w') (l : sb < w0.heap.size) (c : w.cell? ⟨sb, o0, none⟩ = some v) (c2 : w.cell? ⟨sb, o1, none⟩ = some u) : w'.cell? ⟨sb, o0, none⟩ = some v ∧ w'.cell? ⟨sb, o1, none⟩ = some u := ⟨(h.cell l).trans c, (h.cell l).trans c2⟩

set_option maxRecDepth 100000 in
set_option maxHeartbeats 4000000 in
theorem lruFills_bad (cap : Int) (u v : Value) (w : World) (h : cap < 1 ∨ 16 < cap) :
    Calls Try.prog 6 #[.int .i64 cap, u, v] w fun e w' => e = .returned (.bool true) ∧ Below w.heap.size w w' := by
  go_enter Try.func6, Try.ntmps6
  go_wp2_with fail
  refine (awake_any _).mono ?_
  rintro e w1 ⟨rfl, hb1⟩
  go_wp2_with fail
  refine (lruNew_bad cap _ h).mono ?_
  rintro e w2 ⟨rfl, ho⟩
  have HB := Lib.hid (hb1.trans (ho.below (B := w.heap.size) hb1.size (fun _ h => h.elim)))
  clear hb1 ho
  go_wp2_with fail
  refine (lruNew_bad cap _ h).mono ?_
  rintro e w3 ⟨rfl, ho⟩
  have HB2 := Lib.hid (HB.out.trans (ho.below (B := w.heap.size) HB.out.size (fun _ h => h.elim)))
  clear HB ho
  go_wp2_with fail
  go_ret
  exact ⟨rfl, HB2.out⟩

set_option maxRecDepth 100000 in
set_option maxHeartbeats 8000000 in
theorem lruFills_big (cap : Int) (h1 : 1 ≤ cap) (h2 : cap ≤ 16) (ps : List PairD) (ks : List Int) (u v : Value) (w : World) (hu : Rd ePair w u ps) (hv : Rd eU64 w v ks) (hbig : 3000 < ps.length ∨ 3000 < ks.length) :
    Calls Try.prog 6 #[.int .i64 cap, u, v] w fun e w' => e = .returned (.bool true) ∧ Below w.heap.size w w' := by
  obtain ⟨_, ao, c, rfl, _⟩ := hu
  obtain ⟨_, ak, ck, rfl, _⟩ := hv
  have hor : (3000 : Int) < (ps.length : Int) ∨ (¬ (3000 : Int) < (ps.length : Int) ∧ (3000 : Int) < (ks.length : Int)) := by omega
  clear hbig
  rcases hor with hp | ⟨hp, hk⟩
  all_goals
    go_enter Try.func6, Try.ntmps6
    go_wp2_with fail
    refine (awake_any _).mono ?_
    rintro e w1 ⟨rfl, hb1⟩
    go_wp2_with fail
    refine (lruNewU Emp.framed (St.start hb1) h1 h2).mono ?_
    rintro e w2 ⟨ga, rfl, ba, hL2⟩
    have HL2 := Lib.hid hL2
    clear hb1 hL2
    go_wp2_with fail
    refine (lruNewU (Sep.framed LruS.framed Emp.framed) HL2.out h1 h2).mono ?_
    rintro e w3 ⟨gb, rfl, bb, hL3⟩
    have HB := Lib.hid (St.below hL3)
    clear HL2 hL3
    go_wp2_with fail
    go_ret
    exact ⟨rfl, HB.out⟩

set_option maxRecDepth 100000 in
set_option maxHeartbeats 40000000 in
theorem lruFills_yes (cap : Int) (h1 : 1 ≤ cap) (h2 : cap ≤ 16) (ps : List PairD) (ks : List Int) (u v : Value) (w : World) (hu : Rd ePair w u ps) (hv : Rd eU64 w v ks) (hp3 : ps.length ≤ 3000) (hk3 : ks.length ≤ 3000) :
    Calls Try.prog 6 #[.int .i64 cap, u, v] w fun e w' => e = .returned (.bool true) ∧ Below w.heap.size w w' := by
  obtain ⟨_, ao, c, rfl, _⟩ := id hu
  obtain ⟨_, ak, ck, rfl, _⟩ := id hv
  have HPU := Lib.hid hu
  have HKU := Lib.hid hv
  have hp : ¬ (3000 : Int) < (ps.length : Int) := by omega
  have hk : ¬ (3000 : Int) < (ks.length : Int) := by omega
  obtain ⟨sa, hsa⟩ : ∃ sa, fillL cap ([], []) ps = sa := ⟨_, rfl⟩
  obtain ⟨sb, m, hsb⟩ : ∃ sb m, touchL cap sa ks = (sb, m) := ⟨_, _, rfl⟩
  have HSA := Lib.hid hsa
  have HT := Lib.hid hsb
  have HG0 := Lib.hid (lgood_nil h1 h2)
  have HGA := Lib.hid (show LGood cap sa by have := fillL_good HG0.out ps; rwa [hsa] at this)
  have HGB := Lib.hid (show LGood cap sb ∧ m ≤ ks.length by have := touchL_good HGA.out ks ks.length (Nat.le_refl _); rwa [List.take_length, hsb] at this)
  clear hu hv hsa hsb
  go_enter Try.func6, Try.ntmps6
  go_wp2_with fail
  refine (awake_any _).mono ?_
  rintro e w1 ⟨rfl, hb1⟩
  go_wp2_with fail
  refine (lruNewU Emp.framed (St.start hb1) h1 h2).mono ?_
  rintro e w2 ⟨ga, rfl, ba, hL2⟩
  have HL2 := Lib.hid hL2
  clear hb1 hL2
  go_wp2_with fail
  refine (lruNewU (Sep.framed LruS.framed Emp.framed) HL2.out h1 h2).mono ?_
  rintro e w3 ⟨gb, rfl, bb, hL3⟩
  have HL3 := Lib.hid (show St (Sep (Sep (LruS ga ba cap ([], [])) (LruS gb bb cap ([], []))) Emp) w w3 from hL3.imp fun _ h => (h.imp (fun _ h => h) fun _ h => h).turn.assoc'.imp (fun _ h => h) fun _ _ => trivial)
  clear HL2 hL3 h1 h2
  have HRP := Lib.hid ((HPU.out.grow (St.below HL3.out)).alloc (.cells #[] 46))
  have HLP : Hid (OwS ePair 46 (fun k => w3.heap.size ≤ k) (w3.alloc (.cells #[] 46)) (.slice (some ⟨w3.heap.size, 0, none⟩) 0 0) []) := Lib.hid ⟨Ow.lit (E := ePair) w3 0 #[] 46 0 [] (by simp [Enc.all]) rfl (by simp) (Nat.zero_le _), fun k hk => by simp [Value.ownBlock] at hk; omega⟩
  have HSZ := Lib.hid (size_le_alloc w3 (.cells #[] 46))
  go_wp2_with (at_builtin; refine wl_appendS (E := ePair) rfl _ (.tmp 59) _ rfl 46 16 ePair_slice _ _ [] rfl HLP.out _ ps rfl HRP.out (by simp only [List.length_nil]; omega) (by unfold maxLen; simp only [List.length_nil]; omega) ?_)
  intro vi w4 h4 hO4
  have HL4 := Lib.hid ((HL3.out.rest2).add (Sep.framed LruS.framed LruS.framed) (Q := fun S w => OwS ePair 46 S w vi ps) OwS.framed (OwS.framed.mono _ _ _ h4 fun k _ h => h.elim id fun h => by have := HSZ.out; omega) ((Only.alloc (fun _ => False) w3 (.cells #[] 46)).trans hO4 fun k hk h => by omega))
  obtain ⟨ai, ni, ci, rfl⟩ := h4.shape'
  clear h4 hO4 HLP HRP HL3 HSZ
  go_wp2_with fail
  refine ((HL4.out.imp fun _ h => h.swap23).on1 LruS.framed (Sep.framed LruS.framed OwS.framed) (E := fun e => e = .returned (.int .i64 ps.length)) fun A hA => (lruFill_any ga ba cap ([], []) ps _ A _ hA HG0.out).mono fun e w' ⟨he, hu⟩ => ⟨he, by rw [HSA.out] at hu; exact hu⟩).mono ?_
  rintro e w5 ⟨rfl, hV5⟩
  have HV5 := Lib.hid (hV5.imp fun _ h => h.swap23)
  obtain ⟨cp0, cp1⟩ := two_ptr HV5.out
  have hgb5 := World.block_lt_of_cell? w5 _ cp1
  obtain ⟨_, hlb⟩ := HV5.out.getB
  have HLB := Lib.hid (lruLen_ hlb)
  have hnn : ((ps.length : Int) != (ps.length : Int)) = false := by simp
  clear hV5 HL4 hlb
  go_wp2_with fail
  refine (HV5.out.callRead (Sep.framed (Sep.framed LruS.framed LruS.framed) OwS.framed) (E := fun e => e = .returned (.int .i64 0)) HLB.out).mono ?_
  rintro e w6 ⟨rfl, hV6⟩
  have HV6 := Lib.hid hV6
  obtain ⟨_, hlb⟩ := hV6.getB
  have HOB := Lib.hid (lruOrder_ hlb HG0.out)
  clear hV6 HV5 HLB hlb cp0 cp1
  go_wp2_with fail
  refine (HV6.out.callKeep (Sep.framed LruS.framed LruS.framed) OwS.framed (Yx := fun v S w => OwS eU64 28 S w v []) (E := fun v e => e = .returned v) (fun _ => OwS.framed) HOB.out).mono ?_
  rintro e w7 ⟨v7, rfl, hV7⟩
  obtain ⟨_, hoi, ho7⟩ := hV7.getR
  obtain ⟨⟨_, a7, c7, rfl, _⟩, _⟩ := ho7
  have HV7 := Lib.hid (hV7.rest (R' := fun S w => OwS ePair 46 S w (.slice ai ni ci) ps) fun _ h => h.1)
  have HPC := Lib.hid (pairs_eq ps _ _ w7 hoi.rd (HPU.out.grow (St.below hV7)))
  clear hV7 HV6 HOB hoi
  dsimp only [List.length_nil]
  go_wp2_with fail
  refine (HV7.out.callRead (Sep.framed (Sep.framed LruS.framed LruS.framed) OwS.framed) (E := fun e => e = .returned (.bool true)) HPC.out).mono ?_
  rintro e w8 ⟨rfl, hV8⟩
  have HV8 := Lib.hid (hV8.rest (R' := Emp) fun _ _ => trivial)
  clear hV8 HV7 HPC
  go_wp2_with fail
  go_loopw [13] (fun t13 wr => ∃ (k : Nat) (s2 : List PairD × List Int), k ≤ ps.length ∧ t13 = .int .i64 k ∧ Hid (fillL cap ([], []) (ps.take k) = s2) ∧ Hid (LGood cap s2) ∧ Hid (St (Sep (Sep (LruS ga ba cap sa) (LruS gb bb cap s2)) Emp) w wr)) (fun t13 _ => ps.length - (intOf t13).toNat)
  case atStart => exact ⟨0, ([], []), Nat.zero_le _, rfl, Lib.hid rfl, HG0, HV8⟩
  case round => as_aux_lemma =>
    clear HV8
    obtain ⟨k, s2, hkk, rfl, HF, HG, V⟩ := hrel
    by_cases hlt : k < ps.length
    · skip
      obtain ⟨_, ao', cap', hao, _, _, hx⟩ := HPU.out
      obtain ⟨rfl, _, rfl⟩ : ao = ao' ∧ ps.length = ps.length ∧ c = cap' := by simpa using hao
      obtain ⟨sb0, off, rfl, hc⟩ := hx (by omega)
      obtain ⟨c0, c1⟩ := pair_cells hc k hlt
      have HLB := Lib.hid (Rd.lt HPU.out (by omega))
      obtain ⟨d0, d1⟩ := keepP2 (St.below V.out) HLB.out c0 c1
      have hi0 : (0 : Int) ≤ (k : Int) := by omega
      have hi1 : (k : Int) < (ps.length : Int) := by omega
      have HS := Lib.hid (show fillL cap ([], []) (ps.take (k + 1)) = (lruP cap s2 2 ps[k].1 ps[k].2).2 by rw [List.take_succ_eq_append_getElem hlt, fillL_snoc, HF.out])
      clear hc hx hao c0 c1
      generalize ps[k].1 = p0 at *
      generalize ps[k].2 = p1 at *
      obtain ⟨r, s3, hd⟩ : ∃ r s3, lruP cap s2 2 p0 p1 = (r, s3) := ⟨_, _, rfl⟩
      rw [hd] at HS
      have HD := Lib.hid hd
      have HG2 := Lib.hid (show LGood cap s3 by have := lru_good (op := 2) (k := p0) (v := p1) HG.out; rwa [hd] at this)
      have HKP := Lib.hid (fun (W : World) (h : St (Sep (Sep (LruS ga ba cap sa) (LruS gb bb cap s3)) Emp) w W) => keepP (St.below h) (St.below V.out) HLB.out d0 d1)
      clear hd
      go_wp2_with fail
      go_region_held3 (fun w' => w'.cell? ⟨sb0, off + k * 2, none⟩ = some (.int .u64 p0) ∧ w'.cell? ⟨sb0, off + k * 2 + 1, none⟩ = some (.int .u64 p1))
        ((first | exact ⟨d0, d1⟩ | exact HKP.out _ hVi))
        ((go_at_call 11; refine ((V.out.drewU (Sep.framed (Sep.framed LruS.framed LruS.framed) Emp.framed)).onB LruS.framed Emp.framed LruS.framed (E := fun e => e = .returned (.agg #[.int .i64 r.1, .bool r.2.1, .int .u64 r.2.2.1, .bool r.2.2.2.1, .int .u64 r.2.2.2.2.1, .int .u64 r.2.2.2.2.2])) fun A hA => lruDo_ hA HG.out HD.out).mono ?_; rintro e wi ⟨rfl, hVi⟩))
      all_goals
        have HVi := Lib.hid hVi
        clear hVi HKP d0 d1 V
        go_wp2_with fail
        go_roundw
        case rel => exact ⟨k + 1, s3, by omega, by go_num, HS, HG2, HVi⟩
        case measure => simp [intOf]; omega
    · obtain rfl : k = ps.length := by omega
      obtain rfl : s2 = sa := by have := HF.out; rw [List.take_length] at this; rw [← this, HSA.out]
      have HGM := Lib.hid HGB.out.2
      clear HF HPU
      go_wp2_with fail
      go_loopw [14, 15] (fun t14 t15 wr => ∃ (k n : Nat) (s3 : List PairD × List Int), k ≤ ks.length ∧ n ≤ k ∧ t15 = .int .i64 k ∧ t14 = .int .i64 n ∧ Hid (touchL cap s2 (ks.take k) = (s3, n)) ∧ Hid (LGood cap s3) ∧ Hid (St (Sep (Sep (LruS ga ba cap s2) (LruS gb bb cap s3)) Emp) w wr)) (fun _ t15 _ => ks.length - (intOf t15).toNat)
      case atStart => exact ⟨0, 0, s2, Nat.zero_le _, Nat.le_refl _, rfl, rfl, Lib.hid rfl, HG, V⟩
      case round => as_aux_lemma =>
        clear V HG
        obtain ⟨k, n, s3, hkk, hn, rfl, rfl, HF, HG, V⟩ := hrel
        by_cases hlt : k < ks.length
        · skip
          obtain ⟨_, ao', cap', hao, _, _, hx⟩ := HKU.out
          obtain ⟨rfl, _, rfl⟩ : ak = ao' ∧ ks.length = ks.length ∧ ck = cap' := by simpa using hao
          obtain ⟨sb0, off, rfl, hc⟩ := hx (by omega)
          have c0 := hc k _ (eU64_at ks k hlt)
          have HLB := Lib.hid (Rd.lt HKU.out (by omega))
          have d0 := ((St.below V.out).cell (p := ⟨sb0, off + k, none⟩) HLB.out).trans c0
          have hi0 : (0 : Int) ≤ (k : Int) := by omega
          have hi1 : (k : Int) < (ks.length : Int) := by omega
          have HS := Lib.hid (show touchL cap s2 (ks.take (k + 1)) = ((lruP cap s3 0 ks[k] 0).2, if hasP s3.1 ks[k] then n + 1 else n) by rw [List.take_succ_eq_append_getElem hlt, touchL_snoc, HF.out])
          clear hc hx hao c0
          generalize ks[k] = p0 at *
          have HG2 := Lib.hid (lru_good (op := 0) (k := p0) (v := 0) HG.out)
          have HD := Lib.hid (get_val cap s3 p0 5)
          rw [get_val cap s3 p0 0] at HG2 HS
          have hfl := res_field1' 0 (oldP s3.1 p0) 0 0 (hasP s3.1 p0) false
          generalize (s3.1, ordP s3.1 s3.2 0 p0) = s4 at *
          generalize oldP s3.1 p0 = oo at *
          generalize hasP s3.1 p0 = hh at *
          cases hh
          all_goals
            go_wp2_with fail
            refine (V.out.onB LruS.framed Emp.framed LruS.framed (E := fun e => e = .returned (.agg #[.int .i64 0, .bool _, .int .u64 oo, .bool false, .int .u64 0, .int .u64 0])) fun A hA => lruDo_ hA HG.out HD.out).mono ?_
            rintro e wi ⟨rfl, hVi⟩
            have HVi := Lib.hid hVi
            clear hVi V d0
            go_wp2_with fail
            go_roundw
            case rel => first | exact ⟨k + 1, n, s4, by omega, by omega, by go_num, rfl, HS, HG2, HVi⟩ | exact ⟨k + 1, n + 1, s4, by omega, by omega, by go_num, by go_num, HS, HG2, HVi⟩
            case measure => simp [intOf]; omega
        · obtain rfl : k = ks.length := by omega
          obtain ⟨rfl, rfl⟩ : s3 = sb ∧ n = m := by have := HF.out; rw [List.take_length, HT.out] at this; simpa [eq_comm] using this
          have HS00 := Lib.hid (V.out.drewU (Sep.framed (Sep.framed LruS.framed LruS.framed) Emp.framed))
          have HS1 := Lib.hid (HS00.out.fresh (Sep.framed (Sep.framed LruS.framed LruS.framed) Emp.framed) (Only.alloc (fun _ => False) _ (.cells #[] 28)))
          have HLT : Hid (OwS eU64 28 (fun k => wr.heap.size ≤ k) (wr.drew.alloc (.cells #[] 28)) (.slice (some ⟨wr.heap.size, 0, none⟩) 0 0) []) := Lib.hid ⟨Ow.lit (E := eU64) wr.drew 0 #[] 28 0 [] (by simp [Enc.all]) rfl (by simp) (Nat.zero_le _), fun k hk => by simp [Value.ownBlock] at hk; omega⟩
          have HRK := Lib.hid ((HKU.out.grow (St.below HS00.out)).alloc (.cells #[] 28))
          have HSZ := Lib.hid (show wr.heap.size ≤ (wr.drew.alloc (.cells #[] 28)).heap.size from size_le_alloc wr.drew (.cells #[] 28))
          have hnn2 : ((n : Int) != (n : Int)) = false := by simp
          go_wp2_with fail
          refine wp_region_noPanic ?_
          refine wp_region_held_drew (S := fun W => W.cell? ⟨ga, 0, none⟩ = some (.pointer (some ⟨ba, 0, none⟩)) ∧ W.cell? ⟨gb, 0, none⟩ = some (.pointer (some ⟨bb, 0, none⟩))) (by kernel_rfl) ?_ (fun hHeld => ?_)
          · exact (two_ptr HS00.out)
          try simp only [Act.put, List.getElem_toArray, List.getElem_cons_succ, List.getElem_cons_zero, List.setIfInBounds_toArray, List.set_cons_zero, List.set_cons_succ]
          refine wpAnyH_take (i := 0) (v := ?vr0) rfl (by kernel_rfl) (by kernel_rfl) (by kernel_rfl) (fun _ _ _ h => h) (Or.inl ⟨by rfl, ?hyr0⟩) (by assumption) ?restr0
          case hyr0 =>
            intro w hSw
            try dsimp only at hSw
            go_simp
            all_goals with_reducible rfl
          simp only [Act.put, List.getElem_toArray, List.getElem_cons_succ, List.getElem_cons_zero, List.setIfInBounds_toArray, List.set_cons_zero, List.set_cons_succ]
          refine wpAnyH_take (i := 2) (v := ?vr2) rfl (by kernel_rfl) (by kernel_rfl) (by kernel_rfl) (fun _ _ _ h => h) (Or.inl ⟨by rfl, ?hyr2⟩) (by assumption) ?restr2
          case hyr2 =>
            intro w hSw
            try dsimp only at hSw
            go_simp
            all_goals with_reducible rfl
          simp only [Act.put, List.getElem_toArray, List.getElem_cons_succ, List.getElem_cons_zero, List.setIfInBounds_toArray, List.set_cons_zero, List.set_cons_succ]
          refine wpAnyH_take (i := 5) (v := ?vr5) rfl (by kernel_rfl) (by kernel_rfl) (by kernel_rfl) (fun _ _ _ h => h) (Or.inl ⟨by rfl, ?hyr5⟩) (by assumption) ?restr5
          case hyr5 =>
            intro w hSw
            try dsimp only at hSw
            go_simp
            all_goals with_reducible rfl
          simp only [Act.put, List.getElem_toArray, List.getElem_cons_succ, List.getElem_cons_zero, List.setIfInBounds_toArray, List.set_cons_zero, List.set_cons_succ]
          refine wpAnyH_ready (rs := [1]) (by kernel_rfl) (by simp) ?_
          refine AllReadyH.cons rfl (fun K hK => ?_) AllReadyH.nil
          go_simp
          try go_wp2_with fail
          refine hK.out _ _ ?_ (fun hHeld => ?_)
          · exact (two_ptr HS1.out)
          clear hK K
          try simp only [Act.put, List.getElem_toArray, List.getElem_cons_succ, List.getElem_cons_zero, List.setIfInBounds_toArray, List.set_cons_zero, List.set_cons_succ]
          refine wpAnyH_ready (rs := [3]) (by kernel_rfl) (by simp) ?_
          refine AllReadyH.cons rfl (fun K hK => ?_) AllReadyH.nil
          refine step_appendW (E := eU64) (by rfl) (.tmp 122) (.tmp 123) _ (by rfl) 28 8 eU64_sl _ _ [] (by rfl) HLT.out _ ks (by rfl) HRK.out (by simp only [List.length_nil]; omega) (by unfold maxLen; simp only [List.length_nil]; omega) ?_
          intro v3 w3 h3 hO3
          have HS3 := Lib.hid (Upd.add (Sep.framed LruS.framed LruS.framed) (Q := fun S w => OwS eU64 28 S w v3 ks) OwS.framed (HS00.out.rest2) (OwS.framed.mono _ _ _ h3 fun k _ h => h.elim id fun h => Nat.le_trans HSZ.out h) ((Only.alloc (fun _ => False) _ (.cells #[] 28)).trans hO3 fun k hk h => absurd h (Nat.not_le.2 hk)))
          obtain ⟨a3, n3, c3, rfl⟩ := h3.shape'
          clear h3 hO3
          refine hK.out _ _ ?_ (fun hHeld => ?_)
          · exact two_ptr HS3.out
          clear hK K
          try simp only [Act.put, List.getElem_toArray, List.getElem_cons_succ, List.getElem_cons_zero, List.setIfInBounds_toArray, List.set_cons_zero, List.set_cons_succ]
          refine wpAnyH_ready (rs := [4]) (by kernel_rfl) (by simp) ?_
          refine AllReadyH.cons rfl (fun K hK => ?_) AllReadyH.nil
          go_simp
          refine ((HS3.out.imp fun _ h => h.swap23).on1 LruS.framed (Sep.framed LruS.framed OwS.framed) (E := fun e => e = .returned (.int .i64 n)) fun A hA => (lruTouch_any ga ba cap s2 ks _ A _ hA HGA.out).mono fun e w' ⟨he, hu⟩ => ⟨by rw [he, HT.out], by rw [HT.out] at hu; exact hu⟩).mono ?_
          rintro e w4 ⟨rfl, hV4⟩
          have HS4 := Lib.hid ((hV4.imp fun _ h => h.swap23).rest (R' := Emp) fun _ _ => trivial)
          clear hV4 HS3
          try go_wp2_with fail
          refine hK.out _ _ ?_ (fun hHeld => ?_)
          · exact (two_ptr HS4.out)
          clear hK K
          try simp only [Act.put, List.getElem_toArray, List.getElem_cons_succ, List.getElem_cons_zero, List.setIfInBounds_toArray, List.set_cons_zero, List.set_cons_succ]
          refine wpAnyH_take (i := 6) (v := ?vr6) rfl (by kernel_rfl) (by kernel_rfl) (by kernel_rfl) (fun _ _ _ h => h) (Or.inl ⟨by rfl, ?hyr6⟩) (by assumption) ?restr6
          case hyr6 =>
            intro w hSw
            try dsimp only at hSw
            go_simp
            all_goals with_reducible rfl
          simp only [Act.put, List.getElem_toArray, List.getElem_cons_succ, List.getElem_cons_zero, List.setIfInBounds_toArray, List.set_cons_zero, List.set_cons_succ]
          refine wpAnyH_take (i := 7) (v := ?vr7) rfl (by kernel_rfl) (by kernel_rfl) (by kernel_rfl) (fun _ _ _ h => h) (Or.inl ⟨by rfl, ?hyr7⟩) (by assumption) ?restr7
          case hyr7 =>
            intro w hSw
            try dsimp only at hSw
            go_simp
            all_goals with_reducible rfl
          simp only [Act.put, List.getElem_toArray, List.getElem_cons_succ, List.getElem_cons_zero, List.setIfInBounds_toArray, List.set_cons_zero, List.set_cons_succ]
          refine wpAnyH_take (i := 8) (v := ?vr8) rfl (by kernel_rfl) (by kernel_rfl) (by kernel_rfl) (fun _ _ _ h => h) (Or.inl ⟨by rfl, ?hyr8⟩) (by assumption) ?restr8
          case hyr8 =>
            intro w hSw
            try dsimp only at hSw
            go_simp
            all_goals with_reducible rfl
          simp only [Act.put, List.getElem_toArray, List.getElem_cons_succ, List.getElem_cons_zero, List.setIfInBounds_toArray, List.set_cons_zero, List.set_cons_succ]
          refine wpAnyH_take (i := 10) (v := ?vr10) rfl (by kernel_rfl) (by kernel_rfl) (by kernel_rfl) (fun _ _ _ h => h) (Or.inl ⟨by rfl, ?hyr10⟩) (by assumption) ?restr10
          case hyr10 =>
            intro w hSw
            try dsimp only at hSw
            go_simp
            all_goals with_reducible rfl
          simp only [Act.put, List.getElem_toArray, List.getElem_cons_succ, List.getElem_cons_zero, List.setIfInBounds_toArray, List.set_cons_zero, List.set_cons_succ]
          refine wpAnyH_ready (rs := [9]) (by kernel_rfl) (by simp) ?_
          refine AllReadyH.cons rfl (fun K hK => ?_) AllReadyH.nil
          go_simp
          obtain ⟨_, hla⟩ := HS4.out.getA
          refine (HS4.out.callKeep (Sep.framed LruS.framed LruS.framed) Emp.framed (Yx := fun v S w => OwS eU64 28 S w v s3.2) (E := fun v e => e = .returned v) (fun _ => OwS.framed) (lruOrder_ hla HG.out)).mono ?_
          rintro e w5 ⟨v5, rfl, hV5⟩
          have HS5 := Lib.hid (hV5.rest (R' := fun S w => OwS eU64 28 S w v5 s3.2) fun _ h => h.2)
          clear hV5 hla HS4
          try go_wp2_with fail
          refine hK.out _ _ ?_ (fun hHeld => ?_)
          · exact (two_ptr HS5.out)
          clear hK K
          try simp only [Act.put, List.getElem_toArray, List.getElem_cons_succ, List.getElem_cons_zero, List.setIfInBounds_toArray, List.set_cons_zero, List.set_cons_succ]
          refine wpAnyH_ready (rs := [11]) (by kernel_rfl) (by simp) ?_
          refine AllReadyH.cons rfl (fun K hK => ?_) AllReadyH.nil
          go_simp
          obtain ⟨_, hla⟩ := HS5.out.getB
          refine (HS5.out.callKeep (Sep.framed LruS.framed LruS.framed) OwS.framed (Yx := fun v S w => OwS eU64 28 S w v s3.2) (E := fun v e => e = .returned v) (fun _ => OwS.framed) (lruOrder_ hla HG.out)).mono ?_
          rintro e w6 ⟨v6, rfl, hV6⟩
          have HS6 := Lib.hid hV6
          clear hV6 hla HS5
          try go_wp2_with fail
          refine hK.out _ _ ?_ (fun hHeld => ?_)
          · exact (two_ptr HS6.out)
          clear hK K
          try simp only [Act.put, List.getElem_toArray, List.getElem_cons_succ, List.getElem_cons_zero, List.setIfInBounds_toArray, List.set_cons_zero, List.set_cons_succ]
          refine wpAnyH_ready (rs := [12]) (by kernel_rfl) (by simp) ?_
          refine AllReadyH.cons rfl (fun K hK => ?_) AllReadyH.nil
          go_simp
          obtain ⟨_, ho1, ho2⟩ := HS6.out.getR
          refine (HS6.out.callRead (Sep.framed (Sep.framed LruS.framed LruS.framed) (Framed.and OwS.framed OwS.framed)) (E := fun e => e = .returned (.bool true)) (numbers_only s3.2 _ _ _ ho1.rd ho2.rd)).mono ?_
          rintro e w7 ⟨rfl, hV7⟩
          have HS7 := Lib.hid (hV7.rest (R' := Emp) fun _ _ => trivial)
          clear hV7 HS6 ho1 ho2
          try go_wp2_with fail
          refine hK.out _ _ ?_ (fun hHeld => ?_)
          · exact (two_ptr HS7.out)
          clear hK K
          try simp only [Act.put, List.getElem_toArray, List.getElem_cons_succ, List.getElem_cons_zero, List.setIfInBounds_toArray, List.set_cons_zero, List.set_cons_succ]
          refine wpAnyH_take (i := 13) (v := ?vr13) rfl (by kernel_rfl) (by kernel_rfl) (by kernel_rfl) (fun _ _ _ h => h) (Or.inl ⟨by rfl, ?hyr13⟩) (by assumption) ?restr13
          case hyr13 =>
            intro w hSw
            try dsimp only at hSw
            go_simp
            all_goals with_reducible rfl
          simp only [Act.put, List.getElem_toArray, List.getElem_cons_succ, List.getElem_cons_zero, List.setIfInBounds_toArray, List.set_cons_zero, List.set_cons_succ]
          refine wpAnyH_take (i := 14) (v := ?vr14) rfl (by kernel_rfl) (by kernel_rfl) (by kernel_rfl) (fun _ _ _ h => h) (Or.inl ⟨by rfl, ?hyr14⟩) (by assumption) ?restr14
          case hyr14 =>
            intro w hSw
            try dsimp only at hSw
            go_simp
            all_goals with_reducible rfl
          simp only [Act.put, List.getElem_toArray, List.getElem_cons_succ, List.getElem_cons_zero, List.setIfInBounds_toArray, List.set_cons_zero, List.set_cons_succ]
          refine wpAnyH_take (i := 15) (v := ?vr15) rfl (by kernel_rfl) (by kernel_rfl) (by kernel_rfl) (fun _ _ _ h => h) (Or.inl ⟨by rfl, ?hyr15⟩) (by assumption) ?restr15
          case hyr15 =>
            intro w hSw
            try dsimp only at hSw
            go_simp
            all_goals with_reducible rfl
          simp only [Act.put, List.getElem_toArray, List.getElem_cons_succ, List.getElem_cons_zero, List.setIfInBounds_toArray, List.set_cons_zero, List.set_cons_succ]
          refine wpAnyH_take (i := 16) (v := ?vr16) rfl (by kernel_rfl) (by kernel_rfl) (by kernel_rfl) (fun _ _ _ h => h) (Or.inl ⟨by rfl, ?hyr16⟩) (by assumption) ?restr16
          case hyr16 =>
            intro w hSw
            try dsimp only at hSw
            go_simp
            all_goals with_reducible rfl
          simp only [Act.put, List.getElem_toArray, List.getElem_cons_succ, List.getElem_cons_zero, List.setIfInBounds_toArray, List.set_cons_zero, List.set_cons_succ]
          refine wpAnyH_take (i := 17) (v := ?vr17) rfl (by kernel_rfl) (by kernel_rfl) (by kernel_rfl) (fun _ _ _ h => h) (Or.inl ⟨by rfl, ?hyr17⟩) (by assumption) ?restr17
          case hyr17 =>
            intro w hSw
            try dsimp only at hSw
            go_simp
            all_goals with_reducible rfl
          simp only [Act.put, List.getElem_toArray, List.getElem_cons_succ, List.getElem_cons_zero, List.setIfInBounds_toArray, List.set_cons_zero, List.set_cons_succ]
          refine wpAnyH_take (i := 18) (v := ?vr18) rfl (by kernel_rfl) (by kernel_rfl) (by kernel_rfl) (fun _ _ _ h => h) (Or.inl ⟨by rfl, ?hyr18⟩) (by assumption) ?restr18
          case hyr18 =>
            intro w hSw
            try dsimp only at hSw
            go_simp
            all_goals with_reducible rfl
          simp only [Act.put, List.getElem_toArray, List.getElem_cons_succ, List.getElem_cons_zero, List.setIfInBounds_toArray, List.set_cons_zero, List.set_cons_succ]
          refine wpAnyH_take (i := 19) (v := ?vr19) rfl (by kernel_rfl) (by kernel_rfl) (by kernel_rfl) (fun _ _ _ h => h) (Or.inl ⟨by rfl, ?hyr19⟩) (by assumption) ?restr19
          case hyr19 =>
            intro w hSw
            try dsimp only at hSw
            go_simp
            all_goals with_reducible rfl
          simp only [Act.put, List.getElem_toArray, List.getElem_cons_succ, List.getElem_cons_zero, List.setIfInBounds_toArray, List.set_cons_zero, List.set_cons_succ]
          refine wpAnyH_take (i := 21) (v := ?vr21) rfl (by kernel_rfl) (by kernel_rfl) (by kernel_rfl) (fun _ _ _ h => h) (Or.inl ⟨by rfl, ?hyr21⟩) (by assumption) ?restr21
          case hyr21 =>
            intro w hSw
            try dsimp only at hSw
            go_simp
            all_goals with_reducible rfl
          simp only [Act.put, List.getElem_toArray, List.getElem_cons_succ, List.getElem_cons_zero, List.setIfInBounds_toArray, List.set_cons_zero, List.set_cons_succ]
          refine wpAnyH_take (i := 22) (v := ?vr22) rfl (by kernel_rfl) (by kernel_rfl) (by kernel_rfl) (fun _ _ _ h => h) (Or.inl ⟨by rfl, ?hyr22⟩) (by assumption) ?restr22
          case hyr22 =>
            intro w hSw
            try dsimp only at hSw
            go_simp
            all_goals with_reducible rfl
          simp only [Act.put, List.getElem_toArray, List.getElem_cons_succ, List.getElem_cons_zero, List.setIfInBounds_toArray, List.set_cons_zero, List.set_cons_succ]
          refine wpAnyH_take (i := 23) (v := ?vr23) rfl (by kernel_rfl) (by kernel_rfl) (by kernel_rfl) (fun _ _ _ h => h) (Or.inl ⟨by rfl, ?hyr23⟩) (by assumption) ?restr23
          case hyr23 =>
            intro w hSw
            try dsimp only at hSw
            go_simp
            all_goals with_reducible rfl
          simp only [Act.put, List.getElem_toArray, List.getElem_cons_succ, List.getElem_cons_zero, List.setIfInBounds_toArray, List.set_cons_zero, List.set_cons_succ]
          refine wpAnyH_take (i := 24) (v := ?vr24) rfl (by kernel_rfl) (by kernel_rfl) (by kernel_rfl) (fun _ _ _ h => h) (Or.inl ⟨by rfl, ?hyr24⟩) (by assumption) ?restr24
          case hyr24 =>
            intro w hSw
            try dsimp only at hSw
            go_simp
            all_goals with_reducible rfl
          simp only [Act.put, List.getElem_toArray, List.getElem_cons_succ, List.getElem_cons_zero, List.setIfInBounds_toArray, List.set_cons_zero, List.set_cons_succ]
          refine wpAnyH_ready (rs := [20]) (by kernel_rfl) (by simp) ?_
          refine AllReadyH.cons rfl (fun K hK => ?_) AllReadyH.nil
          go_simp
          obtain ⟨_, hla⟩ := HS7.out.getA
          refine (HS7.out.callKeep (Sep.framed LruS.framed LruS.framed) Emp.framed (Yx := fun v S w => OwS ePair 46 S w v s3.1) (E := fun v e => e = .returned v) (fun _ => OwS.framed) (lruPairs_ hla HG.out)).mono ?_
          rintro e w8 ⟨v8, rfl, hV8⟩
          have HS8 := Lib.hid (hV8.rest (R' := fun S w => OwS ePair 46 S w v8 s3.1) fun _ h => h.2)
          clear hV8 hla HS7
          try go_wp2_with fail
          refine hK.out _ _ ?_ (fun hHeld => ?_)
          · exact (two_ptr HS8.out)
          clear hK K
          try simp only [Act.put, List.getElem_toArray, List.getElem_cons_succ, List.getElem_cons_zero, List.setIfInBounds_toArray, List.set_cons_zero, List.set_cons_succ]
          refine wpAnyH_ready (rs := [25]) (by kernel_rfl) (by simp) ?_
          refine AllReadyH.cons rfl (fun K hK => ?_) AllReadyH.nil
          go_simp
          obtain ⟨_, hla⟩ := HS8.out.getB
          refine (HS8.out.callKeep (Sep.framed LruS.framed LruS.framed) OwS.framed (Yx := fun v S w => OwS ePair 46 S w v s3.1) (E := fun v e => e = .returned v) (fun _ => OwS.framed) (lruPairs_ hla HG.out)).mono ?_
          rintro e w9 ⟨v9, rfl, hV9⟩
          have HS9 := Lib.hid hV9
          clear hV9 hla HS8
          try go_wp2_with fail
          refine hK.out _ _ ?_ (fun hHeld => ?_)
          · exact (two_ptr HS9.out)
          clear hK K
          try simp only [Act.put, List.getElem_toArray, List.getElem_cons_succ, List.getElem_cons_zero, List.setIfInBounds_toArray, List.set_cons_zero, List.set_cons_succ]
          refine wpAnyH_ready (rs := [26]) (by kernel_rfl) (by simp) ?_
          refine AllReadyH.cons rfl (fun K hK => ?_) AllReadyH.nil
          go_simp
          obtain ⟨_, ho1, ho2⟩ := HS9.out.getR
          refine (HS9.out.callRead (Sep.framed (Sep.framed LruS.framed LruS.framed) (Framed.and OwS.framed OwS.framed)) (E := fun e => e = .returned (.bool true)) (pairs_eq s3.1 _ _ _ ho1.rd ho2.rd)).mono ?_
          rintro e w10 ⟨rfl, hV10⟩
          have HS10 := Lib.hid (hV10.rest (R' := Emp) fun _ _ => trivial)
          clear hV10 HS9 ho1 ho2
          try go_wp2_with fail
          refine hK.out _ _ ?_ (fun hHeld => ?_)
          · exact (two_ptr HS10.out)
          clear hK K
          try simp only [Act.put, List.getElem_toArray, List.getElem_cons_succ, List.getElem_cons_zero, List.setIfInBounds_toArray, List.set_cons_zero, List.set_cons_succ]
          refine wpAnyH_take (i := 27) (v := ?vr27) rfl (by kernel_rfl) (by kernel_rfl) (by kernel_rfl) (fun _ _ _ h => h) (Or.inl ⟨by rfl, ?hyr27⟩) (by assumption) ?restr27
          case hyr27 =>
            intro w hSw
            try dsimp only at hSw
            go_simp
            all_goals with_reducible rfl
          simp only [Act.put, List.getElem_toArray, List.getElem_cons_succ, List.getElem_cons_zero, List.setIfInBounds_toArray, List.set_cons_zero, List.set_cons_succ]
          refine wpAnyH_take (i := 28) (v := ?vr28) rfl (by kernel_rfl) (by kernel_rfl) (by kernel_rfl) (fun _ _ _ h => h) (Or.inl ⟨by rfl, ?hyr28⟩) (by assumption) ?restr28
          case hyr28 =>
            intro w hSw
            try dsimp only at hSw
            go_simp
            all_goals with_reducible rfl
          simp only [Act.put, List.getElem_toArray, List.getElem_cons_succ, List.getElem_cons_zero, List.setIfInBounds_toArray, List.set_cons_zero, List.set_cons_succ]
          clear hHeld
          refine wpAnyH_done (by kernel_rfl) ?_ _
          refine NoPanic.normal ?_
          clear HS1 HLT HRK HSZ HS00
          obtain ⟨_, hla⟩ := HS10.out.getA
          have HOA := Lib.hid (lruOrder_ hla HG.out)
          have h16 : s3.2.length ≤ 16 := by have := HG.out.len; have := HG.out.good.len; have := HG.out.good.hi; omega
          clear hla
          go_wp2_with fail
          refine (HS10.out.callKeep (Sep.framed LruS.framed LruS.framed) Emp.framed (Yx := fun v S w => OwS eU64 28 S w v s3.2) (E := fun v e => e = .returned v) (fun _ => OwS.framed) HOA.out).mono ?_
          rintro e w11 ⟨v11, rfl, hV11⟩
          have HV11 := Lib.hid (hV11.rest (R' := fun S w => OwS eU64 28 S w v11 s3.2) fun _ h => h.2)
          obtain ⟨_, ho⟩ := HV11.out.getR
          obtain ⟨ax, nx, cx, rfl⟩ := ho.shape'
          obtain rfl : nx = s3.2.length := by obtain ⟨⟨_, _, _, he, _⟩, _⟩ := ho; simpa using (show _ ∧ nx = s3.2.length ∧ _ from by simpa using he).2.1
          clear hV11 ho HOA HS10
          go_wp2_with fail
          go_loopw [17] (fun t17 wr => ∃ (j : Nat) (xs : List Int), j ≤ s3.2.length ∧ t17 = .int .i64 j ∧ Hid (xs.length = s3.2.length) ∧ Hid (St (Sep (Sep (LruS ga ba cap s3) (LruS gb bb cap s3)) (fun S w => OwS eU64 28 S w (.slice ax s3.2.length cx) xs)) w wr)) (fun t17 _ => s3.2.length - (intOf t17).toNat)
          case atStart => exact ⟨0, s3.2, Nat.zero_le _, rfl, Lib.hid rfl, HV11⟩
          case round => as_aux_lemma =>
            clear HV11
            obtain ⟨j, xs, hj, rfl, HXL, V⟩ := hrel
            obtain ⟨cp0, cp1⟩ := two_ptr V.out
            by_cases hjl : j < s3.2.length
            · obtain ⟨A, hA, hbk⟩ := V.out.1.focusR (Sep.framed LruS.framed LruS.framed)
              have hx0 : 0 < xs.length := by rw [HXL.out]; omega
              obtain ⟨xg, xo, xc, hxe⟩ := hA.1.some_ hx0
              obtain ⟨rfl, -, rfl⟩ : ax = some ⟨xg, xo, none⟩ ∧ s3.2.length = xs.length ∧ cx = xc := by simpa using hxe
              obtain ⟨gi, oi, hgo, _, hat⟩ := hA.1.at_ j (by rw [HXL.out]; exact hjl)
              obtain ⟨rfl, rfl⟩ : xg = gi ∧ xo = oi := by simpa using hgo
              obtain ⟨q0, e0, z0⟩ : ∃ q0, wr.cell? ⟨xg, xo + j, none⟩ = some (.int .u64 q0) ∧ wr.frozen? ⟨xg, xo + j, none⟩ = false := by
                have h := hat 0 (by decide)
                rw [show xo + (j * eU64.size + 0) = xo + j by show xo + (j * 1 + 0) = _; omega] at h
                exact ⟨_, h.1, h.2⟩
              have HST := Lib.hid (hA.store j (by rw [HXL.out]; exact hjl) 12345)
              have hs : wr.setCells xg (xo + j * eU64.size) (eU64.cells 12345) = wr.setCell ⟨xg, xo + j, none⟩ (.int .u64 12345) := by
                rw [show xo + j * eU64.size = xo + j by show xo + j * 1 = _; omega]; rfl
              have HQ := Lib.hid (V.out.step (Sep.framed (Sep.framed LruS.framed LruS.framed) OwS.framed) (hbk (fun S w => OwS eU64 28 S w (.slice (some ⟨xg, xo, none⟩) s3.2.length cx) (xs.set j 12345)) (wr.setCell ⟨xg, xo + j, none⟩ (.int .u64 12345)) OwS.framed (by rw [← hs]; exact ⟨OwS.framed.mono _ _ _ HST.out.1 fun _ _ h => .inl h, HST.out.2⟩)))
              have hm0 : (0 : Int) ≤ (j : Int) := by omega
              have hm1 : (j : Int) < (s3.2.length : Int) := by omega
              clear hA hbk hx0 hxe hgo hat HST hs V
              go_wp2_with fail
              go_roundw
              case rel => exact ⟨j + 1, xs.set j 12345, by omega, by go_num, Lib.hid (by rw [List.length_set]; exact HXL.out), HQ⟩
              case measure => simp [intOf]; omega
            · obtain rfl : j = s3.2.length := by omega
              obtain ⟨A, hA, hbk⟩ := (V.out.fresh (Sep.framed (Sep.framed LruS.framed LruS.framed) OwS.framed) (Only.alloc (fun _ => False) wr (.cells #[.int .u64 1] 28))).1.focusR (Sep.framed LruS.framed LruS.framed)
              have HU := Lib.hid (V.out.fresh (Sep.framed (Sep.framed LruS.framed LruS.framed) OwS.framed) (Only.alloc (fun _ => False) wr (.cells #[.int .u64 1] 28)))
              have HA := Lib.hid hA
              have HB := Lib.hid hbk
              have HRL := Lib.hid (Rd.lit (E := eU64) wr #[.int .u64 1] 28 (0, 0) 1 1 [1] rfl rfl (by simp) (by simp [maxLen]))
              have hxl : xs.length ≤ 16 := by rw [HXL.out]; exact h16
              clear hA hbk V
              go_wp2_with (at_builtin; refine wl_appendS (E := eU64) rfl _ (.tmp 162) _ rfl 28 8 eU64_sl A _ xs rfl HA.out _ [1] rfl HRL.out (by simp only [List.length_cons, List.length_nil]; omega) (by unfold maxLen; simp only [List.length_cons, List.length_nil]; omega) ?_)
              intro va wa ha hOa
              have HV2 := Lib.hid (HU.out.step (Sep.framed (Sep.framed LruS.framed LruS.framed) OwS.framed) (HB.out (fun S w => OwS eU64 28 S w va (xs ++ [1])) wa OwS.framed ⟨OwS.framed.mono _ _ _ ha fun k _ h => h.imp id fun h => by simpa using h, hOa⟩))
              obtain ⟨_, x2, c2, rfl, _⟩ := id ha.1
              have HVE := Lib.hid (HV2.out.rest (R' := Emp) fun _ _ => trivial)
              have hxn : (((xs ++ [1]).length : Nat) : Int) = (s3.2.length : Int) + 1 := by rw [List.length_append, HXL.out]; simp
              obtain ⟨xn, hxn2⟩ : ∃ xn, xn = (xs ++ [(1 : Int)]).length := ⟨_, rfl⟩
              rw [← hxn2] at hxn ⊢
              have hxq : (((xn : Nat) : Int) == (s3.1.length : Int) + 1) = true := by rw [hxn, HG.out.len]; simp
              clear ha hOa HV2 HU HA HB HRL hxn hxn2
              obtain ⟨_, hla⟩ := HVE.out.getA
              have HOA := Lib.hid (lruOrder_ hla HG.out)
              clear hla
              go_wp2_with fail
              refine (HVE.out.callKeep (Sep.framed LruS.framed LruS.framed) Emp.framed (Yx := fun v S w => OwS eU64 28 S w v s3.2) (E := fun v e => e = .returned v) (fun _ => OwS.framed) HOA.out).mono ?_
              rintro e w12 ⟨v12, rfl, hV12⟩
              have HV12 := Lib.hid (hV12.rest (R' := fun S w => OwS eU64 28 S w v12 s3.2) fun _ h => h.2)
              obtain ⟨_, hlb⟩ := HV12.out.getB
              have HOB := Lib.hid (lruOrder_ hlb HG.out)
              clear hV12 HVE HOA hlb
              go_wp2_with fail
              refine (HV12.out.callKeep (Sep.framed LruS.framed LruS.framed) OwS.framed (Yx := fun v S w => OwS eU64 28 S w v s3.2) (E := fun v e => e = .returned v) (fun _ => OwS.framed) HOB.out).mono ?_
              rintro e w13 ⟨v13, rfl, hV13⟩
              have HV13 := Lib.hid hV13
              obtain ⟨_, ho1, ho2⟩ := hV13.getR
              have HNC := Lib.hid (numbers_only s3.2 _ _ w13 ho1.rd ho2.rd)
              clear hV13 HV12 HOB ho1 ho2
              go_wp2_with fail
              refine (HV13.out.callRead (Sep.framed (Sep.framed LruS.framed LruS.framed) (Framed.and OwS.framed OwS.framed)) (E := fun e => e = .returned (.bool true)) HNC.out).mono ?_
              rintro e w14 ⟨rfl, hV14⟩
              have HV14 := Lib.hid (hV14.rest (R' := Emp) fun _ _ => trivial)
              obtain ⟨cp0, cp1⟩ := two_ptr HV14.out
              have hgb14 := World.block_lt_of_cell? w14 _ cp1
              obtain ⟨_, hlb⟩ := HV14.out.getB
              have HLB := Lib.hid (lruLen_ hlb)
              have h16b : s3.1.length ≤ 16 := by have := HG.out.len; omega
              clear hV14 HV13 HNC hlb
              go_wp2_with fail
              refine (HV14.out.callRead (Sep.framed (Sep.framed LruS.framed LruS.framed) Emp.framed) (E := fun e => e = .returned (.int .i64 s3.1.length)) HLB.out).mono ?_
              rintro e w15 ⟨rfl, hV15⟩
              have HV15 := Lib.hid hV15
              clear hV15 HV14 HLB cp0 cp1
              go_wp2_with fail
              refine ((HV15.out.imp fun _ h => (h.assoc.imp (fun _ h => Sep.swap (Sep.nilL (E := ePair) (ty := 46) h)) fun _ h => h)).on1 (Sep.framed LruS.framed Emp.framed) (Sep.framed LruS.framed OwS.framed) (E := fun e => e = .returned (.int .i64 0)) fun A hA => (lruFill_any ga ba cap s3 [] _ A _ hA HG.out).mono fun e w' ⟨he, hu⟩ => ⟨he, hu⟩).mono ?_
              rintro e w16 ⟨rfl, hV16⟩
              have HV16 := Lib.hid (show Upd (Sep (LruS ga ba cap s3) (Sep (LruS gb bb cap s3) Emp)) (fun _ => False) w w16 from hV16.imp fun _ h => h.imp (fun _ h => h.left LruS.framed) fun _ h => h)
              clear hV16 HV15
              go_wp2_with fail
              refine ((HV16.out.imp fun _ h => (h.imp (fun _ h => Sep.swap (Sep.nilL (E := eU64) (ty := 28) h)) fun _ h => h)).on1 (Sep.framed LruS.framed Emp.framed) (Sep.framed LruS.framed OwS.framed) (E := fun e => e = .returned (.int .i64 0)) fun A hA => (lruTouch_any ga ba cap s3 [] _ A _ hA HG.out).mono fun e w' ⟨he, hu⟩ => ⟨he, hu⟩).mono ?_
              rintro e w17 ⟨rfl, hV17⟩
              have HB := Lib.hid (St.below hV17)
              clear hV17 HV16
              go_wp2_with fail
              go_ret
              exact ⟨rfl, HB.out⟩
theorem lruFills_any (cap : Int) (ps : List PairD) (u : Value) (ks : List Int) (v : Value) (w : World) (hcap : -9223372036854775808 ≤ cap ∧ cap ≤ 9223372036854775807) (hu : Rd ePair w u ps) (hl : ps.length * 16 ≤ 140737488351232) (hok : ∀ o ∈ ps, PairD.ok o) (hv : Rd eU64 w v ks) (hl2 : ks.length * 8 ≤ 140737488351232) (hok2 : ∀ o ∈ ks, (Lit.int .u64 o).wf = true) :
    Calls Try.prog 6 #[.int .i64 cap, u, v] w fun e w' => e = .returned (.bool true) ∧ Below w.heap.size w w' := by
  by_cases h : cap < 1 ∨ 16 < cap
  · exact lruFills_bad cap u v w h
  by_cases hb : 3000 < ps.length ∨ 3000 < ks.length
  · exact lruFills_big cap (by omega) (by omega) ps ks u v w hu hv hb
  · exact lruFills_yes cap (by omega) (by omega) ps ks u v w hu hv (by omega) (by omega)
end Go.Proofs.Ytodacnpbhlkoiaa
