/- The law RingOffers: Offer and the walk. -/
import Derived.Test.YtdpklmaldjohkaaRing5
import Derived.Test.YtdpklmaldjohkaaRingWhole
namespace Go.Proofs.Ytdpklmaldjohkaa
open Go.RowKit
set_option linter.unusedVariables false

/-- the number and the error that the event at place j gets, of a fresh ring of room R -/
def nOf (R j : Nat) : Int := if j < R then (j : Int) + 1 else 0
def eOf (R j : Nat) : Int := if j < R then 0 else 40
/-- a fresh ring behind j events -/
def OSt (g h R : Nat) (es : List Ev) (j : Nat) (S : Nat → Prop) (w : World) : Prop := RingS g h (R : Int) false (numbered (es.take (min j R))) ((min j R : Nat) : Int) ((j : Int) - (min j R : Nat)) 0 0 S w
theorem OSt.framed {g h R : Nat} {es : List Ev} {j : Nat} : Framed (OSt g h R es j) := RingS.framed
theorem OSt.len {R : Nat} {es : List Ev} {j : Nat} (hj : j ≤ es.length) : (numbered (es.take (min j R))).length = min j R := by
  rw [numbered_len, List.length_take]; omega

theorem acceptO (g h R : Nat) (es : List Ev) (j : Nat) (S T : Nat → Prop) (w : World) (hj : j < es.length) (hl : es.length ≤ 8796093022208) (hR : R ≤ 16) (hST : ∀ k, S k → ¬ T k) (H : OSt g h R es j S w) (N : NumS h ((min j R : Nat) : Int) T w) :
    Calls Try.prog 10 #[.pointer (some ⟨g, 0, none⟩), .agg #[.int .u64 es[j].1, .int .u64 es[j].2]] w fun e w' => e = .returned (.tuple #[.int .i64 (nOf R j), .int .i64 (eOf R j)]) ∧ OSt g h R es (j + 1) (fun k => S k ∨ w.heap.size ≤ k) w' ∧ NumS h ((min (j + 1) R : Nat) : Int) (fun k => T k ∧ k < w.heap.size) w' ∧ Only (fun k => S k ∨ T k) w w' := by
  have hlen := OSt.len (R := R) (es := es) (j := j) (by omega)
  unfold OSt at H ⊢
  by_cases hjR : j < R
  · have e1 : min j R = j := by omega
    have e2 : min (j + 1) R = j + 1 := by omega
    rw [e1] at H N hlen
    rw [e2]
    have h := accept_okS g h R j _ _ _ _ _ S T w H N es[j].1 es[j].2 (by rw [hlen]; omega) (by rw [hlen]; omega) (by omega) (by omega) (by omega) (by omega)
    have e3 : numbered (es.take (j + 1)) = numbered (es.take j) ++ [((j : Int) + 1, es[j].1, es[j].2)] := by
      rw [List.take_succ_eq_append_getElem hj, numbered_snoc, List.length_take]
      congr 4; omega
    refine h.mono fun e w' ⟨he, h1, h2, h3⟩ => ⟨by rw [he]; simp [nOf, eOf, hjR], ?_, ?_, h3⟩
    · rw [e3]
      have e4 : ((j + 1 : Nat) : Int) = (j : Int) + 1 := by omega
      rw [e4, show (j : Int) + 1 - ((j : Int) + 1) = (j : Int) - j by omega]
      exact h1
    · have e4 : ((j + 1 : Nat) : Int) = (j : Int) + 1 := by omega
      rw [e4]; exact h2
  · have e1 : min j R = R := by omega
    have e2 : min (j + 1) R = R := by omega
    rw [e1] at H N hlen
    rw [e2]
    have h := accept_fullS g h R _ _ _ _ _ S w H es[j].1 es[j].2 (by rw [hlen]) (by omega) (by omega)
    refine h.mono fun e w' ⟨he, h1, h3⟩ => ⟨by rw [he]; simp [nOf, eOf, hjR], ?_, ?_, h3.mono fun _ _ h => .inl h⟩
    · rw [show ((j + 1 : Nat) : Int) - (R : Nat) = (j : Int) - R + 1 by omega]
      exact h1
    · exact ⟨N.1.only (h3.mono (G := fun k => S k) fun _ _ h => h) (fun hs => hST _ hs N.2), N.2, heap_lt N.1.2⟩
theorem sliceI : SliceInfo Try.prog 58 3 (eInt .i64).size 8 := SliceInfo.mk' Try.underlying58 (z := .int .i64 0) (by kernel_rfl) rfl
theorem range_map_snoc {β : Type} (f : Nat → β) (k : Nat) : (List.range (k + 1)).map f = (List.range k).map f ++ [f k] := by rw [List.range_succ, List.map_append]; rfl

set_option maxHeartbeats 2000000 in
theorem offer_fresh (g h R : Nat) (es : List Ev) (v : Value) (base : Nat) (w0 w : World) (tag : Nat → Nat) (A : Arena base w0 w tag) (i n m jv : Nat) (hd : i ≠ 0 ∧ n ≠ 0 ∧ m ≠ 0 ∧ i ≠ n ∧ i ≠ m ∧ n ≠ m ∧ jv ≠ i ∧ jv ≠ n ∧ jv ≠ m) (hR : R ≤ 16)
    (H : OSt g h R es 0 (fun k => tag k = i) w) (N : NumS h 0 (fun k => tag k = n) w) (hv : OwS eE 35 (fun k => tag k = jv) w v es) (hl : es.length ≤ 8796093022208) :
    Calls Try.prog 21 #[.pointer (some ⟨g, 0, none⟩), v] w fun e w' => ∃ ns, e = .returned ns ∧ ∃ tag', Arena base w0 w' tag' ∧ OSt g h R es es.length (fun k => tag' k = i) w' ∧ NumS h ((min es.length R : Nat) : Int) (fun k => tag' k = n) w' ∧ OwS (eInt .i64) 3 (fun k => tag' k = m) w' ns ((List.range es.length).map (nOf R)) ∧ Keeps tag tag' w w' (fun j => j = i ∨ j = n ∨ j = m) := by
  obtain ⟨hmx, ao, cap, rfl, hcap, _, _⟩ := id hv.1
  obtain ⟨L, hL⟩ : ∃ L, L = es.length := ⟨_, rfl⟩
  have HL := Lib.hid hL
  rw [← hL] at hl hmx hcap hv
  rw [← hL]
  unfold maxLen at hmx
  have HD := Lib.hid hd
  clear hL hd
  go_enter Try.func21, Try.ntmps21
  go_wp2_with fail
  go_loopw [5, 7, 8, 9, 12] (fun vn _ _ _ ii wr => ∃ (k : Nat) (tg : Nat → Nat), k ≤ L ∧ ii = .int .i64 k ∧ Arena base w0 wr tg ∧ OSt g h R es k (fun k => tg k = i) wr ∧ NumS h ((min k R : Nat) : Int) (fun k => tg k = n) wr ∧ OwS (eInt .i64) 3 (fun k => tg k = m) wr vn ((List.range k).map (nOf R)) ∧ Hid (Keeps tag tg w wr (fun j => j = i ∨ j = n ∨ j = m))) (fun _ _ _ _ ii _ => L - (intOf ii).toNat)
  case atStart => exact ⟨0, tag, Nat.zero_le _, rfl, A, H, by simpa using N, OwS.nil _ _, Keeps.refl _ _ _⟩
  case round =>
    clear A H N
    obtain ⟨k, tg, hk, rfl, A, H, N, hn, hK⟩ := hrel
    by_cases hlt : k < L
    · have hke : k < es.length := by have := HL.out; omega
      have hv1 := hK.out _ OwS.framed jv (by have := HD.out; omega) hv
      obtain ⟨b, off, rfl, _, hat⟩ := hv1.1.at_ k hke
      have c0 : wr.cell? ⟨b, off + k * 2, none⟩ = some (.int .u64 es[k].1) := (hat 0 (by decide)).1
      have c1 : wr.cell? ⟨b, off + k * 2 + 1, none⟩ = some (.int .u64 es[k].2) := (hat 1 (by decide)).1
      have hlb := (hv1.1.lt (g := b) rfl).2
      clear hat hv1
      have H1 := OSt.framed.alloc H (.cells #[.int .u64 es[k].1, .int .u64 es[k].2] 35)
      have N1 := NumS.framed.alloc N (.cells #[.int .u64 es[k].1, .int .u64 es[k].2] 35)
      have hcall := acceptO g h R es k (fun k => tg k = i) (fun k => tg k = n) (wr.alloc (.cells #[.int .u64 es[k].1, .int .u64 es[k].2] 35)) hke (by have := HL.out; omega) hR (by have := HD.out; intro k h; omega) H1 N1
      have HC := Lib.hid hcall
      clear hcall H1 N1
      generalize es[k].1 = e0 at *
      generalize es[k].2 = e1 at *
      go_wp2_with fail
      refine HC.out.mono ?_
      rintro e w3 ⟨rfl, hR3, hN3, hO3⟩
      clear HC
      obtain ⟨tg3, A3, f3, n3, k3⟩ := A.step (F := fun k => tg k = i ∨ tg k = n) ((Only.alloc _ wr (.cells #[.int .u64 e0, .int .u64 e1] 35)).tr hO3) i (fun k h => by have := HD.out; omega)
      have hR3 := n3 _ OSt.framed (OSt.framed.widen hR3 (size_le_alloc _ _))
      have hN3 := k3 _ NumS.framed n ⟨hN3.1, hN3.2.1, by have := heap_lt N.1.2; exact this⟩
      have hn3 := f3 _ OwS.framed m hn (fun k h => by have := HD.out; omega)
      have K3 : Hid (Keeps tag tg3 w w3 (fun j => j = i ∨ j = n ∨ j = m)) := hK.out.trans (Keeps.of f3 (P := fun j => j = i ∨ j = n) (fun k h => h)) (fun _ h => h) (fun _ h => by omega)
      clear f3 n3 k3 A hO3 H N hn hK c0 c1
      have hsn := range_map_snoc (nOf R) k
      have HSN := Lib.hid hsn
      clear hsn
      generalize hnn : nOf R k = nn at *
      clear hnn
      have hob := OwS.framed.alloc hn3 (.cells #[.int .i64 nn] 3)
      have hrd : Rd (eInt .i64) (w3.alloc (.cells #[.int .i64 nn] 3)) _ [nn] := Rd.lit w3 #[.int .i64 nn] 3 (0, 0) 1 1 [nn] (by simp [Enc.all, eInt]) rfl (Nat.le_refl _) (by decide)
      go_wp2_with (at_builtin; refine wl_appendS (E := eInt .i64) rfl _ (.tmp 24) _ rfl 3 8 sliceI _ _ ((List.range k).map (nOf R)) rfl hob _ [nn] rfl hrd (by simp; omega) (by unfold maxLen; simp; omega) ?_)
      intro v4 w4 hn4 hO4
      obtain ⟨tg4, A4, f4, n4, k4⟩ := A3.step (F := fun k => tg3 k = m) ((Only.alloc _ w3 _).tr hO4) m (fun k h => by have := HD.out; omega)
      have hR4 := f4 _ OSt.framed i hR3 (fun k h => by have := HD.out; omega)
      have hN4 := f4 _ NumS.framed n hN3 (fun k h => by have := HD.out; omega)
      have hn4 := n4 _ OwS.framed (OwS.framed.widen hn4 (by omega))
      rw [← HSN.out] at hn4
      have K4 : Hid (Keeps tag tg4 w w4 (fun j => j = i ∨ j = n ∨ j = m)) := K3.out.trans (Keeps.of f4 (P := fun j => j = m) (fun k h => h)) (fun _ h => h) (fun _ h => by omega)
      clear hR3 hN3 hn3 K3 f4 n4 k4 A3 hO4 hob hrd
      go_wp2_with fail
      go_roundw
      case rel => exact ⟨k + 1, tg4, by omega, by go_num, A4, hR4, hN4, hn4, K4⟩
      case measure => simp [intOf]; omega
    · obtain rfl : k = L := by omega
      go_wp2_with fail
      go_ret
      exact ⟨_, rfl, tg, A, H, N, hn, hK.out⟩

theorem OSt.zero {g h R : Nat} {es : List Ev} {S : Nat → Prop} {w : World} (H : RingS g h (R : Int) false [] 0 0 0 0 S w) : OSt g h R es 0 S w := by
  unfold OSt
  have e1 : min 0 R = 0 := by omega
  rw [e1]
  simpa [numbered] using H
theorem OSt.bare {g h R : Nat} {es : List Ev} {S : Nat → Prop} {w : World} (H : OSt g h R es 0 S w) : RingS g h (R : Int) false [] 0 0 0 0 S w := by
  unfold OSt at H
  have e1 : min 0 R = 0 := by omega
  rw [e1] at H
  simpa [numbered] using H

set_option maxRecDepth 100000 in
set_option maxHeartbeats 8000000 in
theorem ringOffers_yes (R : Nat) (es : List Ev) (v : Value) (w : World) (h1 : 1 ≤ R) (h2 : R ≤ 16) (hv : Rd eE w v es) (hl : es.length * 16 ≤ 140737488351232) (hl2 : es.length ≤ 8796093022208) :
    Calls Try.prog 6 #[.int .i64 (R : Int), v] w fun e w' => e = .returned (.bool true) ∧ Below w.heap.size w w' := by
  obtain ⟨_, ao, cap, rfl, hcap, _, _⟩ := id hv
  go_enter Try.func6, Try.ntmps6
  go_wp2_with fail
  refine (awake_any _).mono ?_
  rintro e w1 ⟨rfl, hb1⟩
  go_wp2_with fail
  refine (newS R _ _ (by omega) (by omega)).mono ?_
  rintro e w2 ⟨ga, rfl, hRa, hO2⟩
  obtain ⟨tag1, A1, f1, n1, k1⟩ := (Arena.of_below hb1 (Nat.le_refl _)).step (Only.alloc (fun _ => False) w1 (.cells #[.int .i64 0] 30)) 2 (fun _ h => h.elim)
  have hN1 := n1 _ (NumS.framed (h := w1.heap.size) (last := 0)) ⟨⟨Nat.zero_le _, heap_alloc_new w1 _⟩, .inr (Nat.le_refl _)⟩
  obtain ⟨tag2, A2, f2, n2, k2⟩ := A1.step hO2 1 (fun _ h => h.elim)
  have hN2 := f2 _ NumS.framed _ hN1 (fun _ _ h => h)
  have hRa2 := n2 _ RingS.framed (RingS.framed.mono _ _ _ hRa (fun k _ h => .inr h))
  clear hRa hN1 f1 n1 k1 f2 n2 k2 A1 hO2
  generalize w1.heap.size = ha at *
  go_wp2_with fail
  refine (newS R _ _ (by omega) (by omega)).mono ?_
  rintro e w3 ⟨gb, rfl, hRb, hO3⟩
  obtain ⟨tag3, A3, f3, n3, k3⟩ := A2.step (Only.alloc (fun _ => False) w2 (.cells #[.int .i64 0] 30)) 4 (fun _ h => h.elim)
  have hNb3 := n3 _ (NumS.framed (h := w2.heap.size) (last := 0)) ⟨⟨Nat.zero_le _, heap_alloc_new w2 _⟩, .inr (Nat.le_refl _)⟩
  have hNa3 := f3 _ NumS.framed _ hN2 (fun _ _ h => h)
  have hRa3 := f3 _ RingS.framed _ hRa2 (fun _ _ h => h)
  obtain ⟨tag4, A4, f4, n4, k4⟩ := A3.step hO3 3 (fun _ h => h.elim)
  have hRb4 := n4 _ RingS.framed (RingS.framed.mono _ _ _ hRb (fun k _ h => .inr h))
  have hNb4 := f4 _ NumS.framed _ hNb3 (fun _ _ h => h)
  have hNa4 := f4 _ NumS.framed _ hNa3 (fun _ _ h => h)
  have hRa4 := f4 _ RingS.framed _ hRa3 (fun _ _ h => h)
  clear hRb hNb3 hNa3 hRa3 hN2 hRa2 f3 n3 k3 f4 n4 k4 A2 A3 hO3
  generalize w2.heap.size = hb at *
  have hv3 := hv.grow A4.below
  have hE0 : OwS eE 35 (fun k => w3.heap.size ≤ k) (w3.alloc (.cells #[] 35)) (.slice (some ⟨w3.heap.size, 0, none⟩) 0 0) [] := ⟨Ow.lit w3 0 #[] _ 0 [] (by simp [Enc.all]) rfl (by simp) (Nat.zero_le _), fun k hk => by simp [Value.ownBlock] at hk; omega⟩
  have hv4 := hv3.alloc (.cells #[] 35)
  go_wp2_with (at_builtin; refine wl_appendS (E := eE) rfl _ (.tmp 48) _ rfl 35 16 eE_slice _ _ [] rfl hE0 _ es rfl hv4 (by simp; omega) (by unfold maxLen; simp; omega) ?_)
  intro vin w5 hin hO5
  obtain ⟨tag5, A5, f5, n5, k5⟩ := A4.step (F := fun k => w3.heap.size ≤ k ∧ False) (Only.of_below (B := w3.heap.size) (((Below.refl _ _).alloc (Nat.le_refl _) _).trans (hO5.below (by simp) (fun _ h => h))) (fun k h1 h2 => by omega)) 5 (fun _ h => h.2.elim)
  have hRa5 := f5 _ RingS.framed _ hRa4 (fun _ _ h => h.2)
  have hNa5 := f5 _ NumS.framed _ hNa4 (fun _ _ h => h.2)
  have hRb5 := f5 _ RingS.framed _ hRb4 (fun _ _ h => h.2)
  have hNb5 := f5 _ NumS.framed _ hNb4 (fun _ _ h => h.2)
  have hin5 := n5 _ OwS.framed (OwS.framed.mono _ _ _ hin (fun k _ h => .inr (by rcases h with h | h <;> omega)))
  clear hRa4 hNa4 hRb4 hNb4 hin f5 n5 k5 A4 hO5 hE0 hv3 hv4
  go_wp2_with fail
  refine (offer_fresh ga ha R es vin _ _ _ tag5 A5 1 2 6 5 (by decide) h2 (OSt.zero hRa5) hNa5 hin5 hl2).mono ?_
  rintro e w6 ⟨ns, rfl, tag6, A6, hRa6, hNa6, hns6, K6⟩
  have hRb6 := K6 _ RingS.framed 3 (by decide) hRb5
  have hNb6 := K6 _ NumS.framed 4 (by decide) hNb5
  have hin6 := K6 _ OwS.framed 5 (by decide) hin5
  clear hRa5 hNa5 hRb5 hNb5 hin5 A5 K6
  obtain ⟨_, no, nc, rfl, _⟩ := id hns6.1
  rw [List.length_map, List.length_range]
  go_wp2_with fail
  refine (countsS gb hb R false [] _ _ _ _ _ _ hRb6).mono ?_
  rintro e w7 ⟨rfl, hO7⟩
  obtain ⟨tag7, A7, f7, n7, k7⟩ := A6.step hO7 9 (fun _ h => h.elim)
  have hRa7 := f7 _ OSt.framed _ hRa6 (fun _ _ h => h)
  have hRb7 := OSt.zero (es := es) (f7 _ RingS.framed _ hRb6 (fun _ _ h => h))
  have hNb7 := f7 _ NumS.framed _ hNb6 (fun _ _ h => h)
  have hin7 := f7 _ OwS.framed _ hin6 (fun _ _ h => h)
  have hns7 := f7 _ OwS.framed _ hns6 (fun _ _ h => h)
  clear hRa6 hNa6 hRb6 hNb6 hin6 hns6 f7 n7 k7 A6 hO7
  have hz0 : ∀ w, _ := fun w => (eC_neq (0, 0, 0, 0, 0) (0, 0, 0, 0, 0) w).trans (by simp; rfl)
  unfold Cts.v
  go_wp2_with fail
  go_loopw [11, 12, 13] (fun i _ _ wr => ∃ (k : Nat) (tg : Nat → Nat), k ≤ es.length ∧ i = .int .i64 k ∧ Arena w.heap.size w wr tg ∧ OSt gb hb R es k (fun k => tg k = 3) wr ∧ NumS hb ((min k R : Nat) : Int) (fun k => tg k = 4) wr ∧ Hid (Keeps tag7 tg w7 wr (fun j => j = 3 ∨ j = 4))) (fun i _ _ _ => es.length - (intOf i).toNat)
  case atStart => exact ⟨0, tag7, Nat.zero_le _, rfl, A7, hRb7, by simpa using hNb7, Keeps.refl _ _ _⟩
  case round =>
    clear A7 hRb7 hNb7 hz0
    obtain ⟨k, tg, hk, rfl, A, hRb, hNb, hK⟩ := hrel
    by_cases hlt : k < es.length
    · have hcall := acceptO gb hb R es k (fun k => tg k = 3) (fun k => tg k = 4) wr hlt hl2 h2 (fun k h => by omega) hRb hNb
      have HC := Lib.hid hcall
      have HV := Lib.hid hv
      obtain ⟨_, ao', cap', hao, _, _, hx⟩ := hv
      obtain ⟨rfl, _, rfl⟩ : ao = ao' ∧ es.length = es.length ∧ cap = cap' := by simpa using hao
      obtain ⟨b, off, rfl, hc⟩ := hx (by omega)
      have hlb : b < w.heap.size := Rd.lt HV.out (by omega)
      have C0 : w.cell? ⟨b, off + k * 2, none⟩ = some (.int .u64 es[k].1) := hc (k * 2) _ ((eE.all_at es k 0 hlt (by decide)).trans rfl)
      have C1 : w.cell? ⟨b, off + k * 2 + 1, none⟩ = some (.int .u64 es[k].2) := by have := hc (k * 2 + 1) _ ((eE.all_at es k 1 hlt (by decide)).trans rfl); rw [← Nat.add_assoc] at this; exact this
      have HC0 := Lib.hid C0
      have HC1 := Lib.hid C1
      have c0 := (A.below.cell (p := ⟨b, off + k * 2, none⟩) hlb).trans C0
      have c1 := (A.below.cell (p := ⟨b, off + k * 2 + 1, none⟩) hlb).trans C1
      clear hcall C0 C1 hc hx hao
      have HEV := Lib.hid (eE_neq es[k] es[k])
      have hnn : (((List.range es.length).map (nOf R))[k]'(by simpa using hlt)) = nOf R k := by simp
      have HNN := Lib.hid hnn
      clear hnn
      generalize he0 : es[k].1 = e0 at *
      generalize he1 : es[k].2 = e1 at *
      have HE0 := Lib.hid he0
      have HE1 := Lib.hid he1
      clear he0 he1
      go_wp2_with fail
      refine HC.out.mono ?_
      rintro e w8 ⟨rfl, hR8, hN8, hO8⟩
      clear HC
      obtain ⟨tg8, A8, f8, n8, k8⟩ := A.step hO8 3 (fun k h => by omega)
      have hR8 := n8 _ OSt.framed hR8
      have hN8 := k8 _ NumS.framed _ hN8
      have K8 : Hid (Keeps tag7 tg8 w7 w8 (fun j => j = 3 ∨ j = 4)) := hK.out.trans (Keeps.of f8 (P := fun j => j = 3 ∨ j = 4) (fun k h => h)) (fun _ h => h) (fun _ h => h)
      have hin8 := K8.out _ OwS.framed 5 (by decide) hin7
      have hns8 := K8.out _ OwS.framed 6 (by decide) hns7
      clear f8 n8 k8 A hO8 hRb hNb hK c0 c1
      obtain ⟨_, io, ic, rfl, _⟩ := id hin8.1
      obtain ⟨ib, ioff, rfl, _, hia⟩ := hin8.1.at_ k hlt
      obtain ⟨nb, noff, rfl, _, hna⟩ := hns8.1.at_ k (by simpa using hlt)
      have i0 : w8.cell? ⟨ib, ioff + k * 2, none⟩ = some (.int .u64 e0) := by rw [← HE0.out]; exact (hia 0 (by decide)).1
      have i1 : w8.cell? ⟨ib, ioff + k * 2 + 1, none⟩ = some (.int .u64 e1) := by rw [← HE1.out]; exact (hia 1 (by decide)).1
      have n0 : w8.cell? ⟨nb, noff + k, none⟩ = some (.int .i64 (nOf R k)) := by
        have := (hna 0 (by decide)).1
        simp only [eInt, Nat.mul_one, Nat.add_zero] at this
        rw [this]; simp
      have v0 := (A8.below.cell (p := ⟨b, off + k * 2, none⟩) hlb).trans HC0.out
      have v1 := (A8.below.cell (p := ⟨b, off + k * 2 + 1, none⟩) hlb).trans HC1.out
      have hz : ∀ w, (binOp .neq 35 (.agg #[.int .u64 e0, .int .u64 e1]) (.agg #[.int .u64 e0, .int .u64 e1])).run Try.prog w = .ok (.bool false) w := fun w => (HEV.out w).trans (by simp)
      clear hia hna hin8 hns8
      generalize nOf R k = nn at *
      go_wp2_with fail
      go_quiet (fail)
      go_wp2_with fail
      go_roundw
      case rel => exact ⟨k + 1, tg8, by omega, by go_num, A8.drewN nq, OSt.framed.drewN hR8 nq, NumS.framed.drewN hN8 nq, fun X hX j hj hx => hX.drewN (K8.out X hX j hj hx) nq⟩
      case measure => simp [intOf]; omega
    · obtain rfl : k = es.length := by omega
      have hRa8 := hK.out _ OSt.framed 1 (by decide) hRa7
      clear hRa7 hin7 hns7 hK
      have hRb8 := Lib.hid hRb
      obtain ⟨ln, hln⟩ : ∃ ln, ln = numbered (es.take (min es.length R)) := ⟨_, rfl⟩
      have hlen := OSt.len (R := R) (es := es) (j := es.length) (Nat.le_refl _)
      have hN16 : ln.length ≤ 16 := by rw [hln, hlen]; omega
      unfold OSt at hRa8 hRb
      rw [← hln] at hRa8 hRb
      generalize ((min es.length R : Nat) : Int) = acc at hRa8 hRb
      obtain ⟨rf, hrf⟩ : ∃ rf, rf = (es.length : Int) - acc := ⟨_, rfl⟩
      rw [← hrf] at hRa8 hRb
      clear hln hlen hRb8 hNb hrf
      go_wp2_with fail
      refine (waitingS ga ha R false ln _ _ _ _ _ _ hRa8 (by omega)).mono ?_
      rintro e w8 ⟨vx, rfl, hx, hO8⟩
      obtain ⟨tg8, A8, f8, n8, k8⟩ := A.step hO8 7 (fun _ h => h.elim)
      have hRa9 := f8 _ RingS.framed _ hRa8 (fun _ _ h => h)
      have hRb9 := f8 _ RingS.framed _ hRb (fun _ _ h => h)
      have hx9 := n8 _ OwS.framed (OwS.framed.mono _ _ _ hx (fun k _ h => .inr h))
      clear hRa8 hRb hx f8 n8 k8 A hO8
      obtain ⟨_, xo, xc, rfl, hxc, _⟩ := id hx9.1
      obtain ⟨N, hN⟩ : ∃ N, N = ln.length := ⟨_, rfl⟩
      have HN := Lib.hid hN
      rw [← hN] at hx9 hxc hN16
      rw [← hN]
      clear hN
      go_wp2_with fail
      go_loopw [15] (fun i wq => ∃ (k : Nat) (zs : List Qd) (tg : Nat → Nat), k ≤ N ∧ i = .int .i64 k ∧ zs.length = N ∧ Arena w.heap.size w wq tg ∧ OwS eQ 39 (fun k => tg k = 7) wq (.slice xo N xc) zs ∧ Hid (Keeps tg8 tg w8 wq (fun j => j = 7))) (fun i _ => N - (intOf i).toNat)
      case atStart => exact ⟨0, ln, tg8, Nat.zero_le _, rfl, HN.out.symm, A8, hx9, Keeps.refl _ _ _⟩
      case round =>
        clear hx9 A8
        obtain ⟨j, zs, tg, hj, rfl, hzl, A, hx, hK⟩ := hrel
        by_cases hjn : j < N
        · obtain ⟨xb, xf, rfl, _, hat⟩ := hx.1.at_ j (by omega)
          have x0 : wr.cell? ⟨xb, xf + j * 3, none⟩ = some (.int .i64 zs[j].1) := (hat 0 (by decide)).1
          have x1 : wr.cell? ⟨xb, xf + j * 3 + 1, none⟩ = some (.int .u64 zs[j].2.1) := (hat 1 (by decide)).1
          have x2 : wr.cell? ⟨xb, xf + j * 3 + 2, none⟩ = some (.int .u64 zs[j].2.2) := (hat 2 (by decide)).1
          have y0 : wr.frozen? ⟨xb, xf + j * 3, none⟩ = false := (hat 0 (by decide)).2
          have y1 : wr.frozen? ⟨xb, xf + j * 3 + 1, none⟩ = false := (hat 1 (by decide)).2
          have y2 : wr.frozen? ⟨xb, xf + j * 3 + 2, none⟩ = false := (hat 2 (by decide)).2
          obtain ⟨hst, hsto⟩ := hx.store j (by omega) ((-1, 0, 0) : Qd)
          obtain ⟨tg2, A2, f2, n2, k2⟩ := A.step hsto 7 (fun k h => by omega)
          have hx2 := n2 _ OwS.framed (OwS.framed.mono _ _ _ hst (fun _ _ h => .inl h))
          have K2 := hK.out.trans (Keeps.of f2 (P := fun j => j = 7) (fun k h => h)) (fun _ h => h) (fun _ h => h)
          have HA2 : Hid (Arena w.heap.size w (((wr.setCell ⟨xb, xf + j * 3, none⟩ (.int .i64 (-1))).setCell ⟨xb, xf + j * 3 + 1, none⟩ (.int .u64 0)).setCell ⟨xb, xf + j * 3 + 2, none⟩ (.int .u64 0)) tg2) := A2
          have HX2 : Hid (OwS eQ 39 (fun k => tg2 k = 7) (((wr.setCell ⟨xb, xf + j * 3, none⟩ (.int .i64 (-1))).setCell ⟨xb, xf + j * 3 + 1, none⟩ (.int .u64 0)).setCell ⟨xb, xf + j * 3 + 2, none⟩ (.int .u64 0)) (.slice (some ⟨xb, xf, none⟩) N xc) (zs.set j (-1, 0, 0))) := hx2
          have HK2 : Hid (Keeps tg8 tg2 w8 (((wr.setCell ⟨xb, xf + j * 3, none⟩ (.int .i64 (-1))).setCell ⟨xb, xf + j * 3 + 1, none⟩ (.int .u64 0)).setCell ⟨xb, xf + j * 3 + 2, none⟩ (.int .u64 0)) (fun j => j = 7)) := K2
          have hzl2 : (zs.set j (-1, 0, 0)).length = N := by simp [hzl]
          have HZ2 := Lib.hid hzl2
          clear hat hst hsto f2 n2 k2 hx2 K2 A2 hx hK A hzl2
          go_wp2_with fail
          go_roundw
          case rel => exact ⟨j + 1, _, tg2, by omega, by go_num, HZ2.out, HA2.out, HX2.out, HK2⟩
          case measure => simp [intOf]; omega
        · have hRa10 := hK.out _ RingS.framed 1 (by decide) hRa9
          have hRb10 := hK.out _ RingS.framed 3 (by decide) hRb9
          clear hRa9 hRb9 hK
          have hob := OwS.framed.alloc hx (.cells #[.int .i64 0, .int .u64 0, .int .u64 0, .int .i64 0, .int .u64 0, .int .u64 0] 39)
          have hrd : Rd eQ (wr.alloc (.cells #[.int .i64 0, .int .u64 0, .int .u64 0, .int .i64 0, .int .u64 0, .int .u64 0] 39)) _ [(0, 0, 0), (0, 0, 0)] := Rd.lit wr #[.int .i64 0, .int .u64 0, .int .u64 0, .int .i64 0, .int .u64 0, .int .u64 0] 39 (0, 0) 2 2 [(0, 0, 0), (0, 0, 0)] (by simp [Enc.all]) rfl (Nat.le_refl _) (by decide)
          go_wp2_with (at_builtin; refine wl_appendS (E := eQ) rfl _ (.tmp 111) _ rfl 39 24 eQ_slice _ _ zs rfl hob _ [(0, 0, 0), (0, 0, 0)] rfl hrd (by simp; omega) (by unfold maxLen; simp; omega) ?_)
          intro v9 w9 hx9 hO9
          obtain ⟨tg9, A9, f9, n9, k9⟩ := A.step (F := fun k => tg k = 7) ((Only.alloc _ wr _).tr hO9) 7 (fun k h => by omega)
          have hRa11 := f9 _ RingS.framed _ hRa10 (fun k h => by omega)
          have hRb11 := f9 _ RingS.framed _ hRb10 (fun k h => by omega)
          obtain ⟨_, xo2, xc2, rfl, _⟩ := id hx9.1
          have hl9 : (zs ++ [(0, 0, 0), (0, 0, 0)]).length = N + 2 := by simp [hzl]
          rw [hl9]
          clear hRa10 hRb10 hob hrd hx hx9 hl9 f9 n9 k9 A hO9
          go_wp2_with fail
          refine (waitingS ga ha R false ln _ _ _ _ _ _ hRa11 (by have := HN.out; omega)).mono ?_
          rintro e w10 ⟨vy, rfl, hy, hO10⟩
          obtain ⟨tg10, A10, f10, n10, k10⟩ := A9.step hO10 8 (fun _ h => h.elim)
          have hRa12 := f10 _ RingS.framed _ hRa11 (fun _ _ h => h)
          have hRb12 := f10 _ RingS.framed _ hRb11 (fun _ _ h => h)
          have hy12 := n10 _ OwS.framed (OwS.framed.mono _ _ _ hy (fun k _ h => .inr h))
          clear hRa11 hRb11 hy f10 n10 k10 A9 hO10
          go_wp2_with fail
          refine (waitingS gb hb R false ln _ _ _ _ _ _ hRb12 (by have := HN.out; omega)).mono ?_
          rintro e w11 ⟨vz, rfl, hz, hO11⟩
          obtain ⟨tg11, A11, f11, n11, k11⟩ := A10.step hO11 9 (fun _ h => h.elim)
          have hRa13 := f11 _ RingS.framed _ hRa12 (fun _ _ h => h)
          have hRb13 := f11 _ RingS.framed _ hRb12 (fun _ _ h => h)
          have hy13 := f11 _ OwS.framed _ hy12 (fun _ _ h => h)
          clear hRa12 hRb12 hy12 f11 n11 k11 A10 hO11
          go_wp2_with fail
          refine (queued_eq ln vy vz _ hy13.rd hz.rd).mono ?_
          rintro e w12 ⟨rfl, hO12⟩
          obtain ⟨tg12, A12, f12, n12, k12⟩ := A11.step hO12 9 (fun _ h => h.elim)
          have hRa14 := f12 _ RingS.framed _ hRa13 (fun _ _ h => h)
          have hRb14 := f12 _ RingS.framed _ hRb13 (fun _ _ h => h)
          clear hRa13 hRb13 hy13 hz f12 n12 k12 A11 hO12
          go_wp2_with fail
          refine (countsS ga ha R false ln _ _ _ _ _ _ hRa14).mono ?_
          rintro e w13 ⟨rfl, hO13⟩
          obtain ⟨tg13, A13, f13, n13, k13⟩ := A12.step hO13 9 (fun _ h => h.elim)
          have hRa15 := f13 _ RingS.framed _ hRa14 (fun _ _ h => h)
          have hRb15 := f13 _ RingS.framed _ hRb14 (fun _ _ h => h)
          clear hRa14 hRb14 f13 n13 k13 A12 hO13
          have hz0 : ∀ w, _ := fun w => (eC_neq (acc, rf, 0, 0, (ln.length : Int)) (acc, rf, 0, 0, (ln.length : Int)) w).trans (by simp; rfl)
          unfold Cts.v
          go_wp2_with fail
          refine (countsS gb hb R false ln _ _ _ _ _ _ hRb15).mono ?_
          rintro e w14 ⟨rfl, hO14⟩
          obtain ⟨tg14, A14, f14, n14, k14⟩ := A13.step hO14 9 (fun _ h => h.elim)
          have hRa16 := f14 _ RingS.framed _ hRa15 (fun _ _ h => h)
          have hRb16 := f14 _ RingS.framed _ hRb15 (fun _ _ h => h)
          clear hRa15 hRb15 f14 n14 k14 A13 hO14
          unfold Cts.v
          go_wp2_with fail
          refine (offer_nil ga _).mono ?_
          rintro e w15 ⟨rfl, rfl⟩
          clear hz0
          go_wp2_with fail
          refine (shutS ga ha R false ln _ _ _ _ _ _ hRa16 (by have := HN.out; omega) (by decide) (by decide)).mono ?_
          rintro e w16 ⟨vy, rfl, hy, hR17, hO16⟩
          obtain ⟨tg16, A16, f16, n16, k16⟩ := A14.step hO16 8 (fun k h => by omega)
          have hRa17 := k16 _ RingS.framed _ hR17
          have hRb17 := f16 _ RingS.framed _ hRb16 (fun k h => by omega)
          have hy17 := n16 _ OwS.framed (OwS.framed.mono _ _ _ hy (fun k _ h => .inr h))
          clear hRa16 hRb16 hR17 hy f16 n16 k16 A14 hO16
          obtain ⟨_, yo, yc, rfl, hyc, _⟩ := id hy17.1
          rw [← HN.out] at hy17 hyc
          rw [← HN.out]
          have HRA := Lib.hid hRa17
          have HRB := Lib.hid hRb17
          clear hRa17 hRb17
          go_wp2_with fail
          go_loopw [17] (fun i wq => ∃ (k : Nat) (zs : List Qd) (tg : Nat → Nat), k ≤ N ∧ i = .int .i64 k ∧ zs.length = N ∧ Arena w.heap.size w wq tg ∧ OwS eQ 39 (fun k => tg k = 8) wq (.slice yo N yc) zs ∧ Hid (Keeps tg16 tg w16 wq (fun j => j = 8))) (fun i _ => N - (intOf i).toNat)
          case atStart => exact ⟨0, ln, tg16, Nat.zero_le _, rfl, HN.out.symm, A16, hy17, Keeps.refl _ _ _⟩
          case round =>
            clear hy17 A16
            obtain ⟨i, ys, tgy, hi, rfl, hyl, A, hy, hK⟩ := hrel
            by_cases hin : i < N
            · obtain ⟨yb, yf, rfl, _, hat⟩ := hy.1.at_ i (by omega)
              have x0 : wr.cell? ⟨yb, yf + i * 3, none⟩ = some (.int .i64 ys[i].1) := (hat 0 (by decide)).1
              have x1 : wr.cell? ⟨yb, yf + i * 3 + 1, none⟩ = some (.int .u64 ys[i].2.1) := (hat 1 (by decide)).1
              have x2 : wr.cell? ⟨yb, yf + i * 3 + 2, none⟩ = some (.int .u64 ys[i].2.2) := (hat 2 (by decide)).1
              have y0 : wr.frozen? ⟨yb, yf + i * 3, none⟩ = false := (hat 0 (by decide)).2
              have y1 : wr.frozen? ⟨yb, yf + i * 3 + 1, none⟩ = false := (hat 1 (by decide)).2
              have y2 : wr.frozen? ⟨yb, yf + i * 3 + 2, none⟩ = false := (hat 2 (by decide)).2
              obtain ⟨hst, hsto⟩ := hy.store i (by omega) ((-2, 0, 0) : Qd)
              obtain ⟨tg2, A2, f2, n2, k2⟩ := A.step hsto 8 (fun k h => by omega)
              have hx2 := n2 _ OwS.framed (OwS.framed.mono _ _ _ hst (fun _ _ h => .inl h))
              have K2 := hK.out.trans (Keeps.of f2 (P := fun j => j = 8) (fun k h => h)) (fun _ h => h) (fun _ h => h)
              have HA2 : Hid (Arena w.heap.size w (((wr.setCell ⟨yb, yf + i * 3, none⟩ (.int .i64 (-2))).setCell ⟨yb, yf + i * 3 + 1, none⟩ (.int .u64 0)).setCell ⟨yb, yf + i * 3 + 2, none⟩ (.int .u64 0)) tg2) := A2
              have HX2 : Hid (OwS eQ 39 (fun k => tg2 k = 8) (((wr.setCell ⟨yb, yf + i * 3, none⟩ (.int .i64 (-2))).setCell ⟨yb, yf + i * 3 + 1, none⟩ (.int .u64 0)).setCell ⟨yb, yf + i * 3 + 2, none⟩ (.int .u64 0)) (.slice (some ⟨yb, yf, none⟩) N yc) (ys.set i (-2, 0, 0))) := hx2
              have HK2 : Hid (Keeps tg16 tg2 w16 (((wr.setCell ⟨yb, yf + i * 3, none⟩ (.int .i64 (-2))).setCell ⟨yb, yf + i * 3 + 1, none⟩ (.int .u64 0)).setCell ⟨yb, yf + i * 3 + 2, none⟩ (.int .u64 0)) (fun j => j = 8)) := K2
              have hzl2 : (ys.set i (-2, 0, 0)).length = N := by simp [hyl]
              have HZ2 := Lib.hid hzl2
              clear hat hst hsto f2 n2 k2 hx2 K2 A2 hy hK A hzl2
              go_wp2_with fail
              go_roundw
              case rel => exact ⟨i + 1, _, tg2, by omega, by go_num, HZ2.out, HA2.out, HX2.out, HK2⟩
              case measure => simp [intOf]; omega
            · have hRa18 := hK.out _ RingS.framed 1 (by decide) HRA.out
              have hRb18 := hK.out _ RingS.framed 3 (by decide) HRB.out
              clear hK hy
              go_wp2_with fail
              refine (shutS gb hb R false ln _ _ _ _ _ _ hRb18 (by have := HN.out; omega) (by decide) (by decide)).mono ?_
              rintro e w19 ⟨vz, rfl, hz, hR19, hO19⟩
              obtain ⟨tg19, A19, f19, n19, k19⟩ := A.step hO19 9 (fun k h => by omega)
              have hRa19 := f19 _ RingS.framed _ hRa18 (fun k h => by omega)
              obtain ⟨_, zo, zc, rfl, hzc, _⟩ := id hz.1
              rw [← HN.out]
              clear hz hR19 hRb18 hRa18 f19 n19 k19 A hO19
              go_wp2_with fail
              refine (shutS ga ha R true [] _ _ _ _ _ _ hRa19 (by simp) (by omega) (by have := HN.out; omega)).mono ?_
              rintro e w20 ⟨vz, rfl, hz, hR20, hO20⟩
              obtain ⟨tg20, A20, _⟩ := A19.step hO20 9 (fun k h => by omega)
              obtain ⟨_, zo2, zc2, rfl, _⟩ := id hz.1
              clear hz hR20 hRa19 A19 hO20
              have hz00 : (((([] : List Qd).length : Nat) : Int) == 0) = true := rfl
              go_wp2_with fail
              go_ret
              exact ⟨rfl, A20.below⟩

set_option maxRecDepth 100000 in
set_option maxHeartbeats 4000000 in
theorem ringOffers_any (room : Int) (es : List Ev) (v : Value) (w : World) (hroom : -9223372036854775808 ≤ room ∧ room ≤ 9223372036854775807) (hv : Rd eE w v es) (hl : es.length * 16 ≤ 140737488351232) (hok : ∀ o ∈ es, Ev.ok o) :
    Calls Try.prog 6 #[.int .i64 room, v] w fun e w' => e = .returned (.bool true) ∧ Below w.heap.size w w' := by
  by_cases hr : room < 1 ∨ 16 < room
  · go_enter Try.func6, Try.ntmps6
    go_wp2_with fail
    refine (awake_any _).mono ?_
    rintro e w1 ⟨rfl, hb1⟩
    have hsz1 := hb1.size
    go_wp2_with fail
    refine (new_not room _ _ hr).mono ?_
    rintro e w2 ⟨rfl, rfl⟩
    go_wp2_with fail
    refine (new_not room _ _ hr).mono ?_
    rintro e w2 ⟨rfl, rfl⟩
    go_wp2_with fail
    go_ret
    exact ⟨rfl, (hb1.alloc hsz1 _).alloc (by simp; omega) _⟩
  · obtain ⟨R, rfl⟩ : ∃ R : Nat, room = (R : Int) := ⟨room.toNat, by omega⟩
    exact ringOffers_yes R es v w (by omega) (by omega) hv hl (by omega)
end Go.Proofs.Ytdpklmaldjohkaa