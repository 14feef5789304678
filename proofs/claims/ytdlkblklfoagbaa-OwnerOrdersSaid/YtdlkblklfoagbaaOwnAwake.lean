/- owner: the law's own first look. -/
import Derived.Test.YtdlkblklfoagbaaOwnAny
namespace Go.Proofs.Ytdlkblklfoagbaa
open Go.RowKit
set_option linter.unusedVariables false
set_option linter.unusedSimpArgs false

theorem newU {R : (Nat → Prop) → World → Prop} {S : Nat → Prop} {w0 w : World} (sd n : Int) (ds : List DefD) (v : Value) (hR : Framed R) (h : Upd R S w0 w) (hr : Rd eDef w v ds) (hok : okOwn sd n ds = true) :
    Calls Try.prog 8 #[.int .i64 sd, .int .i64 n, v] w fun e w' => ∃ g, e = .returned (.tuple #[.pointer (some ⟨g, 0, none⟩), .int .i64 0]) ∧ ∃ ml, (OGood ml (List.replicate ds.length z0) ∧ ml.map (·.2) = ds) ∧ Upd (Sep (OwnS g sd n ml (List.replicate ds.length z0) [] false) R) S w0 w' :=
  (h.callNew hR (Yx := fun g S w => NewOk g sd n ds S w) (E := fun g e => e = .returned (.tuple #[.pointer (some ⟨g, 0, none⟩), .int .i64 0])) (fun _ => NewOk.framed) ((new_any sd n ds v w hr).mono fun e w' hp => by
    rcases hp with ⟨h, _⟩ | ⟨_, h⟩
    · rw [hok] at h; cases h
    · exact h)).mono fun e w' ⟨g, he, hu⟩ => by
    obtain ⟨⟨A, B, hd, hA, hB, hp, ml, h1, h2, hq⟩, ho⟩ := hu
    exact ⟨g, he, ml, ⟨h1, h2⟩, ⟨B, A, fun k h1 h2 => hd k h2 h1, hB, hA, hq, hp⟩, ho⟩
theorem new_no {w : World} (sd n : Int) (ds : List DefD) (v : Value) (hr : Rd eDef w v ds) (hok : okOwn sd n ds = false) :
    Calls Try.prog 8 #[.int .i64 sd, .int .i64 n, v] w fun e w' => e = .returned (.tuple #[.pointer none, .int .i64 2]) ∧ Only (fun _ => False) w w' :=
  (new_any sd n ds v w hr).mono fun e w' hp => by
    rcases hp with ⟨_, h⟩ | ⟨h, _⟩
    · exact h
    · rw [hok] at h; cases h
abbrev aw1 : ReqD := (5, 9, false, 0, 2, 0, 7)
abbrev aw2 : ReqD := (6, 0, true, 0, 0, 0, 0)
theorem own_pair {w : World} {v : Value} {x : PairD} {xs : List PairD} (h : Rd ePair w v (x :: xs)) : ∃ b o c, v = .slice (some ⟨b, o, none⟩) (x :: xs).length c ∧ w.cell? ⟨b, o, none⟩ = some (.int .u64 x.1) ∧ w.cell? ⟨b, o + 1, none⟩ = some (.int .u64 x.2) := by
  obtain ⟨_, ao, c, rfl, _, _, hx⟩ := h
  obtain ⟨b, o, rfl, hc⟩ := hx (by simp)
  have e0 := ePair.all_at (x :: xs) 0 0 (by simp) (by decide)
  have e1 := ePair.all_at (x :: xs) 0 1 (by simp) (by decide)
  exact ⟨b, o, c, rfl, by have := hc _ _ e0; simpa using this, by have := hc _ _ e1; simpa using this⟩
set_option maxRecDepth 100000 in
set_option maxHeartbeats 4000000 in
theorem awake_any (w : World) : Calls Try.prog 7 #[] w fun e w' => e = .returned (.bool true) ∧ Only (fun _ => False) w w' := by
  have HRD := Lib.hid (Rd.lit (E := eDef) w #[.int .i64 0, .int .i64 1] 77 (0, 0) 1 1 [((0, 1) : DefD)] rfl rfl (Nat.le_refl _) (by decide))
  have HU0 := Lib.hid (show Upd Emp (fun _ => False) w (w.alloc (.cells #[.int .i64 0, .int .i64 1] 77 (0, 0))) from ⟨trivial, Only.alloc _ _ _⟩)
  go_enter Try.func7, Try.ntmps7
  go_wp2_with fail
  refine (newU 0 2 [(0, 1)] _ Emp.framed HU0.out HRD.out (by decide)).mono ?_
  rintro e w1 ⟨g, rfl, ml, ⟨G, hml⟩, hU⟩
  have HG := Lib.hid G
  have HML := Lib.hid hml
  have HMN := Lib.hid (show ml.length = 1 by have := G.len; simpa using this)
  have HU := Lib.hid hU
  clear hU G hml HU0 HRD
  have HRQ := Lib.hid (Rd.lit (E := eReq) w1 #[.int .i64 5, .int .i64 9, .bool false, .int .i64 0, .int .i64 2, .int .u64 0, .int .u64 7, .int .i64 6, .int .i64 0, .bool true, .int .i64 0, .int .i64 0, .int .u64 0, .int .u64 0] 37 (0, 0) 2 2 [aw1, aw2] rfl rfl (Nat.le_refl _) (by decide))
  have HUa := Lib.hid (HU.out.fresh (Sep.framed OwnS.framed Emp.framed) (Only.alloc (fun _ => False) w1 (.cells #[.int .i64 5, .int .i64 9, .bool false, .int .i64 0, .int .i64 2, .int .u64 0, .int .u64 7, .int .i64 6, .int .i64 0, .bool true, .int .i64 0, .int .i64 0, .int .u64 0, .int .u64 0] 37 (0, 0))))
  have HSP := Lib.hid (show sendP 0 2 ml.length false [] [aw1, aw2] = (0, [aw1, aw2]) by rw [HMN.out]; decide)
  go_wp2_with fail
  refine (HUa.out.on1 Emp.framed (P' := OwnS g 0 2 ml (List.replicate 1 z0) [aw1, aw2] false) (E := fun e => e = .returned (.int .i64 0)) OwnS.framed fun A hA => by
    have := send_ hA (by decide) HRQ.out (by decide)
    rwa [HSP.out] at this).mono ?_
  rintro e w2 ⟨rfl, h2⟩
  have H2 := Lib.hid h2
  clear h2 HU HUa HRQ HSP
  go_wp2_with fail
  refine (H2.out.on1x Emp.framed (Px := fun vp => Sep (OwnS g 0 2 ml [([(0, 7)], [])] [aw2] false) (fun S w => OwS ePair 50 S w vp [])) (E := fun vp e => e = .returned (.tuple #[repV aw1 (0, false, 0, false, 0, 0) vp, .bool true])) (fun _ => Sep.framed OwnS.framed OwS.framed) fun A hA => step_any hA HG.out (by rw [HMN.out]; decide) (by rw [HML.out]; rfl)).mono ?_
  rintro e w3 ⟨vp, rfl, h3⟩
  have H3 := Lib.hid (h3.imp fun _ h => h.left (Sep.framed OwnS.framed OwS.framed))
  have HG2 := Lib.hid (show OGood ml [([(0, 7)], [])] by have := stepP_good (q := aw1) HG.out; rw [HML.out] at this; exact this)
  obtain ⟨_, h3b⟩ := h3.getL
  obtain ⟨_, _, _, _, _, _, ⟨⟨_, pa, pc, rfl, _⟩, _⟩⟩ := h3b
  have H3a := Lib.hid (H3.out.loc' OwnS.framed OwS.framed (repO 5 9 false 0 2 0 7 0 false 0 false 0 0 (.slice pa 0 pc)))
  clear h3 H2
  go_wp2_with fail
  generalize w3.heap.size = rb at *
  generalize World.alloc w3 _ = wa at *
  refine (H3a.out.on1x (Framed.and OwS.framed Blk.framed) (Px := fun vp => Sep (OwnS g 0 2 ml [([(0, 7)], [])] [] false) (fun S w => OwS ePair 50 S w vp [(0, 7)])) (E := fun vp e => e = .returned (.tuple #[repV aw2 (0, false, 0, false, 0, 0) vp, .bool true])) (fun _ => Sep.framed OwnS.framed OwS.framed) fun A hA => step_any hA HG2.out (by rw [HMN.out]; decide) (by rw [HML.out]; rfl)).mono ?_
  rintro e w4 ⟨vp, rfl, h4⟩
  have HO4 := Lib.hid h4.2
  obtain ⟨_, h4b⟩ := h4.getL
  obtain ⟨_, _, _, _, _, _, h4c⟩ := h4b
  obtain ⟨pb, po, pc2, rfl, k0, k1⟩ := own_pair h4c.rd
  obtain ⟨_, _, hbk⟩ := h4.getR
  have b0 : w4.cell? ⟨rb, 0, none⟩ = some (.int .i64 5) := blk_cell hbk.1 0
  have b1 : w4.cell? ⟨rb, 1, none⟩ = some (.int .i64 9) := blk_cell hbk.1 1
  have hl1 : rb < w4.heap.size := heap_lt hbk.1
  have hl2 : pb < w4.heap.size := World.block_lt_of_cell? w4 _ k0
  have HO5 := Lib.hid (HO4.out.tr (Only.alloc (fun _ => False) w4 (repO 6 0 true 0 0 0 0 0 false 0 false 0 0 (.slice (some ⟨pb, po, none⟩) 1 pc2))))
  clear h4 h4c hbk H3 H3a
  go_wp2_with fail
  go_ret
  exact ⟨rfl, HO5.out⟩
end Go.Proofs.Ytdlkblklfoagbaa
