/- cmap: the law's own first look. -/
import Derived.Test.YthppleegiieneaaCMapLen
namespace Go.Proofs.Ythppleegiieneaa
open Go.RowKit
set_option linter.unusedVariables false
set_option linter.unusedSimpArgs false

theorem Upd.on0 {P P' : (Nat → Prop) → World → Prop} {S : Nat → Prop} {w w1 : World} (h : Upd P S w w1) {f : FuncId} {args : Array Value} {pr : Program} {E : Ending → Prop} (hP' : Framed P')
    (H : ∀ A, P A w1 → Calls pr f args w1 fun e w' => E e ∧ Upd P' A w1 w') : Calls pr f args w1 fun e w' => E e ∧ Upd P' S w w' :=
  (H _ h.1).mono fun e w' ⟨he, hu⟩ => ⟨he, h.step hP' hu⟩
theorem cmapNewU {R : (Nat → Prop) → World → Prop} {S : Nat → Prop} {w0 w : World} {kind cap n : Int} (hR : Framed R) (h : Upd R S w0 w) (h1 : 1 ≤ n) (h2 : n ≤ 4) (hok : okDef kind cap = true) :
    Calls Try.prog 13 #[.agg #[.int .i64 kind, .int .i64 cap], .int .i64 n] w fun e w' => ∃ m, e = .returned (.tuple #[.pointer (some ⟨m, 0, none⟩), .int .i64 0]) ∧ ∃ al, MGood kind cap al (List.replicate n.toNat ([], [])) ∧ Upd (Sep (MapS m kind cap al (List.replicate n.toNat ([], []))) R) S w0 w' :=
  (h.callNew hR (Yx := fun m S w => ∃ al, MGood kind cap al (List.replicate n.toNat ([], [])) ∧ MapS m kind cap al (List.replicate n.toNat ([], [])) S w) (E := fun m e => e = .returned (.tuple #[.pointer (some ⟨m, 0, none⟩), .int .i64 0])) (fun _ => Framed.ex fun _ => Framed.and (Framed.pure _) MapS.framed) (cmapNew_ok kind cap n w h1 h2 hok)).mono fun e w' ⟨m, he, hu⟩ => by
    obtain ⟨⟨A, B, hd, hA, hB, hp, al, G, hq⟩, ho⟩ := hu
    exact ⟨m, he, al, G, ⟨B, A, fun k h1 h2 => hd k h2 h1, hB, hA, hq, hp⟩, ho⟩
theorem res_eq_self (r : ResD) (w : World) : (binOp .eql 38 (.agg #[.int .i64 r.1, .bool r.2.1, .int .u64 r.2.2.1, .bool r.2.2.2.1, .int .u64 r.2.2.2.2.1, .int .u64 r.2.2.2.2.2]) (.agg #[.int .i64 r.1, .bool r.2.1, .int .u64 r.2.2.1, .bool r.2.2.2.1, .int .u64 r.2.2.2.2.1, .int .u64 r.2.2.2.2.2])).run Try.prog w = .ok (.bool true) w := by
  have := eRes_eql r r w
  simpa using this
theorem res_neq_self (x0 : Int) (x1 : Bool) (x2 : Int) (x3 : Bool) (x4 x5 : Int) (w : World) : (binOp .neq 38 (.agg #[.int .i64 x0, .bool x1, .int .u64 x2, .bool x3, .int .u64 x4, .int .u64 x5]) (.agg #[.int .i64 x0, .bool x1, .int .u64 x2, .bool x3, .int .u64 x4, .int .u64 x5])).run Try.prog w = .ok (.bool false) w := by
  have := eRes_neq (x0, x1, x2, x3, x4, x5) (x0, x1, x2, x3, x4, x5) w
  simpa using this
set_option maxRecDepth 100000 in
set_option maxHeartbeats 1000000 in
theorem awake_any (w : World) : Calls Try.prog 7 #[] w fun e w' => e = .returned (.bool true) ∧ Below w.heap.size w w' := by
  go_enter Try.func7, Try.ntmps7
  go_wp2_with fail
  refine (cmapNewU Emp.framed (St.start (Below.refl _ w)) (kind := 1) (cap := 1) (n := 2) (by decide) (by decide) (by decide)).mono ?_
  rintro e w1 ⟨m, rfl, al, G, hU⟩
  have HG := Lib.hid (show MGood 1 1 al [([], []), ([], [])] from G)
  have HU := Lib.hid (show Upd (Sep (MapS m 1 1 al [([], []), ([], [])]) Emp) (fun _ => False) w w1 from hU)
  have HL := Lib.hid (show al.length = 2 from G.len)
  clear G hU
  go_wp2_with fail
  refine (HU.out.on1 Emp.framed (P' := MapS m 1 1 al [([(0, 5)], [0]), ([], [])]) (E := fun e => e = .returned (.agg #[.int .i64 0, .bool false, .int .u64 0, .bool false, .int .u64 0, .int .u64 0])) MapS.framed fun A hA => cmapDo_ (r := (0, false, 0, false, 0, 0)) (s' := ([(0, 5)], [0])) hA HG.out (i := 0) (op := 2) (key := 0) (val := 5) (by rw [HL.out]; decide) (by decide) (by decide)).mono ?_
  rintro e w2 ⟨rfl, h2⟩
  have H2 := Lib.hid h2
  have H2G := Lib.hid (show MGood 1 1 al [([(0, 5)], [0]), ([], [])] from HG.out.set 0 (sh_good (bd := true) (s := ([], [])) (op := 2) (k := 0) (v := 5) (HG.out.good _ (by simp))))
  clear h2 HU HG
  go_wp2_with fail
  refine (H2.out.on1 Emp.framed (P' := MapS m 1 1 al [([(2, 6)], [2]), ([], [])]) (E := fun e => e = .returned (.agg #[.int .i64 0, .bool false, .int .u64 0, .bool true, .int .u64 0, .int .u64 5])) MapS.framed fun A hA => cmapDo_ (r := (0, false, 0, true, 0, 5)) (s' := ([(2, 6)], [2])) hA H2G.out (i := 0) (op := 2) (key := 2) (val := 6) (by rw [HL.out]; decide) (by decide) (by decide)).mono ?_
  rintro e w3 ⟨rfl, h3⟩
  have H3 := Lib.hid h3
  have H3G := Lib.hid (show MGood 1 1 al [([(2, 6)], [2]), ([], [])] from H2G.out.set 0 (sh_good (bd := true) (s := ([(0, 5)], [0])) (op := 2) (k := 2) (v := 6) (H2G.out.good _ (by simp))))
  have hz := res_eq_self (0, false, 0, true, 0, 5)
  clear h3 H2 H2G
  dsimp only at hz ⊢
  go_wp2_with fail
  obtain ⟨_, hM⟩ := H3.out.getL
  have HC := Lib.hid (cmapLen_ hM H3G.out)
  clear hM
  refine (H3.out.callRead (Sep.framed MapS.framed Emp.framed) (E := fun e => e = .returned (.int .i64 1)) HC.out).mono ?_
  rintro e w4 ⟨rfl, h4⟩
  have H4 := Lib.hid h4
  clear h4
  go_wp2_with fail
  go_ret
  exact ⟨rfl, St.below H4.out⟩
end Go.Proofs.Ythppleegiieneaa
