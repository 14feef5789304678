/- owner: the last loop of OwnerOrders (printed by ownin.py). -/
import Derived.Test.YtdlkblklfoagbaaOwnIn
namespace Go.Proofs.Ytdlkblklfoagbaa
open Go.RowKit
set_option linter.unusedVariables false
set_option linter.unusedSimpArgs false

noncomputable def lastBody : Code := (((Try.f6.body.map loopsOf).getD [])[4]?).getD .skip
set_option maxRecDepth 1000000 in
/-- behind the last loop -/
def LX (sd n : Int) (ds : List DefD) (w : World) (am : Option Addr) (cm bd ga : Nat) (ml : List MSh) (ss0 : List Sh) (mm : List MSh) (ma : Option Addr) (mc : Nat) (took : List ReqD) (tA : Option Addr) (tC : Nat) (rl : List RepD) (pl : List (List PairD)) (gA : Option Addr) (gC : Nat) (ssE : List Sh) (c0 c1 c2 c4 c5 c8 c10 c11 c12 c15 c16 c17 c18 c19 c20 c21 c22 c26 c27 c28 c29 c30 c31 c32 c33 c34 c35 c36 c37 c38 c39 c40 c41 c42 c43 c44 c45 c46 c47 c48 c49 c50 c51 c52 c53 c54 c55 c56 c57 c58 c59 c60 c61 c62 c63 c64 c65 c66 c67 c68 c69 c70 c71 c72 c73 c74 c75 c76 c77 c78 c79 c80 c81 c82 c83 c84 c85 c86 c87 c88 c89 c90 c91 c92 c93 c94 c95 c96 c97 c98 c99 c100 c101 c102 c103 c104 c105 c106 c107 c108 c109 c110 c111 c112 c113 c114 c115 c116 c117 c118 c119 c120 c121 c122 c123 c124 c125 c126 c127 c128 c129 c130 c131 c132 c133 c134 c135 c136 c137 c138 c139 c140 c141 c142 c143 c144 c145 c146 c147 c148 c149 c150 c151 c152 c153 c154 c155 c156 c157 c232 c233 c234 c235 c236 c237 c238 c239 c240 c241 c242 c243 : Value) (a : Act) (w' : World) : Prop :=
  ∃ u6 u23 u24 u25 u158 u159 u160 u161 u162 u163 u164 u165 u166 u167 u168 u169 u170 u171 u172 u173 u174 u175 u176 u177 u178 u179 u180 u181 u182 u183 u184 u185 u186 u187 u188 u189 u190 u191 u192 u193 u194 u195 u196 u197 u198 u199 u200 u201 u202 u203 u204 u205 u206 u207 u208 u209 u210 u211 u212 u213 u214 u215 u216 u217 u218 u219 u220 u221 u222 u223 u224 u225 u226 u227 u228 u229 u230 u231 : Value, Hid (Upd (Sep (MineS (.slice ma mm.length mc) mm (runP ds ss0 (took.take took.length))) (Sep (OwnS ga sd n ml ssE [] false) (Sep (GotS (.slice gA rl.length gC) rl pl) (Sep (fun S w => OwS eReq 37 S w (.slice tA took.length tC) took) (Blk bd (shO sd n (.slice am ds.length cm))))))) (fun _ => False) w w') ∧ a = ⟨(c0 :: c1 :: c2 :: (.pointer (some ⟨bd, 0, none⟩)) :: c4 :: c5 :: u6 :: (.pointer (some ⟨ga, 0, none⟩)) :: c8 :: (.slice ma mm.length mc) :: c10 :: c11 :: c12 :: (.slice tA took.length tC) :: (.slice gA rl.length gC) :: c15 :: c16 :: c17 :: c18 :: c19 :: c20 :: c21 :: c22 :: u23 :: u24 :: u25 :: c26 :: c27 :: c28 :: c29 :: c30 :: c31 :: c32 :: c33 :: c34 :: c35 :: c36 :: c37 :: c38 :: c39 :: c40 :: c41 :: c42 :: c43 :: c44 :: c45 :: c46 :: c47 :: c48 :: c49 :: c50 :: c51 :: c52 :: c53 :: c54 :: c55 :: c56 :: c57 :: c58 :: c59 :: c60 :: c61 :: c62 :: c63 :: c64 :: c65 :: c66 :: c67 :: c68 :: c69 :: c70 :: c71 :: c72 :: c73 :: c74 :: c75 :: c76 :: c77 :: c78 :: c79 :: c80 :: c81 :: c82 :: c83 :: c84 :: c85 :: c86 :: c87 :: c88 :: c89 :: c90 :: c91 :: c92 :: c93 :: c94 :: c95 :: c96 :: c97 :: c98 :: c99 :: c100 :: c101 :: c102 :: c103 :: c104 :: c105 :: c106 :: c107 :: c108 :: c109 :: c110 :: c111 :: c112 :: c113 :: c114 :: c115 :: c116 :: c117 :: c118 :: c119 :: c120 :: c121 :: c122 :: c123 :: c124 :: c125 :: c126 :: c127 :: c128 :: c129 :: c130 :: c131 :: c132 :: c133 :: c134 :: c135 :: c136 :: c137 :: c138 :: c139 :: c140 :: c141 :: c142 :: c143 :: c144 :: c145 :: c146 :: c147 :: c148 :: c149 :: c150 :: c151 :: c152 :: c153 :: c154 :: c155 :: c156 :: c157 :: u158 :: u159 :: u160 :: u161 :: u162 :: u163 :: u164 :: u165 :: u166 :: u167 :: u168 :: u169 :: u170 :: u171 :: u172 :: u173 :: u174 :: u175 :: u176 :: u177 :: u178 :: u179 :: u180 :: u181 :: u182 :: u183 :: u184 :: u185 :: u186 :: u187 :: u188 :: u189 :: u190 :: u191 :: u192 :: u193 :: u194 :: u195 :: u196 :: u197 :: u198 :: u199 :: u200 :: u201 :: u202 :: u203 :: u204 :: u205 :: u206 :: u207 :: u208 :: u209 :: u210 :: u211 :: u212 :: u213 :: u214 :: u215 :: u216 :: u217 :: u218 :: u219 :: u220 :: u221 :: u222 :: u223 :: u224 :: u225 :: u226 :: u227 :: u228 :: u229 :: u230 :: u231 :: c232 :: c233 :: c234 :: c235 :: c236 :: c237 :: c238 :: c239 :: c240 :: c241 :: c242 :: c243 :: []).toArray, []⟩
set_option maxRecDepth 1000000 in
set_option maxHeartbeats 40000000 in
theorem lastL {sd n : Int} {ds : List DefD} {w w7 : World} {am : Option Addr} {cm bd ga : Nat} {ml : List MSh} {ss0 : List Sh} {mm : List MSh} {ma : Option Addr} {mc : Nat} {took : List ReqD} {tA : Option Addr} {tC : Nat} {rl : List RepD} {pl : List (List PairD)} {gA : Option Addr} {gC : Nat} {ssE : List Sh}
    (HOK : Hid (okOwn sd n ds = true)) (HN4 : Hid (n ≤ 4)) (HDS : Hid (ds.length ≤ 4 ∧ (ds.all fun d => okDef d.1 d.2) = true)) (HMA : Hid (ml.map (fun x => x.2) = ds)) (HLA : Hid (ml.length = ds.length)) (HGA : Hid (OGood ml ss0)) (HLM : Hid (mm.length = ds.length)) (HGM : Hid (OGood mm ss0)) (HMM : Hid (mm.map (fun x => x.2) = ds))
    (hll : took.length ≤ 2000) (HFT : Hid (∀ q ∈ took, fitsP sd n ds.length q = true)) (HG : Hid (GotOk ds ss0 took rl pl)) (hgl : rl.length ≤ took.length) (hrl : rl.length ≤ 2001) (HRE : Hid (rl.length = took.length)) (c0 c1 c2 c4 c5 c8 c10 c11 c12 c15 c16 c17 c18 c19 c20 c21 c22 c26 c27 c28 c29 c30 c31 c32 c33 c34 c35 c36 c37 c38 c39 c40 c41 c42 c43 c44 c45 c46 c47 c48 c49 c50 c51 c52 c53 c54 c55 c56 c57 c58 c59 c60 c61 c62 c63 c64 c65 c66 c67 c68 c69 c70 c71 c72 c73 c74 c75 c76 c77 c78 c79 c80 c81 c82 c83 c84 c85 c86 c87 c88 c89 c90 c91 c92 c93 c94 c95 c96 c97 c98 c99 c100 c101 c102 c103 c104 c105 c106 c107 c108 c109 c110 c111 c112 c113 c114 c115 c116 c117 c118 c119 c120 c121 c122 c123 c124 c125 c126 c127 c128 c129 c130 c131 c132 c133 c134 c135 c136 c137 c138 c139 c140 c141 c142 c143 c144 c145 c146 c147 c148 c149 c150 c151 c152 c153 c154 c155 c156 c157 c232 c233 c234 c235 c236 c237 c238 c239 c240 c241 c242 c243 u6 u24 u25 u158 u159 u160 u161 u162 u163 u164 u165 u166 u167 u168 u169 u170 u171 u172 u173 u174 u175 u176 u177 u178 u179 u180 u181 u182 u183 u184 u185 u186 u187 u188 u189 u190 u191 u192 u193 u194 u195 u196 u197 u198 u199 u200 u201 u202 u203 u204 u205 u206 u207 u208 u209 u210 u211 u212 u213 u214 u215 u216 u217 u218 u219 u220 u221 u222 u223 u224 u225 u226 u227 u228 u229 u230 u231 : Value)
    (HV8 : Hid (Upd (Sep (MineS (.slice ma mm.length mc) mm (runP ds ss0 (took.take 0))) (Sep (OwnS ga sd n ml ssE [] false) (Sep (GotS (.slice gA rl.length gC) rl pl) (Sep (fun S w => OwS eReq 37 S w (.slice tA took.length tC) took) (Blk bd (shO sd n (.slice am ds.length cm))))))) (fun _ => False) w w7)) {Q0 : Exit → Act → World → Prop} (hexit : ∀ a w', LX sd n ds w am cm bd ga ml ss0 mm ma mc took tA tC rl pl gA gC ssE c0 c1 c2 c4 c5 c8 c10 c11 c12 c15 c16 c17 c18 c19 c20 c21 c22 c26 c27 c28 c29 c30 c31 c32 c33 c34 c35 c36 c37 c38 c39 c40 c41 c42 c43 c44 c45 c46 c47 c48 c49 c50 c51 c52 c53 c54 c55 c56 c57 c58 c59 c60 c61 c62 c63 c64 c65 c66 c67 c68 c69 c70 c71 c72 c73 c74 c75 c76 c77 c78 c79 c80 c81 c82 c83 c84 c85 c86 c87 c88 c89 c90 c91 c92 c93 c94 c95 c96 c97 c98 c99 c100 c101 c102 c103 c104 c105 c106 c107 c108 c109 c110 c111 c112 c113 c114 c115 c116 c117 c118 c119 c120 c121 c122 c123 c124 c125 c126 c127 c128 c129 c130 c131 c132 c133 c134 c135 c136 c137 c138 c139 c140 c141 c142 c143 c144 c145 c146 c147 c148 c149 c150 c151 c152 c153 c154 c155 c156 c157 c232 c233 c234 c235 c236 c237 c238 c239 c240 c241 c242 c243 a w' → Q0 (.exit 8) a w') :
    Code.wp Try.prog (Code.loop lastBody) Q0 ⟨(c0 :: c1 :: c2 :: (.pointer (some ⟨bd, 0, none⟩)) :: c4 :: c5 :: u6 :: (.pointer (some ⟨ga, 0, none⟩)) :: c8 :: (.slice ma mm.length mc) :: c10 :: c11 :: c12 :: (.slice tA took.length tC) :: (.slice gA rl.length gC) :: c15 :: c16 :: c17 :: c18 :: c19 :: c20 :: c21 :: c22 :: (.int .i64 0) :: u24 :: u25 :: c26 :: c27 :: c28 :: c29 :: c30 :: c31 :: c32 :: c33 :: c34 :: c35 :: c36 :: c37 :: c38 :: c39 :: c40 :: c41 :: c42 :: c43 :: c44 :: c45 :: c46 :: c47 :: c48 :: c49 :: c50 :: c51 :: c52 :: c53 :: c54 :: c55 :: c56 :: c57 :: c58 :: c59 :: c60 :: c61 :: c62 :: c63 :: c64 :: c65 :: c66 :: c67 :: c68 :: c69 :: c70 :: c71 :: c72 :: c73 :: c74 :: c75 :: c76 :: c77 :: c78 :: c79 :: c80 :: c81 :: c82 :: c83 :: c84 :: c85 :: c86 :: c87 :: c88 :: c89 :: c90 :: c91 :: c92 :: c93 :: c94 :: c95 :: c96 :: c97 :: c98 :: c99 :: c100 :: c101 :: c102 :: c103 :: c104 :: c105 :: c106 :: c107 :: c108 :: c109 :: c110 :: c111 :: c112 :: c113 :: c114 :: c115 :: c116 :: c117 :: c118 :: c119 :: c120 :: c121 :: c122 :: c123 :: c124 :: c125 :: c126 :: c127 :: c128 :: c129 :: c130 :: c131 :: c132 :: c133 :: c134 :: c135 :: c136 :: c137 :: c138 :: c139 :: c140 :: c141 :: c142 :: c143 :: c144 :: c145 :: c146 :: c147 :: c148 :: c149 :: c150 :: c151 :: c152 :: c153 :: c154 :: c155 :: c156 :: c157 :: u158 :: u159 :: u160 :: u161 :: u162 :: u163 :: u164 :: u165 :: u166 :: u167 :: u168 :: u169 :: u170 :: u171 :: u172 :: u173 :: u174 :: u175 :: u176 :: u177 :: u178 :: u179 :: u180 :: u181 :: u182 :: u183 :: u184 :: u185 :: u186 :: u187 :: u188 :: u189 :: u190 :: u191 :: u192 :: u193 :: u194 :: u195 :: u196 :: u197 :: u198 :: u199 :: u200 :: u201 :: u202 :: u203 :: u204 :: u205 :: u206 :: u207 :: u208 :: u209 :: u210 :: u211 :: u212 :: u213 :: u214 :: u215 :: u216 :: u217 :: u218 :: u219 :: u220 :: u221 :: u222 :: u223 :: u224 :: u225 :: u226 :: u227 :: u228 :: u229 :: u230 :: u231 :: c232 :: c233 :: c234 :: c235 :: c236 :: c237 :: c238 :: c239 :: c240 :: c241 :: c242 :: c243 :: []).toArray, []⟩ w7 := by
  conv => arg 2; arg 1; whnf
  go_loopw [23, 24, 25] (fun t23 _ _ wr => ∃ i : Nat, i ≤ took.length ∧ t23 = .int .i64 i ∧ Hid (Upd (Sep (MineS (.slice ma mm.length mc) mm (runP ds ss0 (took.take i))) (Sep (OwnS ga sd n ml ssE [] false) (Sep (GotS (.slice gA rl.length gC) rl pl) (Sep (fun S w => OwS eReq 37 S w (.slice tA took.length tC) took) (Blk bd (shO sd n (.slice am ds.length cm))))))) (fun _ => False) w wr)) (fun t23 _ _ _ => took.length - (intOf t23).toNat)
  case atStart => exact ⟨0, Nat.zero_le _, rfl, HV8⟩
  case round => 
    clear HV8
    obtain ⟨i, hi, rfl, V⟩ := hrel
    by_cases hlt : i < took.length
    · obtain ⟨_, hz⟩ := V.out.getR
      have hgot := (hz.right (Sep.framed GotS.framed (Sep.framed OwS.framed Blk.framed))).left GotS.framed
      have htk := ((hz.right (Sep.framed GotS.framed (Sep.framed OwS.framed Blk.framed))).right (Sep.framed OwS.framed Blk.framed)).left OwS.framed
      have hir : i < rl.length := by rw [HRE.out]; exact hlt
      have hip : i < pl.length := by rw [← hgot.2.1]; exact hir
      obtain ⟨a1, a2, a3⟩ := HG.out.at_ i hir hip hlt
      have HRT := Lib.hid (runP_take ds ss0 took i hlt)
      have HFQ := Lib.hid (HFT.out _ (List.getElem_mem hlt))
      obtain ⟨tb, tof, rfl, HTC⟩ := all_slot htk.rd i hlt
      obtain ⟨gb, go, rfl, HGC⟩ := rep_slot hgot.1.rd i hir
      have HPR := Lib.hid (show ∀ T W, GotS (.slice (some ⟨gb, go, none⟩) rl.length gC) rl pl T W → Rd ePair W (.slice rl[i].2.2.1 rl[i].2.2.2.1 rl[i].2.2.2.2) pl[i] from fun T W h => (h.2.2 i hir hip).rd)
      have hqc := HTC.out _ htk.rd
      obtain ⟨_, hzm⟩ := V.out.getL
      have HGi := Lib.hid (show OGood mm (runP ds ss0 (took.take i)) by have := runP_good HGM.out (took.take i); rwa [HMM.out] at this)
      clear hgot htk hz
      generalize took[i] = q at *
      generalize pl[i] = ps at *
      generalize rl[i] = x at *
      obtain ⟨xq, ⟨x0, x1, x2, x3, x4, x5⟩, ⟨pa, pn, pc⟩⟩ := x
      dsimp only at a1 a2 HGC HPR
      subst a1
      obtain ⟨fr, tg, wk, mp, op, dk, dv⟩ := xq
      have HMQ : 0 ≤ mp ∧ mp < ds.length := by have := HFQ.out; unfold fitsP at this; simp only [Bool.and_eq_true, decide_eq_true_eq] at this; exact this.1
      obtain ⟨j, rfl⟩ : ∃ j : Nat, mp = (j : Int) := ⟨mp.toNat, by omega⟩
      have hjd : j < ds.length := by omega
      have hjm : j < mm.length := by rw [HLM.out]; exact hjd
      generalize runP ds ss0 (took.take i) = ssi at *
      have hjs : j < ssi.length := by rw [← HGi.out.len]; exact hjm
      have HDJ := Lib.hid (show mm[j].2 = ds[j] by simp [← HMM.out])
      have HBM := Lib.hid (HGi.out.bd _ (List.getElem_mem hjm))
      obtain ⟨mb, mo, rfl, -⟩ := hzm.slot hjm
      have HSM := Lib.hid (show ∀ ss2 T W, MineS (.slice (some ⟨mb, mo, none⟩) mm.length mc) mm ss2 T W → W.cell? ⟨mb, mo + j, none⟩ = some mm[j].1.val from fun ss2 T W h => by
        obtain ⟨mb', mo', he, hc⟩ := h.slot hjm
        obtain ⟨rfl, rfl⟩ : mb = mb' ∧ mo = mo' := by simpa using he
        exact hc)
      obtain ⟨q0, q1, q2, q3, q4, q5, q6⟩ := hqc
      dsimp only at q0 q1 q2 q3 q4 q5 q6
      have hltb : tb < wr.heap.size := World.block_lt_of_cell? wr _ q0
      have hlmb : mb < wr.heap.size := World.block_lt_of_cell? wr _ (HSM.out _ _ _ hzm)
      have hm1 : ¬ (j : Int) < 0 := by omega
      have hm2 : ¬ (mm.length : Int) ≤ (j : Int) := by omega
      have hj0 : (0 : Int) ≤ (j : Int) := by omega
      have hj1 : (j : Int) < (mm.length : Int) := by omega
      have hi0 : (0 : Int) ≤ (i : Int) := by omega
      have hi1 : (i : Int) < (took.length : Int) := by omega
      have hi2 : (i : Int) < (rl.length : Int) := by omega
      cases wk with
      | true =>
        have HWK := Lib.hid (show true = true → (x0, x1, x2, x3, x4, x5) = zR ∧ ssi[j].1 = ps ∧ (stepP ds ssi (fr, tg, true, (j : Int), op, dk, dv)).2.2 = ssi from fun _ => by
          unfold stepP at a2 a3 ⊢
          simp only [Int.toNat_natCast, List.getElem?_eq_getElem hjs, List.getElem?_eq_getElem hjd, if_true] at a2 a3 ⊢
          exact ⟨a2.symm, a3, trivial⟩)
        clear a2 a3
        cases hai : mm[j].1 with
        | plain b => 
          have HGj := Lib.hid (show SGood false mm[j].2.2 ssi[j] by have := HGi.out.good j hjm hjs; rw [hai] at this; exact this)
          have HCM := Lib.hid (show ∀ ss2 T W, MineS (.slice (some ⟨mb, mo, none⟩) mm.length mc) mm ss2 T W → W.cell? ⟨mb, mo + j, none⟩ = some (.iface 96 (.pointer (some ⟨b, 0, none⟩))) from fun ss2 T W h => by
            have := HSM.out ss2 T W h
            rw [hai] at this
            exact this)
          have HAT := Lib.hid (show ∀ T W, MineS (.slice (some ⟨mb, mo, none⟩) mm.length mc) mm ssi T W → ∃ A, ShardS (.plain b) mm[j].2.2 ssi[j] A W ∧ ∀ s' w', Upd (ShardS (.plain b) mm[j].2.2 s') A W w' → Upd (MineS (.slice (some ⟨mb, mo, none⟩) mm.length mc) mm (ssi.set j s')) T W w' from fun T W h => by
            have := h.at j hjm hjs
            rwa [hai] at this)
          have cmm := HCM.out _ _ _ hzm
          have hcm := cm_book_pairs b
          obtain ⟨hr0, hps, hsn⟩ := HWK.out rfl
          simp only [Prod.mk.injEq] at hr0
          obtain ⟨rfl, rfl, rfl, rfl, rfl, rfl⟩ := hr0
          subst hps
          clear hai hzm
          go_wp2_with fail
          have HL2 := Lib.hid (st_two (B := (reqO fr tg true j op dk dv)) (C := (repO fr tg true j op dk dv 0 false 0 false 0 0 (.slice none 0 0))) (Sep.framed MineS.framed (Sep.framed OwnS.framed (Sep.framed GotS.framed (Sep.framed OwS.framed Blk.framed)))) V.out)
          have HNE := Lib.hid (show wr.heap.size ≠ wr.heap.size + 1 by omega)
          generalize World.alloc (World.alloc wr _) _ = wl at *
          generalize wr.heap.size + 1 = wb at *
          generalize wr.heap.size = qb at *
          obtain ⟨_, hP0⟩ := HL2.out.getL
          obtain ⟨_, hB, -⟩ := HAT.out _ _ (hP0.left MineS.framed)
          refine (HL2.out.callNew (Sep.framed (Sep.framed MineS.framed (Sep.framed OwnS.framed (Sep.framed GotS.framed (Sep.framed OwS.framed Blk.framed)))) Locs.framed) (Yx := fun v S w => OwS ePair 50 S w v ssi[j].1) (E := fun v e => e = .returned v) (fun _ => OwS.framed) (shPairs_plain hB HGj.out)).mono ?_
          rintro e w1 ⟨vp, rfl, hN⟩
          obtain ⟨va, wn, vc, rfl⟩ : ∃ va wn vc, vp = .slice va wn vc := by
            obtain ⟨_, h⟩ := hN.getR
            obtain ⟨a, b, c, h⟩ := h.shape'
            exact ⟨a, b, c, h⟩
          have HN := Lib.hid (show Upd (Sep (Sep (Sep (MineS (.slice (some ⟨mb, mo, none⟩) mm.length mc) mm ssi) (Sep (OwnS ga sd n ml ssE [] false) (Sep (GotS (.slice (some ⟨gb, go, none⟩) rl.length gC) rl pl) (Sep (fun S w => OwS eReq 37 S w (.slice (some ⟨tb, tof, none⟩) took.length tC) took) (Blk bd (shO sd n (.slice am ds.length cm))))))) (fun S w => OwS ePair 50 S w (.slice va wn vc) ssi[j].1)) (Locs [(wb, (repO fr tg true j op dk dv 0 false 0 false 0 0 (.slice none 0 0))), (qb, (reqO fr tg true j op dk dv))])) (fun _ => False) w w1 from hN.imp fun _ h => (h.assoc.imp (fun _ h => h) fun _ h => h.swap).assoc')
          have hpb := HN.out.get (g := wb) (List.mem_cons_self ..)
          have c13 : w1.cell? ⟨wb, 13, none⟩ = some (.slice none 0 0) := blk_cell hpb 13
          have f13 := frozen_of_row w1 wb 13 _ _ hpb
          have HN2 := Lib.hid (locs_two' (C' := (repO fr tg true j op dk dv 0 false 0 false 0 0 (.slice va wn vc))) (Sep.framed (Sep.framed MineS.framed (Sep.framed OwnS.framed (Sep.framed GotS.framed (Sep.framed OwS.framed Blk.framed)))) OwS.framed) HN.out HNE.out (Only.setCell (fun k => k = wb) w1 wb 13 (.slice va wn vc) rfl) (blk_set hpb 13 _))
          have HPS := Lib.hid (show True from trivial)
          clear hN hP0 hB hpb HL2 HN V
          go_wp2_with fail
          generalize World.setCell w1 _ _ = ws at *
          clear c13 f13
          have HK47 := Lib.hid (show ∀ W, Upd (Sep (Sep (Sep (MineS (.slice (some ⟨mb, mo, none⟩) mm.length mc) mm ssi) (Sep (OwnS ga sd n ml ssE [] false) (Sep (GotS (.slice (some ⟨gb, go, none⟩) rl.length gC) rl pl) (Sep (fun S w => OwS eReq 37 S w (.slice (some ⟨tb, tof, none⟩) took.length tC) took) (Blk bd (shO sd n (.slice am ds.length cm))))))) (fun S w => OwS ePair 50 S w (.slice va wn vc) ssi[j].1)) (Locs [(wb, (repO fr tg true j op dk dv 0 false 0 false 0 0 (.slice va wn vc))), (qb, (reqO fr tg true j op dk dv))])) (fun _ => False) w W → ((W.cell? ⟨gb, go + i * 14, none⟩ = some (.int .i64 fr) ∧ W.cell? ⟨gb, go + i * 14 + 1, none⟩ = some (.int .i64 tg) ∧ W.cell? ⟨gb, go + i * 14 + 2, none⟩ = some (.bool true) ∧ W.cell? ⟨gb, go + i * 14 + 3, none⟩ = some (.int .i64 (j : Int)) ∧ W.cell? ⟨gb, go + i * 14 + 4, none⟩ = some (.int .i64 op) ∧ W.cell? ⟨gb, go + i * 14 + 5, none⟩ = some (.int .u64 dk) ∧ W.cell? ⟨gb, go + i * 14 + 6, none⟩ = some (.int .u64 dv) ∧ W.cell? ⟨gb, go + i * 14 + 7, none⟩ = some (.int .i64 0) ∧ W.cell? ⟨gb, go + i * 14 + 8, none⟩ = some (.bool false) ∧ W.cell? ⟨gb, go + i * 14 + 9, none⟩ = some (.int .u64 0) ∧ W.cell? ⟨gb, go + i * 14 + 10, none⟩ = some (.bool false) ∧ W.cell? ⟨gb, go + i * 14 + 11, none⟩ = some (.int .u64 0) ∧ W.cell? ⟨gb, go + i * 14 + 12, none⟩ = some (.int .u64 0) ∧ W.cell? ⟨gb, go + i * 14 + 13, none⟩ = some (.slice pa pn pc)) ∧ W.cell? ⟨wb, 0, none⟩ = some (.int .i64 fr) ∧ W.cell? ⟨wb, 1, none⟩ = some (.int .i64 tg) ∧ W.cell? ⟨wb, 2, none⟩ = some (.bool true) ∧ W.cell? ⟨wb, 3, none⟩ = some (.int .i64 (j : Int)) ∧ W.cell? ⟨wb, 4, none⟩ = some (.int .i64 op) ∧ W.cell? ⟨wb, 5, none⟩ = some (.int .u64 dk) ∧ W.cell? ⟨wb, 6, none⟩ = some (.int .u64 dv) ∧ W.cell? ⟨wb, 7, none⟩ = some (.int .i64 0) ∧ W.cell? ⟨wb, 8, none⟩ = some (.bool false) ∧ W.cell? ⟨wb, 9, none⟩ = some (.int .u64 0) ∧ W.cell? ⟨wb, 10, none⟩ = some (.bool false) ∧ W.cell? ⟨wb, 11, none⟩ = some (.int .u64 0) ∧ W.cell? ⟨wb, 12, none⟩ = some (.int .u64 0) ∧ W.cell? ⟨wb, 13, none⟩ = some (.slice va wn vc)) from fun W h => by
            obtain ⟨_, hp⟩ := h.getL
            have hw := h.get (g := wb) (List.mem_cons_self ..)
            have hg := HGC.out W ((((hp.left (Sep.framed MineS.framed (Sep.framed OwnS.framed (Sep.framed GotS.framed (Sep.framed OwS.framed Blk.framed))))).right (Sep.framed OwnS.framed (Sep.framed GotS.framed (Sep.framed OwS.framed Blk.framed)))).right (Sep.framed GotS.framed (Sep.framed OwS.framed Blk.framed))).left GotS.framed).1.rd
            exact ⟨hg, blk_cell hw 0, blk_cell hw 1, blk_cell hw 2, blk_cell hw 3, blk_cell hw 4, blk_cell hw 5, blk_cell hw 6, blk_cell hw 7, blk_cell hw 8, blk_cell hw 9, blk_cell hw 10, blk_cell hw 11, blk_cell hw 12, blk_cell hw 13⟩)
          have HAK := Lib.hid (show ∀ W, Upd (Sep (Sep (Sep (MineS (.slice (some ⟨mb, mo, none⟩) mm.length mc) mm ssi) (Sep (OwnS ga sd n ml ssE [] false) (Sep (GotS (.slice (some ⟨gb, go, none⟩) rl.length gC) rl pl) (Sep (fun S w => OwS eReq 37 S w (.slice (some ⟨tb, tof, none⟩) took.length tC) took) (Blk bd (shO sd n (.slice am ds.length cm))))))) (fun S w => OwS ePair 50 S w (.slice va wn vc) ssi[j].1)) (Locs [(wb, (repO fr tg true j op dk dv 0 false 0 false 0 0 (.slice va wn vc))), (qb, (reqO fr tg true j op dk dv))])) (fun _ => False) w W → Calls Try.prog 15 #[repV (fr, tg, true, (j : Int), op, dk, dv) (0, false, 0, false, 0, 0) (.slice pa pn pc), repV (fr, tg, true, (j : Int), op, dk, dv) (0, false, 0, false, 0, 0) (.slice va wn vc)] W fun e w' => e = .returned (.bool true) ∧ Only (fun _ => False) W w' from fun W h => by
            obtain ⟨_, hp⟩ := h.getL
            exact alike_eq _ _ _ _ _ _ (HPR.out _ _ ((((hp.left (Sep.framed MineS.framed (Sep.framed OwnS.framed (Sep.framed GotS.framed (Sep.framed OwS.framed Blk.framed))))).right (Sep.framed OwnS.framed (Sep.framed GotS.framed (Sep.framed OwS.framed Blk.framed)))).right (Sep.framed GotS.framed (Sep.framed OwS.framed Blk.framed))).left GotS.framed)) (hp.right OwS.framed).rd)
          refine wp_region_noPanic ?_
          have HZ := Lib.hid (HN2.out.drewU (Sep.framed (Sep.framed (Sep.framed MineS.framed (Sep.framed OwnS.framed (Sep.framed GotS.framed (Sep.framed OwS.framed Blk.framed)))) OwS.framed) Locs.framed))
          refine wp_region_noPanic ?_
          refine wp_region_held_drew (S := fun W => (W.cell? ⟨gb, go + i * 14, none⟩ = some (.int .i64 fr) ∧ W.cell? ⟨gb, go + i * 14 + 1, none⟩ = some (.int .i64 tg) ∧ W.cell? ⟨gb, go + i * 14 + 2, none⟩ = some (.bool true) ∧ W.cell? ⟨gb, go + i * 14 + 3, none⟩ = some (.int .i64 (j : Int)) ∧ W.cell? ⟨gb, go + i * 14 + 4, none⟩ = some (.int .i64 op) ∧ W.cell? ⟨gb, go + i * 14 + 5, none⟩ = some (.int .u64 dk) ∧ W.cell? ⟨gb, go + i * 14 + 6, none⟩ = some (.int .u64 dv) ∧ W.cell? ⟨gb, go + i * 14 + 7, none⟩ = some (.int .i64 0) ∧ W.cell? ⟨gb, go + i * 14 + 8, none⟩ = some (.bool false) ∧ W.cell? ⟨gb, go + i * 14 + 9, none⟩ = some (.int .u64 0) ∧ W.cell? ⟨gb, go + i * 14 + 10, none⟩ = some (.bool false) ∧ W.cell? ⟨gb, go + i * 14 + 11, none⟩ = some (.int .u64 0) ∧ W.cell? ⟨gb, go + i * 14 + 12, none⟩ = some (.int .u64 0) ∧ W.cell? ⟨gb, go + i * 14 + 13, none⟩ = some (.slice pa pn pc)) ∧ W.cell? ⟨wb, 0, none⟩ = some (.int .i64 fr) ∧ W.cell? ⟨wb, 1, none⟩ = some (.int .i64 tg) ∧ W.cell? ⟨wb, 2, none⟩ = some (.bool true) ∧ W.cell? ⟨wb, 3, none⟩ = some (.int .i64 (j : Int)) ∧ W.cell? ⟨wb, 4, none⟩ = some (.int .i64 op) ∧ W.cell? ⟨wb, 5, none⟩ = some (.int .u64 dk) ∧ W.cell? ⟨wb, 6, none⟩ = some (.int .u64 dv) ∧ W.cell? ⟨wb, 7, none⟩ = some (.int .i64 0) ∧ W.cell? ⟨wb, 8, none⟩ = some (.bool false) ∧ W.cell? ⟨wb, 9, none⟩ = some (.int .u64 0) ∧ W.cell? ⟨wb, 10, none⟩ = some (.bool false) ∧ W.cell? ⟨wb, 11, none⟩ = some (.int .u64 0) ∧ W.cell? ⟨wb, 12, none⟩ = some (.int .u64 0) ∧ W.cell? ⟨wb, 13, none⟩ = some (.slice va wn vc)) (by kernel_rfl) ?_ (fun hHeld => ?_)
          · exact (HK47.out _ HZ.out)
          try simp only [Act.put, List.getElem_toArray, List.getElem_cons_succ, List.getElem_cons_zero, List.setIfInBounds_toArray, List.set_cons_zero, List.set_cons_succ]
          refine wpAnyH_take (i := 0) (v := ?vwpz0) rfl (by kernel_rfl) (by kernel_rfl) (by kernel_rfl) (fun _ _ _ h => h) (Or.inl ⟨by rfl, ?hywpz0⟩) (by assumption) ?restwpz0
          case hywpz0 =>
            intro w hSw
            try dsimp only at hSw
            go_simp
            all_goals with_reducible rfl
          simp only [Act.put, List.getElem_toArray, List.getElem_cons_succ, List.getElem_cons_zero, List.setIfInBounds_toArray, List.set_cons_zero, List.set_cons_succ]
          refine wpAnyH_take (i := 1) (v := ?vwpz1) rfl (by kernel_rfl) (by kernel_rfl) (by kernel_rfl) (fun _ _ _ h => h) (Or.inl ⟨by rfl, ?hywpz1⟩) (by assumption) ?restwpz1
          case hywpz1 =>
            intro w hSw
            try dsimp only at hSw
            go_simp
            all_goals with_reducible rfl
          simp only [Act.put, List.getElem_toArray, List.getElem_cons_succ, List.getElem_cons_zero, List.setIfInBounds_toArray, List.set_cons_zero, List.set_cons_succ]
          refine wpAnyH_take (i := 2) (v := ?vwpz2) rfl (by kernel_rfl) (by kernel_rfl) (by kernel_rfl) (fun _ _ _ h => h) (Or.inl ⟨by rfl, ?hywpz2⟩) (by assumption) ?restwpz2
          case hywpz2 =>
            intro w hSw
            try dsimp only at hSw
            go_simp
            all_goals with_reducible rfl
          simp only [Act.put, List.getElem_toArray, List.getElem_cons_succ, List.getElem_cons_zero, List.setIfInBounds_toArray, List.set_cons_zero, List.set_cons_succ]
          refine wpAnyH_take (i := 3) (v := ?vwpz3) rfl (by kernel_rfl) (by kernel_rfl) (by kernel_rfl) (fun _ _ _ h => h) (Or.inl ⟨by rfl, ?hywpz3⟩) (by assumption) ?restwpz3
          case hywpz3 =>
            intro w hSw
            try dsimp only at hSw
            go_simp
            all_goals with_reducible rfl
          simp only [Act.put, List.getElem_toArray, List.getElem_cons_succ, List.getElem_cons_zero, List.setIfInBounds_toArray, List.set_cons_zero, List.set_cons_succ]
          refine wpAnyH_take (i := 4) (v := ?vwpz4) rfl (by kernel_rfl) (by kernel_rfl) (by kernel_rfl) (fun _ _ _ h => h) (Or.inl ⟨by rfl, ?hywpz4⟩) (by assumption) ?restwpz4
          case hywpz4 =>
            intro w hSw
            try dsimp only at hSw
            go_simp
            all_goals with_reducible rfl
          simp only [Act.put, List.getElem_toArray, List.getElem_cons_succ, List.getElem_cons_zero, List.setIfInBounds_toArray, List.set_cons_zero, List.set_cons_succ]
          refine wpAnyH_ready (rs := [5]) (by kernel_rfl) (by simp) ?_
          refine AllReadyH.cons rfl (fun K hK => ?_) AllReadyH.nil
          go_simp
          refine (HZ.out.callRead (Sep.framed (Sep.framed (Sep.framed MineS.framed (Sep.framed OwnS.framed (Sep.framed GotS.framed (Sep.framed OwS.framed Blk.framed)))) OwS.framed) Locs.framed) (E := fun e => e = .returned (.bool true)) (HAK.out _ HZ.out)).mono ?_
          rintro e wz2 ⟨rfl, hz2⟩
          have HZ2 := Lib.hid hz2
          clear hz2
          try go_wp2_with fail
          refine hK.out _ _ ?_ (fun hHeld => ?_)
          · exact (HK47.out _ HZ2.out)
          clear hK K
          try simp only [Act.put, List.getElem_toArray, List.getElem_cons_succ, List.getElem_cons_zero, List.setIfInBounds_toArray, List.set_cons_zero, List.set_cons_succ]
          refine wpAnyH_take (i := 6) (v := ?vwpz6) rfl (by kernel_rfl) (by kernel_rfl) (by kernel_rfl) (fun _ _ _ h => h) (Or.inl ⟨by rfl, ?hywpz6⟩) (by assumption) ?restwpz6
          case hywpz6 =>
            intro w hSw
            try dsimp only at hSw
            go_simp
            all_goals with_reducible rfl
          simp only [Act.put, List.getElem_toArray, List.getElem_cons_succ, List.getElem_cons_zero, List.setIfInBounds_toArray, List.set_cons_zero, List.set_cons_succ]
          clear hHeld
          refine wpAnyH_done (by kernel_rfl) ?_ _
          refine NoPanic.normal ?_
          refine NoPanic.normal ?_
          go_wp2_with fail
          have HZ3 := Lib.hid (HZ2.out.imp fun _ h => (h.left (Sep.framed (Sep.framed MineS.framed (Sep.framed OwnS.framed (Sep.framed GotS.framed (Sep.framed OwS.framed Blk.framed)))) OwS.framed)).left (Sep.framed MineS.framed (Sep.framed OwnS.framed (Sep.framed GotS.framed (Sep.framed OwS.framed Blk.framed)))))
          refine ⟨⟨i + 1, by omega, by simp, ?_⟩, ?_⟩
          · rw [HRT.out, hsn]; exact HZ3
          · first | omega | (simp only [intOf]; omega)
        | bound b0 b => 
          have HGj := Lib.hid (show SGood true mm[j].2.2 ssi[j] by have := HGi.out.good j hjm hjs; rw [hai] at this; exact this)
          have HCM := Lib.hid (show ∀ ss2 T W, MineS (.slice (some ⟨mb, mo, none⟩) mm.length mc) mm ss2 T W → W.cell? ⟨mb, mo + j, none⟩ = some (.iface 99 (.pointer (some ⟨b0, 0, none⟩))) from fun ss2 T W h => by
            have := HSM.out ss2 T W h
            rw [hai] at this
            exact this)
          have HAT := Lib.hid (show ∀ T W, MineS (.slice (some ⟨mb, mo, none⟩) mm.length mc) mm ssi T W → ∃ A, ShardS (.bound b0 b) mm[j].2.2 ssi[j] A W ∧ ∀ s' w', Upd (ShardS (.bound b0 b) mm[j].2.2 s') A W w' → Upd (MineS (.slice (some ⟨mb, mo, none⟩) mm.length mc) mm (ssi.set j s')) T W w' from fun T W h => by
            have := h.at j hjm hjs
            rwa [hai] at this)
          have cmm := HCM.out _ _ _ hzm
          obtain ⟨hr0, hps, hsn⟩ := HWK.out rfl
          simp only [Prod.mk.injEq] at hr0
          obtain ⟨rfl, rfl, rfl, rfl, rfl, rfl⟩ := hr0
          subst hps
          clear hai hzm
          go_wp2_with fail
          have hptr : ((wr.alloc (reqO fr tg true j op dk dv)).alloc (repO fr tg true j op dk dv 0 false 0 false 0 0 (.slice none 0 0))).cell? ⟨b0, 0, none⟩ = some (.pointer (some ⟨b, 0, none⟩)) := by
            obtain ⟨_, hm⟩ := V.out.getL
            obtain ⟨_, hB, -⟩ := HAT.out _ _ hm
            exact only_cell ((Only.alloc (fun _ => False) wr _).tr (Only.alloc (fun _ => False) _ _)) hB.ptr
          rw [cm_lru_n b0 b _ hptr "Pairs" 58 (by kernel_rfl) (by kernel_rfl)]
          go_wp2_with fail
          clear hptr
          have HL2 := Lib.hid (st_two (B := (reqO fr tg true j op dk dv)) (C := (repO fr tg true j op dk dv 0 false 0 false 0 0 (.slice none 0 0))) (Sep.framed MineS.framed (Sep.framed OwnS.framed (Sep.framed GotS.framed (Sep.framed OwS.framed Blk.framed)))) V.out)
          have HNE := Lib.hid (show wr.heap.size ≠ wr.heap.size + 1 by omega)
          generalize World.alloc (World.alloc wr _) _ = wl at *
          generalize wr.heap.size + 1 = wb at *
          generalize wr.heap.size = qb at *
          obtain ⟨_, hP0⟩ := HL2.out.getL
          obtain ⟨_, hB, -⟩ := HAT.out _ _ (hP0.left MineS.framed)
          refine (HL2.out.callNew (Sep.framed (Sep.framed MineS.framed (Sep.framed OwnS.framed (Sep.framed GotS.framed (Sep.framed OwS.framed Blk.framed)))) Locs.framed) (Yx := fun v S w => OwS ePair 50 S w v ssi[j].1) (E := fun v e => e = .returned v) (fun _ => OwS.framed) (shPairs_bound hB HGj.out)).mono ?_
          rintro e w1 ⟨vp, rfl, hN⟩
          obtain ⟨va, wn, vc, rfl⟩ : ∃ va wn vc, vp = .slice va wn vc := by
            obtain ⟨_, h⟩ := hN.getR
            obtain ⟨a, b, c, h⟩ := h.shape'
            exact ⟨a, b, c, h⟩
          have HN := Lib.hid (show Upd (Sep (Sep (Sep (MineS (.slice (some ⟨mb, mo, none⟩) mm.length mc) mm ssi) (Sep (OwnS ga sd n ml ssE [] false) (Sep (GotS (.slice (some ⟨gb, go, none⟩) rl.length gC) rl pl) (Sep (fun S w => OwS eReq 37 S w (.slice (some ⟨tb, tof, none⟩) took.length tC) took) (Blk bd (shO sd n (.slice am ds.length cm))))))) (fun S w => OwS ePair 50 S w (.slice va wn vc) ssi[j].1)) (Locs [(wb, (repO fr tg true j op dk dv 0 false 0 false 0 0 (.slice none 0 0))), (qb, (reqO fr tg true j op dk dv))])) (fun _ => False) w w1 from hN.imp fun _ h => (h.assoc.imp (fun _ h => h) fun _ h => h.swap).assoc')
          have hpb := HN.out.get (g := wb) (List.mem_cons_self ..)
          have c13 : w1.cell? ⟨wb, 13, none⟩ = some (.slice none 0 0) := blk_cell hpb 13
          have f13 := frozen_of_row w1 wb 13 _ _ hpb
          have HN2 := Lib.hid (locs_two' (C' := (repO fr tg true j op dk dv 0 false 0 false 0 0 (.slice va wn vc))) (Sep.framed (Sep.framed MineS.framed (Sep.framed OwnS.framed (Sep.framed GotS.framed (Sep.framed OwS.framed Blk.framed)))) OwS.framed) HN.out HNE.out (Only.setCell (fun k => k = wb) w1 wb 13 (.slice va wn vc) rfl) (blk_set hpb 13 _))
          have HPS := Lib.hid (show True from trivial)
          clear hN hP0 hB hpb HL2 HN V
          go_wp2_with fail
          generalize World.setCell w1 _ _ = ws at *
          clear c13 f13
          have HK47 := Lib.hid (show ∀ W, Upd (Sep (Sep (Sep (MineS (.slice (some ⟨mb, mo, none⟩) mm.length mc) mm ssi) (Sep (OwnS ga sd n ml ssE [] false) (Sep (GotS (.slice (some ⟨gb, go, none⟩) rl.length gC) rl pl) (Sep (fun S w => OwS eReq 37 S w (.slice (some ⟨tb, tof, none⟩) took.length tC) took) (Blk bd (shO sd n (.slice am ds.length cm))))))) (fun S w => OwS ePair 50 S w (.slice va wn vc) ssi[j].1)) (Locs [(wb, (repO fr tg true j op dk dv 0 false 0 false 0 0 (.slice va wn vc))), (qb, (reqO fr tg true j op dk dv))])) (fun _ => False) w W → ((W.cell? ⟨gb, go + i * 14, none⟩ = some (.int .i64 fr) ∧ W.cell? ⟨gb, go + i * 14 + 1, none⟩ = some (.int .i64 tg) ∧ W.cell? ⟨gb, go + i * 14 + 2, none⟩ = some (.bool true) ∧ W.cell? ⟨gb, go + i * 14 + 3, none⟩ = some (.int .i64 (j : Int)) ∧ W.cell? ⟨gb, go + i * 14 + 4, none⟩ = some (.int .i64 op) ∧ W.cell? ⟨gb, go + i * 14 + 5, none⟩ = some (.int .u64 dk) ∧ W.cell? ⟨gb, go + i * 14 + 6, none⟩ = some (.int .u64 dv) ∧ W.cell? ⟨gb, go + i * 14 + 7, none⟩ = some (.int .i64 0) ∧ W.cell? ⟨gb, go + i * 14 + 8, none⟩ = some (.bool false) ∧ W.cell? ⟨gb, go + i * 14 + 9, none⟩ = some (.int .u64 0) ∧ W.cell? ⟨gb, go + i * 14 + 10, none⟩ = some (.bool false) ∧ W.cell? ⟨gb, go + i * 14 + 11, none⟩ = some (.int .u64 0) ∧ W.cell? ⟨gb, go + i * 14 + 12, none⟩ = some (.int .u64 0) ∧ W.cell? ⟨gb, go + i * 14 + 13, none⟩ = some (.slice pa pn pc)) ∧ W.cell? ⟨wb, 0, none⟩ = some (.int .i64 fr) ∧ W.cell? ⟨wb, 1, none⟩ = some (.int .i64 tg) ∧ W.cell? ⟨wb, 2, none⟩ = some (.bool true) ∧ W.cell? ⟨wb, 3, none⟩ = some (.int .i64 (j : Int)) ∧ W.cell? ⟨wb, 4, none⟩ = some (.int .i64 op) ∧ W.cell? ⟨wb, 5, none⟩ = some (.int .u64 dk) ∧ W.cell? ⟨wb, 6, none⟩ = some (.int .u64 dv) ∧ W.cell? ⟨wb, 7, none⟩ = some (.int .i64 0) ∧ W.cell? ⟨wb, 8, none⟩ = some (.bool false) ∧ W.cell? ⟨wb, 9, none⟩ = some (.int .u64 0) ∧ W.cell? ⟨wb, 10, none⟩ = some (.bool false) ∧ W.cell? ⟨wb, 11, none⟩ = some (.int .u64 0) ∧ W.cell? ⟨wb, 12, none⟩ = some (.int .u64 0) ∧ W.cell? ⟨wb, 13, none⟩ = some (.slice va wn vc)) from fun W h => by
            obtain ⟨_, hp⟩ := h.getL
            have hw := h.get (g := wb) (List.mem_cons_self ..)
            have hg := HGC.out W ((((hp.left (Sep.framed MineS.framed (Sep.framed OwnS.framed (Sep.framed GotS.framed (Sep.framed OwS.framed Blk.framed))))).right (Sep.framed OwnS.framed (Sep.framed GotS.framed (Sep.framed OwS.framed Blk.framed)))).right (Sep.framed GotS.framed (Sep.framed OwS.framed Blk.framed))).left GotS.framed).1.rd
            exact ⟨hg, blk_cell hw 0, blk_cell hw 1, blk_cell hw 2, blk_cell hw 3, blk_cell hw 4, blk_cell hw 5, blk_cell hw 6, blk_cell hw 7, blk_cell hw 8, blk_cell hw 9, blk_cell hw 10, blk_cell hw 11, blk_cell hw 12, blk_cell hw 13⟩)
          have HAK := Lib.hid (show ∀ W, Upd (Sep (Sep (Sep (MineS (.slice (some ⟨mb, mo, none⟩) mm.length mc) mm ssi) (Sep (OwnS ga sd n ml ssE [] false) (Sep (GotS (.slice (some ⟨gb, go, none⟩) rl.length gC) rl pl) (Sep (fun S w => OwS eReq 37 S w (.slice (some ⟨tb, tof, none⟩) took.length tC) took) (Blk bd (shO sd n (.slice am ds.length cm))))))) (fun S w => OwS ePair 50 S w (.slice va wn vc) ssi[j].1)) (Locs [(wb, (repO fr tg true j op dk dv 0 false 0 false 0 0 (.slice va wn vc))), (qb, (reqO fr tg true j op dk dv))])) (fun _ => False) w W → Calls Try.prog 15 #[repV (fr, tg, true, (j : Int), op, dk, dv) (0, false, 0, false, 0, 0) (.slice pa pn pc), repV (fr, tg, true, (j : Int), op, dk, dv) (0, false, 0, false, 0, 0) (.slice va wn vc)] W fun e w' => e = .returned (.bool true) ∧ Only (fun _ => False) W w' from fun W h => by
            obtain ⟨_, hp⟩ := h.getL
            exact alike_eq _ _ _ _ _ _ (HPR.out _ _ ((((hp.left (Sep.framed MineS.framed (Sep.framed OwnS.framed (Sep.framed GotS.framed (Sep.framed OwS.framed Blk.framed))))).right (Sep.framed OwnS.framed (Sep.framed GotS.framed (Sep.framed OwS.framed Blk.framed)))).right (Sep.framed GotS.framed (Sep.framed OwS.framed Blk.framed))).left GotS.framed)) (hp.right OwS.framed).rd)
          refine wp_region_noPanic ?_
          have HZ := Lib.hid (HN2.out.drewU (Sep.framed (Sep.framed (Sep.framed MineS.framed (Sep.framed OwnS.framed (Sep.framed GotS.framed (Sep.framed OwS.framed Blk.framed)))) OwS.framed) Locs.framed))
          refine wp_region_noPanic ?_
          refine wp_region_held_drew (S := fun W => (W.cell? ⟨gb, go + i * 14, none⟩ = some (.int .i64 fr) ∧ W.cell? ⟨gb, go + i * 14 + 1, none⟩ = some (.int .i64 tg) ∧ W.cell? ⟨gb, go + i * 14 + 2, none⟩ = some (.bool true) ∧ W.cell? ⟨gb, go + i * 14 + 3, none⟩ = some (.int .i64 (j : Int)) ∧ W.cell? ⟨gb, go + i * 14 + 4, none⟩ = some (.int .i64 op) ∧ W.cell? ⟨gb, go + i * 14 + 5, none⟩ = some (.int .u64 dk) ∧ W.cell? ⟨gb, go + i * 14 + 6, none⟩ = some (.int .u64 dv) ∧ W.cell? ⟨gb, go + i * 14 + 7, none⟩ = some (.int .i64 0) ∧ W.cell? ⟨gb, go + i * 14 + 8, none⟩ = some (.bool false) ∧ W.cell? ⟨gb, go + i * 14 + 9, none⟩ = some (.int .u64 0) ∧ W.cell? ⟨gb, go + i * 14 + 10, none⟩ = some (.bool false) ∧ W.cell? ⟨gb, go + i * 14 + 11, none⟩ = some (.int .u64 0) ∧ W.cell? ⟨gb, go + i * 14 + 12, none⟩ = some (.int .u64 0) ∧ W.cell? ⟨gb, go + i * 14 + 13, none⟩ = some (.slice pa pn pc)) ∧ W.cell? ⟨wb, 0, none⟩ = some (.int .i64 fr) ∧ W.cell? ⟨wb, 1, none⟩ = some (.int .i64 tg) ∧ W.cell? ⟨wb, 2, none⟩ = some (.bool true) ∧ W.cell? ⟨wb, 3, none⟩ = some (.int .i64 (j : Int)) ∧ W.cell? ⟨wb, 4, none⟩ = some (.int .i64 op) ∧ W.cell? ⟨wb, 5, none⟩ = some (.int .u64 dk) ∧ W.cell? ⟨wb, 6, none⟩ = some (.int .u64 dv) ∧ W.cell? ⟨wb, 7, none⟩ = some (.int .i64 0) ∧ W.cell? ⟨wb, 8, none⟩ = some (.bool false) ∧ W.cell? ⟨wb, 9, none⟩ = some (.int .u64 0) ∧ W.cell? ⟨wb, 10, none⟩ = some (.bool false) ∧ W.cell? ⟨wb, 11, none⟩ = some (.int .u64 0) ∧ W.cell? ⟨wb, 12, none⟩ = some (.int .u64 0) ∧ W.cell? ⟨wb, 13, none⟩ = some (.slice va wn vc)) (by kernel_rfl) ?_ (fun hHeld => ?_)
          · exact (HK47.out _ HZ.out)
          try simp only [Act.put, List.getElem_toArray, List.getElem_cons_succ, List.getElem_cons_zero, List.setIfInBounds_toArray, List.set_cons_zero, List.set_cons_succ]
          refine wpAnyH_take (i := 0) (v := ?vwbz0) rfl (by kernel_rfl) (by kernel_rfl) (by kernel_rfl) (fun _ _ _ h => h) (Or.inl ⟨by rfl, ?hywbz0⟩) (by assumption) ?restwbz0
          case hywbz0 =>
            intro w hSw
            try dsimp only at hSw
            go_simp
            all_goals with_reducible rfl
          simp only [Act.put, List.getElem_toArray, List.getElem_cons_succ, List.getElem_cons_zero, List.setIfInBounds_toArray, List.set_cons_zero, List.set_cons_succ]
          refine wpAnyH_take (i := 1) (v := ?vwbz1) rfl (by kernel_rfl) (by kernel_rfl) (by kernel_rfl) (fun _ _ _ h => h) (Or.inl ⟨by rfl, ?hywbz1⟩) (by assumption) ?restwbz1
          case hywbz1 =>
            intro w hSw
            try dsimp only at hSw
            go_simp
            all_goals with_reducible rfl
          simp only [Act.put, List.getElem_toArray, List.getElem_cons_succ, List.getElem_cons_zero, List.setIfInBounds_toArray, List.set_cons_zero, List.set_cons_succ]
          refine wpAnyH_take (i := 2) (v := ?vwbz2) rfl (by kernel_rfl) (by kernel_rfl) (by kernel_rfl) (fun _ _ _ h => h) (Or.inl ⟨by rfl, ?hywbz2⟩) (by assumption) ?restwbz2
          case hywbz2 =>
            intro w hSw
            try dsimp only at hSw
            go_simp
            all_goals with_reducible rfl
          simp only [Act.put, List.getElem_toArray, List.getElem_cons_succ, List.getElem_cons_zero, List.setIfInBounds_toArray, List.set_cons_zero, List.set_cons_succ]
          refine wpAnyH_take (i := 3) (v := ?vwbz3) rfl (by kernel_rfl) (by kernel_rfl) (by kernel_rfl) (fun _ _ _ h => h) (Or.inl ⟨by rfl, ?hywbz3⟩) (by assumption) ?restwbz3
          case hywbz3 =>
            intro w hSw
            try dsimp only at hSw
            go_simp
            all_goals with_reducible rfl
          simp only [Act.put, List.getElem_toArray, List.getElem_cons_succ, List.getElem_cons_zero, List.setIfInBounds_toArray, List.set_cons_zero, List.set_cons_succ]
          refine wpAnyH_take (i := 4) (v := ?vwbz4) rfl (by kernel_rfl) (by kernel_rfl) (by kernel_rfl) (fun _ _ _ h => h) (Or.inl ⟨by rfl, ?hywbz4⟩) (by assumption) ?restwbz4
          case hywbz4 =>
            intro w hSw
            try dsimp only at hSw
            go_simp
            all_goals with_reducible rfl
          simp only [Act.put, List.getElem_toArray, List.getElem_cons_succ, List.getElem_cons_zero, List.setIfInBounds_toArray, List.set_cons_zero, List.set_cons_succ]
          refine wpAnyH_ready (rs := [5]) (by kernel_rfl) (by simp) ?_
          refine AllReadyH.cons rfl (fun K hK => ?_) AllReadyH.nil
          go_simp
          refine (HZ.out.callRead (Sep.framed (Sep.framed (Sep.framed MineS.framed (Sep.framed OwnS.framed (Sep.framed GotS.framed (Sep.framed OwS.framed Blk.framed)))) OwS.framed) Locs.framed) (E := fun e => e = .returned (.bool true)) (HAK.out _ HZ.out)).mono ?_
          rintro e wz2 ⟨rfl, hz2⟩
          have HZ2 := Lib.hid hz2
          clear hz2
          try go_wp2_with fail
          refine hK.out _ _ ?_ (fun hHeld => ?_)
          · exact (HK47.out _ HZ2.out)
          clear hK K
          try simp only [Act.put, List.getElem_toArray, List.getElem_cons_succ, List.getElem_cons_zero, List.setIfInBounds_toArray, List.set_cons_zero, List.set_cons_succ]
          refine wpAnyH_take (i := 6) (v := ?vwbz6) rfl (by kernel_rfl) (by kernel_rfl) (by kernel_rfl) (fun _ _ _ h => h) (Or.inl ⟨by rfl, ?hywbz6⟩) (by assumption) ?restwbz6
          case hywbz6 =>
            intro w hSw
            try dsimp only at hSw
            go_simp
            all_goals with_reducible rfl
          simp only [Act.put, List.getElem_toArray, List.getElem_cons_succ, List.getElem_cons_zero, List.setIfInBounds_toArray, List.set_cons_zero, List.set_cons_succ]
          clear hHeld
          refine wpAnyH_done (by kernel_rfl) ?_ _
          refine NoPanic.normal ?_
          refine NoPanic.normal ?_
          go_wp2_with fail
          have HZ3 := Lib.hid (HZ2.out.imp fun _ h => (h.left (Sep.framed (Sep.framed MineS.framed (Sep.framed OwnS.framed (Sep.framed GotS.framed (Sep.framed OwS.framed Blk.framed)))) OwS.framed)).left (Sep.framed MineS.framed (Sep.framed OwnS.framed (Sep.framed GotS.framed (Sep.framed OwS.framed Blk.framed)))))
          refine ⟨⟨i + 1, by omega, by simp, ?_⟩, ?_⟩
          · rw [HRT.out, hsn]; exact HZ3
          · first | omega | (simp only [intOf]; omega)
      | false =>
        have HWK := Lib.hid (show false = false → ([] : List PairD) = ps ∧ ofS dk n = sd ∧ ∃ s2, shP (decide (ds[j].1 = 1)) ds[j].2 ssi[j] op dk dv = ((x0, x1, x2, x3, x4, x5), s2) ∧ (stepP ds ssi (fr, tg, false, (j : Int), op, dk, dv)).2.2 = ssi.set j s2 from fun _ => by
          have hf := HFQ.out
          unfold fitsP at hf
          simp only [Bool.and_eq_true, Bool.false_or, beq_iff_eq] at hf
          unfold stepP at a2 a3 ⊢
          simp only [Int.toNat_natCast, List.getElem?_eq_getElem hjs, List.getElem?_eq_getElem hjd, Bool.false_eq_true, if_false] at a2 a3 ⊢
          exact ⟨a3, hf.2.2, _, Prod.ext a2 rfl, rfl⟩)
        clear a2 a3
        cases hai : mm[j].1 with
        | plain b => 
          have HGj := Lib.hid (show SGood false mm[j].2.2 ssi[j] by have := HGi.out.good j hjm hjs; rw [hai] at this; exact this)
          have HCM := Lib.hid (show ∀ ss2 T W, MineS (.slice (some ⟨mb, mo, none⟩) mm.length mc) mm ss2 T W → W.cell? ⟨mb, mo + j, none⟩ = some (.iface 96 (.pointer (some ⟨b, 0, none⟩))) from fun ss2 T W h => by
            have := HSM.out ss2 T W h
            rw [hai] at this
            exact this)
          have HAT := Lib.hid (show ∀ T W, MineS (.slice (some ⟨mb, mo, none⟩) mm.length mc) mm ssi T W → ∃ A, ShardS (.plain b) mm[j].2.2 ssi[j] A W ∧ ∀ s' w', Upd (ShardS (.plain b) mm[j].2.2 s') A W w' → Upd (MineS (.slice (some ⟨mb, mo, none⟩) mm.length mc) mm (ssi.set j s')) T W w' from fun T W h => by
            have := h.at j hjm hjs
            rwa [hai] at this)
          have cmm := HCM.out _ _ _ hzm
          have hcm := cm_book_do b op dk dv
          obtain ⟨hps, hof, s2, hsh, hsn⟩ := HWK.out rfl
          subst hps
          have HD := Lib.hid (show shP false mm[j].2.2 ssi[j] op dk dv = ((x0, x1, x2, x3, x4, x5), s2) by have := HBM.out; rw [hai] at this; rw [show false = decide (mm[j].2.1 = 1) from this, HDJ.out]; exact hsh)
          have hofb : (ofS dk n != sd) = false := by simpa using hof
          have HOF := Lib.hid (fun w => of_any dk n w (by have := HN4.out; omega))
          clear hai hzm hof hsh
          go_wp2_with fail
          have HL2 := Lib.hid (st_two (B := (reqO fr tg false j op dk dv)) (C := (repO fr tg false j op dk dv 0 false 0 false 0 0 (.slice none 0 0))) (Sep.framed MineS.framed (Sep.framed OwnS.framed (Sep.framed GotS.framed (Sep.framed OwS.framed Blk.framed)))) V.out)
          have HNE := Lib.hid (show wr.heap.size ≠ wr.heap.size + 1 by omega)
          generalize World.alloc (World.alloc wr _) _ = wl at *
          generalize wr.heap.size + 1 = wb at *
          generalize wr.heap.size = qb at *
          have HK44 := Lib.hid (show ∀ (C : Obj) (ss2 : List Sh) W, Upd (Sep (Sep (MineS (.slice (some ⟨mb, mo, none⟩) mm.length mc) mm ss2) (Sep (OwnS ga sd n ml ssE [] false) (Sep (GotS (.slice (some ⟨gb, go, none⟩) rl.length gC) rl pl) (Sep (fun S w => OwS eReq 37 S w (.slice (some ⟨tb, tof, none⟩) took.length tC) took) (Blk bd (shO sd n (.slice am ds.length cm))))))) (Locs [(wb, C), (qb, (reqO fr tg false j op dk dv))])) (fun _ => False) w W → W.cell? ⟨qb, 5, none⟩ = some (.int .u64 dk) ∧ W.cell? ⟨bd, 1, none⟩ = some (.int .i64 n) ∧ W.cell? ⟨bd, 0, none⟩ = some (.int .i64 sd) from fun C ss2 W h => by
            obtain ⟨_, hp⟩ := h.getL
            have hq := h.get (g := qb) (List.mem_cons_of_mem _ (List.mem_cons_self ..))
            have hk := (((hp.right (Sep.framed OwnS.framed (Sep.framed GotS.framed (Sep.framed OwS.framed Blk.framed)))).right (Sep.framed GotS.framed (Sep.framed OwS.framed Blk.framed))).right (Sep.framed OwS.framed Blk.framed)).right Blk.framed
            exact ⟨blk_cell hq 5, blk_cell hk.1 1, blk_cell hk.1 0⟩)
          refine wp_region_noPanic ?_
          have HL3 := Lib.hid (HL2.out.drewU (Sep.framed (Sep.framed MineS.framed (Sep.framed OwnS.framed (Sep.framed GotS.framed (Sep.framed OwS.framed Blk.framed)))) Locs.framed))
          refine wp_region_noPanic ?_
          refine wp_region_held_drew (S := fun W => W.cell? ⟨qb, 5, none⟩ = some (.int .u64 dk) ∧ W.cell? ⟨bd, 1, none⟩ = some (.int .i64 n) ∧ W.cell? ⟨bd, 0, none⟩ = some (.int .i64 sd)) (by kernel_rfl) ?_ (fun hHeld => ?_)
          · exact (HK44.out _ _ _ HL3.out)
          try simp only [Act.put, List.getElem_toArray, List.getElem_cons_succ, List.getElem_cons_zero, List.setIfInBounds_toArray, List.set_cons_zero, List.set_cons_succ]
          refine wpAnyH_take (i := 0) (v := ?vdpx0) rfl (by kernel_rfl) (by kernel_rfl) (by kernel_rfl) (fun _ _ _ h => h) (Or.inl ⟨by rfl, ?hydpx0⟩) (by assumption) ?restdpx0
          case hydpx0 =>
            intro w hSw
            try dsimp only at hSw
            go_simp
            all_goals with_reducible rfl
          simp only [Act.put, List.getElem_toArray, List.getElem_cons_succ, List.getElem_cons_zero, List.setIfInBounds_toArray, List.set_cons_zero, List.set_cons_succ]
          refine wpAnyH_take (i := 1) (v := ?vdpx1) rfl (by kernel_rfl) (by kernel_rfl) (by kernel_rfl) (fun _ _ _ h => h) (Or.inl ⟨by rfl, ?hydpx1⟩) (by assumption) ?restdpx1
          case hydpx1 =>
            intro w hSw
            try dsimp only at hSw
            go_simp
            all_goals with_reducible rfl
          simp only [Act.put, List.getElem_toArray, List.getElem_cons_succ, List.getElem_cons_zero, List.setIfInBounds_toArray, List.set_cons_zero, List.set_cons_succ]
          refine wpAnyH_take (i := 2) (v := ?vdpx2) rfl (by kernel_rfl) (by kernel_rfl) (by kernel_rfl) (fun _ _ _ h => h) (Or.inl ⟨by rfl, ?hydpx2⟩) (by assumption) ?restdpx2
          case hydpx2 =>
            intro w hSw
            try dsimp only at hSw
            go_simp
            all_goals with_reducible rfl
          simp only [Act.put, List.getElem_toArray, List.getElem_cons_succ, List.getElem_cons_zero, List.setIfInBounds_toArray, List.set_cons_zero, List.set_cons_succ]
          refine wpAnyH_take (i := 3) (v := ?vdpx3) rfl (by kernel_rfl) (by kernel_rfl) (by kernel_rfl) (fun _ _ _ h => h) (Or.inl ⟨by rfl, ?hydpx3⟩) (by assumption) ?restdpx3
          case hydpx3 =>
            intro w hSw
            try dsimp only at hSw
            go_simp
            all_goals with_reducible rfl
          simp only [Act.put, List.getElem_toArray, List.getElem_cons_succ, List.getElem_cons_zero, List.setIfInBounds_toArray, List.set_cons_zero, List.set_cons_succ]
          refine wpAnyH_take (i := 4) (v := ?vdpx4) rfl (by kernel_rfl) (by kernel_rfl) (by kernel_rfl) (fun _ _ _ h => h) (Or.inl ⟨by rfl, ?hydpx4⟩) (by assumption) ?restdpx4
          case hydpx4 =>
            intro w hSw
            try dsimp only at hSw
            go_simp
            all_goals with_reducible rfl
          simp only [Act.put, List.getElem_toArray, List.getElem_cons_succ, List.getElem_cons_zero, List.setIfInBounds_toArray, List.set_cons_zero, List.set_cons_succ]
          refine wpAnyH_take (i := 6) (v := ?vdpx6) rfl (by kernel_rfl) (by kernel_rfl) (by kernel_rfl) (fun _ _ _ h => h) (Or.inl ⟨by rfl, ?hydpx6⟩) (by assumption) ?restdpx6
          case hydpx6 =>
            intro w hSw
            try dsimp only at hSw
            go_simp
            all_goals with_reducible rfl
          simp only [Act.put, List.getElem_toArray, List.getElem_cons_succ, List.getElem_cons_zero, List.setIfInBounds_toArray, List.set_cons_zero, List.set_cons_succ]
          refine wpAnyH_take (i := 7) (v := ?vdpx7) rfl (by kernel_rfl) (by kernel_rfl) (by kernel_rfl) (fun _ _ _ h => h) (Or.inl ⟨by rfl, ?hydpx7⟩) (by assumption) ?restdpx7
          case hydpx7 =>
            intro w hSw
            try dsimp only at hSw
            go_simp
            all_goals with_reducible rfl
          simp only [Act.put, List.getElem_toArray, List.getElem_cons_succ, List.getElem_cons_zero, List.setIfInBounds_toArray, List.set_cons_zero, List.set_cons_succ]
          refine wpAnyH_ready (rs := [5]) (by kernel_rfl) (by simp) ?_
          refine AllReadyH.cons rfl (fun K hK => ?_) AllReadyH.nil
          go_simp
          refine (HOF.out _).mono ?_
          rintro e wo ⟨rfl, rfl⟩
          try go_wp2_with fail
          refine hK.out _ _ ?_ (fun hHeld => ?_)
          · exact hHeld
          clear hK K
          try simp only [Act.put, List.getElem_toArray, List.getElem_cons_succ, List.getElem_cons_zero, List.setIfInBounds_toArray, List.set_cons_zero, List.set_cons_succ]
          refine wpAnyH_take (i := 8) (v := ?vdpx8) rfl (by kernel_rfl) (by kernel_rfl) (by kernel_rfl) (fun _ _ _ h => h) (Or.inl ⟨by rfl, ?hydpx8⟩) (by assumption) ?restdpx8
          case hydpx8 =>
            intro w hSw
            try dsimp only at hSw
            go_simp
            all_goals with_reducible rfl
          simp only [Act.put, List.getElem_toArray, List.getElem_cons_succ, List.getElem_cons_zero, List.setIfInBounds_toArray, List.set_cons_zero, List.set_cons_succ]
          clear hHeld
          refine wpAnyH_done (by kernel_rfl) ?_ _
          refine NoPanic.normal ?_
          refine NoPanic.normal ?_
          go_wp2_with fail
          have HK46 := Lib.hid (show ∀ (C : Obj) (ss2 : List Sh) W, Upd (Sep (Sep (MineS (.slice (some ⟨mb, mo, none⟩) mm.length mc) mm ss2) (Sep (OwnS ga sd n ml ssE [] false) (Sep (GotS (.slice (some ⟨gb, go, none⟩) rl.length gC) rl pl) (Sep (fun S w => OwS eReq 37 S w (.slice (some ⟨tb, tof, none⟩) took.length tC) took) (Blk bd (shO sd n (.slice am ds.length cm))))))) (Locs [(wb, C), (qb, (reqO fr tg false j op dk dv))])) (fun _ => False) w W → W.cell? ⟨mb, mo + j, none⟩ = some (.iface 96 (.pointer (some ⟨b, 0, none⟩))) ∧ W.cell? ⟨qb, 3, none⟩ = some (.int .i64 (j : Int)) ∧ W.cell? ⟨qb, 4, none⟩ = some (.int .i64 op) ∧ W.cell? ⟨qb, 5, none⟩ = some (.int .u64 dk) ∧ W.cell? ⟨qb, 6, none⟩ = some (.int .u64 dv) from fun C ss2 W h => by
            obtain ⟨_, hp⟩ := h.getL
            have hq := h.get (g := qb) (List.mem_cons_of_mem _ (List.mem_cons_self ..))
            exact ⟨HCM.out _ _ _ (hp.left MineS.framed), blk_cell hq 3, blk_cell hq 4, blk_cell hq 5, blk_cell hq 6⟩)
          have HL4 := Lib.hid (HL3.out.drewU (Sep.framed (Sep.framed MineS.framed (Sep.framed OwnS.framed (Sep.framed GotS.framed (Sep.framed OwS.framed Blk.framed)))) Locs.framed))
          refine wp_region_noPanic ?_
          refine wp_region_held_drew (S := fun W => W.cell? ⟨mb, mo + j, none⟩ = some (.iface 96 (.pointer (some ⟨b, 0, none⟩))) ∧ W.cell? ⟨qb, 3, none⟩ = some (.int .i64 (j : Int)) ∧ W.cell? ⟨qb, 4, none⟩ = some (.int .i64 op) ∧ W.cell? ⟨qb, 5, none⟩ = some (.int .u64 dk) ∧ W.cell? ⟨qb, 6, none⟩ = some (.int .u64 dv)) (by kernel_rfl) ?_ (fun hHeld => ?_)
          · exact (HK46.out _ _ _ HL4.out)
          try simp only [Act.put, List.getElem_toArray, List.getElem_cons_succ, List.getElem_cons_zero, List.setIfInBounds_toArray, List.set_cons_zero, List.set_cons_succ]
          refine wpAnyH_take (i := 0) (v := ?vdpy0) rfl (by kernel_rfl) (by kernel_rfl) (by kernel_rfl) (fun _ _ _ h => h) (Or.inl ⟨by rfl, ?hydpy0⟩) (by assumption) ?restdpy0
          case hydpy0 =>
            intro w hSw
            try dsimp only at hSw
            go_simp
            all_goals with_reducible rfl
          simp only [Act.put, List.getElem_toArray, List.getElem_cons_succ, List.getElem_cons_zero, List.setIfInBounds_toArray, List.set_cons_zero, List.set_cons_succ]
          refine wpAnyH_take (i := 1) (v := ?vdpy1) rfl (by kernel_rfl) (by kernel_rfl) (by kernel_rfl) (fun _ _ _ h => h) (Or.inl ⟨by rfl, ?hydpy1⟩) (by assumption) ?restdpy1
          case hydpy1 =>
            intro w hSw
            try dsimp only at hSw
            go_simp
            all_goals with_reducible rfl
          simp only [Act.put, List.getElem_toArray, List.getElem_cons_succ, List.getElem_cons_zero, List.setIfInBounds_toArray, List.set_cons_zero, List.set_cons_succ]
          refine wpAnyH_take (i := 2) (v := ?vdpy2) rfl (by kernel_rfl) (by kernel_rfl) (by kernel_rfl) (fun _ _ _ h => h) (Or.inl ⟨by rfl, ?hydpy2⟩) (by assumption) ?restdpy2
          case hydpy2 =>
            intro w hSw
            try dsimp only at hSw
            go_simp
            all_goals with_reducible rfl
          simp only [Act.put, List.getElem_toArray, List.getElem_cons_succ, List.getElem_cons_zero, List.setIfInBounds_toArray, List.set_cons_zero, List.set_cons_succ]
          refine wpAnyH_take (i := 3) (v := ?vdpy3) rfl (by kernel_rfl) (by kernel_rfl) (by kernel_rfl) (fun _ _ _ h => h) (Or.inl ⟨by rfl, ?hydpy3⟩) (by assumption) ?restdpy3
          case hydpy3 =>
            intro w hSw
            try dsimp only at hSw
            go_simp
            all_goals with_reducible rfl
          simp only [Act.put, List.getElem_toArray, List.getElem_cons_succ, List.getElem_cons_zero, List.setIfInBounds_toArray, List.set_cons_zero, List.set_cons_succ]
          refine wpAnyH_take (i := 4) (v := ?vdpy4) rfl (by kernel_rfl) (by kernel_rfl) (by kernel_rfl) (fun _ _ _ h => h) (Or.inl ⟨by rfl, ?hydpy4⟩) (by assumption) ?restdpy4
          case hydpy4 =>
            intro w hSw
            try dsimp only at hSw
            go_simp
            all_goals with_reducible rfl
          simp only [Act.put, List.getElem_toArray, List.getElem_cons_succ, List.getElem_cons_zero, List.setIfInBounds_toArray, List.set_cons_zero, List.set_cons_succ]
          refine wpAnyH_take (i := 5) (v := ?vdpy5) rfl (by kernel_rfl) (by kernel_rfl) (by kernel_rfl) (fun _ _ _ h => h) (Or.inl ⟨by rfl, ?hydpy5⟩) (by assumption) ?restdpy5
          case hydpy5 =>
            intro w hSw
            try dsimp only at hSw
            go_simp
            all_goals with_reducible rfl
          simp only [Act.put, List.getElem_toArray, List.getElem_cons_succ, List.getElem_cons_zero, List.setIfInBounds_toArray, List.set_cons_zero, List.set_cons_succ]
          refine wpAnyH_take (i := 6) (v := ?vdpy6) rfl (by kernel_rfl) (by kernel_rfl) (by kernel_rfl) (fun _ _ _ h => h) (Or.inl ⟨by rfl, ?hydpy6⟩) (by assumption) ?restdpy6
          case hydpy6 =>
            intro w hSw
            try dsimp only at hSw
            go_simp
            all_goals with_reducible rfl
          simp only [Act.put, List.getElem_toArray, List.getElem_cons_succ, List.getElem_cons_zero, List.setIfInBounds_toArray, List.set_cons_zero, List.set_cons_succ]
          refine wpAnyH_take (i := 7) (v := ?vdpy7) rfl (by kernel_rfl) (by kernel_rfl) (by kernel_rfl) (fun _ _ _ h => h) (Or.inl ⟨by rfl, ?hydpy7⟩) (by assumption) ?restdpy7
          case hydpy7 =>
            intro w hSw
            try dsimp only at hSw
            go_simp
            all_goals with_reducible rfl
          simp only [Act.put, List.getElem_toArray, List.getElem_cons_succ, List.getElem_cons_zero, List.setIfInBounds_toArray, List.set_cons_zero, List.set_cons_succ]
          refine wpAnyH_take (i := 8) (v := ?vdpy8) rfl (by kernel_rfl) (by kernel_rfl) (by kernel_rfl) (fun _ _ _ h => h) (Or.inl ⟨by rfl, ?hydpy8⟩) (by assumption) ?restdpy8
          case hydpy8 =>
            intro w hSw
            try dsimp only at hSw
            go_simp
            all_goals with_reducible rfl
          simp only [Act.put, List.getElem_toArray, List.getElem_cons_succ, List.getElem_cons_zero, List.setIfInBounds_toArray, List.set_cons_zero, List.set_cons_succ]
          refine wpAnyH_take (i := 9) (v := ?vdpy9) rfl (by kernel_rfl) (by kernel_rfl) (by kernel_rfl) (fun _ _ _ h => h) (Or.inl ⟨by rfl, ?hydpy9⟩) (by assumption) ?restdpy9
          case hydpy9 =>
            intro w hSw
            try dsimp only at hSw
            go_simp
            all_goals with_reducible rfl
          simp only [Act.put, List.getElem_toArray, List.getElem_cons_succ, List.getElem_cons_zero, List.setIfInBounds_toArray, List.set_cons_zero, List.set_cons_succ]
          refine wpAnyH_take (i := 10) (v := ?vdpy10) rfl (by kernel_rfl) (by kernel_rfl) (by kernel_rfl) (fun _ _ _ h => h) (Or.inl ⟨by rfl, ?hydpy10⟩) (by assumption) ?restdpy10
          case hydpy10 =>
            intro w hSw
            try dsimp only at hSw
            go_simp
            all_goals with_reducible rfl
          simp only [Act.put, List.getElem_toArray, List.getElem_cons_succ, List.getElem_cons_zero, List.setIfInBounds_toArray, List.set_cons_zero, List.set_cons_succ]
          refine wpAnyH_take (i := 11) (v := ?vdpy11) rfl (by kernel_rfl) (by kernel_rfl) (by kernel_rfl) (fun _ _ _ h => h) (Or.inl ⟨by rfl, ?hydpy11⟩) (by assumption) ?restdpy11
          case hydpy11 =>
            intro w hSw
            try dsimp only at hSw
            go_simp
            all_goals with_reducible rfl
          simp only [Act.put, List.getElem_toArray, List.getElem_cons_succ, List.getElem_cons_zero, List.setIfInBounds_toArray, List.set_cons_zero, List.set_cons_succ]
          refine wpAnyH_take (i := 12) (v := ?vdpy12) rfl (by kernel_rfl) (by kernel_rfl) (by kernel_rfl) (fun _ _ _ h => h) (Or.inl ⟨by rfl, ?hydpy12⟩) (by assumption) ?restdpy12
          case hydpy12 =>
            intro w hSw
            try dsimp only at hSw
            go_simp
            all_goals with_reducible rfl
          simp only [Act.put, List.getElem_toArray, List.getElem_cons_succ, List.getElem_cons_zero, List.setIfInBounds_toArray, List.set_cons_zero, List.set_cons_succ]
          refine wpAnyH_take (i := 13) (v := ?vdpy13) rfl (by kernel_rfl) (by kernel_rfl) (by kernel_rfl) (fun _ _ _ h => h) (Or.inl ⟨by rfl, ?hydpy13⟩) (by assumption) ?restdpy13
          case hydpy13 =>
            intro w hSw
            try dsimp only at hSw
            go_simp
            all_goals with_reducible rfl
          simp only [Act.put, List.getElem_toArray, List.getElem_cons_succ, List.getElem_cons_zero, List.setIfInBounds_toArray, List.set_cons_zero, List.set_cons_succ]
          refine wpAnyH_take (i := 14) (v := ?vdpy14) rfl (by kernel_rfl) (by kernel_rfl) (by kernel_rfl) (fun _ _ _ h => h) (Or.inl ⟨by rfl, ?hydpy14⟩) (by assumption) ?restdpy14
          case hydpy14 =>
            intro w hSw
            try dsimp only at hSw
            go_simp
            all_goals with_reducible rfl
          simp only [Act.put, List.getElem_toArray, List.getElem_cons_succ, List.getElem_cons_zero, List.setIfInBounds_toArray, List.set_cons_zero, List.set_cons_succ]
          refine wpAnyH_ready (rs := [15]) (by kernel_rfl) (by simp) ?_
          refine AllReadyH.cons rfl (fun K hK => ?_) AllReadyH.nil
          go_simp
          refine (HL4.out.via Locs.framed (P' := (Sep (MineS (.slice (some ⟨mb, mo, none⟩) mm.length mc) mm (ssi.set j s2)) (Sep (OwnS ga sd n ml ssE [] false) (Sep (GotS (.slice (some ⟨gb, go, none⟩) rl.length gC) rl pl) (Sep (fun S w => OwS eReq 37 S w (.slice (some ⟨tb, tof, none⟩) took.length tC) took) (Blk bd (shO sd n (.slice am ds.length cm)))))))) (Sep.framed MineS.framed (Sep.framed OwnS.framed (Sep.framed GotS.framed (Sep.framed OwS.framed Blk.framed)))) fun A hA => by
            obtain ⟨D, hD, hb⟩ := hA.focus (Sep.framed OwnS.framed (Sep.framed GotS.framed (Sep.framed OwS.framed Blk.framed)))
            obtain ⟨B, hB, hb2⟩ := HAT.out _ _ hD
            exact (shDo_plain hB HGj.out HD.out).mono fun e w' ⟨he, hu⟩ => ⟨he, hb _ w' MineS.framed (hb2 _ _ hu)⟩).mono ?_
          rintro e w1 ⟨rfl, hU1⟩
          have HU1 := Lib.hid hU1
          clear hU1
          try go_wp2_with fail
          refine hK.out _ _ ?_ (fun hHeld => ?_)
          · exact (HK46.out _ _ _ HU1.out)
          clear hK K
          try simp only [Act.put, List.getElem_toArray, List.getElem_cons_succ, List.getElem_cons_zero, List.setIfInBounds_toArray, List.set_cons_zero, List.set_cons_succ]
          refine wpAnyH_take (i := 16) (v := ?vdpy16) rfl (by kernel_rfl) (by kernel_rfl) (by kernel_rfl) (fun _ _ _ h => h) (Or.inl ⟨by rfl, ?hydpy16⟩) (by assumption) ?restdpy16
          case hydpy16 =>
            intro w hSw
            try dsimp only at hSw
            go_simp
            all_goals with_reducible rfl
          simp only [Act.put, List.getElem_toArray, List.getElem_cons_succ, List.getElem_cons_zero, List.setIfInBounds_toArray, List.set_cons_zero, List.set_cons_succ]
          clear hHeld
          refine wpAnyH_ready (rs := [17]) (by kernel_rfl) (by simp) ?_
          refine AllReadyH.cons rfl (fun K hK => ?_) AllReadyH.nil
          rw [if_pos (by rfl)]
          have hpb := HU1.out.get (g := wb) (List.mem_cons_self ..)
          have HU2 := Lib.hid (locs_two' (C' := (repO fr tg false j op dk dv x0 x1 x2 x3 x4 x5 (.slice none 0 0))) (Sep.framed MineS.framed (Sep.framed OwnS.framed (Sep.framed GotS.framed (Sep.framed OwS.framed Blk.framed)))) HU1.out HNE.out (only_setCells wb (resL (x0, x1, x2, x3, x4, x5)) 7 w1) (set7 (x0, x1, x2, x3, x4, x5) _ hpb))
          refine wp_store_mid 41 (.tmp 224) (.tmp 223) rfl wb 7 #[.int .i64 x0, .bool x1, .int .u64 x2, .bool x3, .int .u64 x4, .int .u64 x5] rfl rfl (there7 _ hpb) (by kernel_rfl) (res_one _ _ _ _ _ _) ?_
          clear hpb
          refine hK.out _ _ ?_ (fun hHeld => ?_)
          · exact (HK46.out _ _ _ HU2.out)
          clear hK K hHeld
          try simp only [Act.put, List.getElem_toArray, List.getElem_cons_succ, List.getElem_cons_zero, List.setIfInBounds_toArray, List.set_cons_zero, List.set_cons_succ]
          refine wpAnyH_done (by kernel_rfl) ?_ _
          refine NoPanic.normal ?_
          obtain ⟨ws, hws⟩ : ∃ ws, ws = w1.setCells wb 7 (resL (x0, x1, x2, x3, x4, x5)) := ⟨_, rfl⟩
          rw [← hws] at HU2
          rw [← hws]
          clear hws
          go_wp2_with fail
          have HN2 := Lib.hid (show Upd (Sep (Sep (Sep (MineS (.slice (some ⟨mb, mo, none⟩) mm.length mc) mm (ssi.set j s2)) (Sep (OwnS ga sd n ml ssE [] false) (Sep (GotS (.slice (some ⟨gb, go, none⟩) rl.length gC) rl pl) (Sep (fun S w => OwS eReq 37 S w (.slice (some ⟨tb, tof, none⟩) took.length tC) took) (Blk bd (shO sd n (.slice am ds.length cm))))))) (fun S w => OwS ePair 50 S w (.slice none 0 0) ([] : List PairD))) (Locs [(wb, (repO fr tg false j op dk dv x0 x1 x2 x3 x4 x5 (.slice none 0 0))), (qb, (reqO fr tg false j op dk dv))])) (fun _ => False) w ws from HU2.out.imp fun _ h => h.imp (fun _ h => (Sep.nilL h).swap) fun _ h => h)
          clear HU1 HL2 HL3 HL4 HU2 V
          have HK47 := Lib.hid (show ∀ W, Upd (Sep (Sep (Sep (MineS (.slice (some ⟨mb, mo, none⟩) mm.length mc) mm (ssi.set j s2)) (Sep (OwnS ga sd n ml ssE [] false) (Sep (GotS (.slice (some ⟨gb, go, none⟩) rl.length gC) rl pl) (Sep (fun S w => OwS eReq 37 S w (.slice (some ⟨tb, tof, none⟩) took.length tC) took) (Blk bd (shO sd n (.slice am ds.length cm))))))) (fun S w => OwS ePair 50 S w (.slice none 0 0) ([] : List PairD))) (Locs [(wb, (repO fr tg false j op dk dv x0 x1 x2 x3 x4 x5 (.slice none 0 0))), (qb, (reqO fr tg false j op dk dv))])) (fun _ => False) w W → ((W.cell? ⟨gb, go + i * 14, none⟩ = some (.int .i64 fr) ∧ W.cell? ⟨gb, go + i * 14 + 1, none⟩ = some (.int .i64 tg) ∧ W.cell? ⟨gb, go + i * 14 + 2, none⟩ = some (.bool false) ∧ W.cell? ⟨gb, go + i * 14 + 3, none⟩ = some (.int .i64 (j : Int)) ∧ W.cell? ⟨gb, go + i * 14 + 4, none⟩ = some (.int .i64 op) ∧ W.cell? ⟨gb, go + i * 14 + 5, none⟩ = some (.int .u64 dk) ∧ W.cell? ⟨gb, go + i * 14 + 6, none⟩ = some (.int .u64 dv) ∧ W.cell? ⟨gb, go + i * 14 + 7, none⟩ = some (.int .i64 x0) ∧ W.cell? ⟨gb, go + i * 14 + 8, none⟩ = some (.bool x1) ∧ W.cell? ⟨gb, go + i * 14 + 9, none⟩ = some (.int .u64 x2) ∧ W.cell? ⟨gb, go + i * 14 + 10, none⟩ = some (.bool x3) ∧ W.cell? ⟨gb, go + i * 14 + 11, none⟩ = some (.int .u64 x4) ∧ W.cell? ⟨gb, go + i * 14 + 12, none⟩ = some (.int .u64 x5) ∧ W.cell? ⟨gb, go + i * 14 + 13, none⟩ = some (.slice pa pn pc)) ∧ W.cell? ⟨wb, 0, none⟩ = some (.int .i64 fr) ∧ W.cell? ⟨wb, 1, none⟩ = some (.int .i64 tg) ∧ W.cell? ⟨wb, 2, none⟩ = some (.bool false) ∧ W.cell? ⟨wb, 3, none⟩ = some (.int .i64 (j : Int)) ∧ W.cell? ⟨wb, 4, none⟩ = some (.int .i64 op) ∧ W.cell? ⟨wb, 5, none⟩ = some (.int .u64 dk) ∧ W.cell? ⟨wb, 6, none⟩ = some (.int .u64 dv) ∧ W.cell? ⟨wb, 7, none⟩ = some (.int .i64 x0) ∧ W.cell? ⟨wb, 8, none⟩ = some (.bool x1) ∧ W.cell? ⟨wb, 9, none⟩ = some (.int .u64 x2) ∧ W.cell? ⟨wb, 10, none⟩ = some (.bool x3) ∧ W.cell? ⟨wb, 11, none⟩ = some (.int .u64 x4) ∧ W.cell? ⟨wb, 12, none⟩ = some (.int .u64 x5) ∧ W.cell? ⟨wb, 13, none⟩ = some (.slice none 0 0)) from fun W h => by
            obtain ⟨_, hp⟩ := h.getL
            have hw := h.get (g := wb) (List.mem_cons_self ..)
            have hg := HGC.out W ((((hp.left (Sep.framed MineS.framed (Sep.framed OwnS.framed (Sep.framed GotS.framed (Sep.framed OwS.framed Blk.framed))))).right (Sep.framed OwnS.framed (Sep.framed GotS.framed (Sep.framed OwS.framed Blk.framed)))).right (Sep.framed GotS.framed (Sep.framed OwS.framed Blk.framed))).left GotS.framed).1.rd
            exact ⟨hg, blk_cell hw 0, blk_cell hw 1, blk_cell hw 2, blk_cell hw 3, blk_cell hw 4, blk_cell hw 5, blk_cell hw 6, blk_cell hw 7, blk_cell hw 8, blk_cell hw 9, blk_cell hw 10, blk_cell hw 11, blk_cell hw 12, blk_cell hw 13⟩)
          have HAK := Lib.hid (show ∀ W, Upd (Sep (Sep (Sep (MineS (.slice (some ⟨mb, mo, none⟩) mm.length mc) mm (ssi.set j s2)) (Sep (OwnS ga sd n ml ssE [] false) (Sep (GotS (.slice (some ⟨gb, go, none⟩) rl.length gC) rl pl) (Sep (fun S w => OwS eReq 37 S w (.slice (some ⟨tb, tof, none⟩) took.length tC) took) (Blk bd (shO sd n (.slice am ds.length cm))))))) (fun S w => OwS ePair 50 S w (.slice none 0 0) ([] : List PairD))) (Locs [(wb, (repO fr tg false j op dk dv x0 x1 x2 x3 x4 x5 (.slice none 0 0))), (qb, (reqO fr tg false j op dk dv))])) (fun _ => False) w W → Calls Try.prog 15 #[repV (fr, tg, false, (j : Int), op, dk, dv) (x0, x1, x2, x3, x4, x5) (.slice pa pn pc), repV (fr, tg, false, (j : Int), op, dk, dv) (x0, x1, x2, x3, x4, x5) (.slice none 0 0)] W fun e w' => e = .returned (.bool true) ∧ Only (fun _ => False) W w' from fun W h => by
            obtain ⟨_, hp⟩ := h.getL
            exact alike_eq _ _ _ _ _ _ (HPR.out _ _ ((((hp.left (Sep.framed MineS.framed (Sep.framed OwnS.framed (Sep.framed GotS.framed (Sep.framed OwS.framed Blk.framed))))).right (Sep.framed OwnS.framed (Sep.framed GotS.framed (Sep.framed OwS.framed Blk.framed)))).right (Sep.framed GotS.framed (Sep.framed OwS.framed Blk.framed))).left GotS.framed)) (hp.right OwS.framed).rd)
          refine wp_region_noPanic ?_
          have HZ := Lib.hid (HN2.out.drewU (Sep.framed (Sep.framed (Sep.framed MineS.framed (Sep.framed OwnS.framed (Sep.framed GotS.framed (Sep.framed OwS.framed Blk.framed)))) OwS.framed) Locs.framed))
          refine wp_region_noPanic ?_
          refine wp_region_held_drew (S := fun W => (W.cell? ⟨gb, go + i * 14, none⟩ = some (.int .i64 fr) ∧ W.cell? ⟨gb, go + i * 14 + 1, none⟩ = some (.int .i64 tg) ∧ W.cell? ⟨gb, go + i * 14 + 2, none⟩ = some (.bool false) ∧ W.cell? ⟨gb, go + i * 14 + 3, none⟩ = some (.int .i64 (j : Int)) ∧ W.cell? ⟨gb, go + i * 14 + 4, none⟩ = some (.int .i64 op) ∧ W.cell? ⟨gb, go + i * 14 + 5, none⟩ = some (.int .u64 dk) ∧ W.cell? ⟨gb, go + i * 14 + 6, none⟩ = some (.int .u64 dv) ∧ W.cell? ⟨gb, go + i * 14 + 7, none⟩ = some (.int .i64 x0) ∧ W.cell? ⟨gb, go + i * 14 + 8, none⟩ = some (.bool x1) ∧ W.cell? ⟨gb, go + i * 14 + 9, none⟩ = some (.int .u64 x2) ∧ W.cell? ⟨gb, go + i * 14 + 10, none⟩ = some (.bool x3) ∧ W.cell? ⟨gb, go + i * 14 + 11, none⟩ = some (.int .u64 x4) ∧ W.cell? ⟨gb, go + i * 14 + 12, none⟩ = some (.int .u64 x5) ∧ W.cell? ⟨gb, go + i * 14 + 13, none⟩ = some (.slice pa pn pc)) ∧ W.cell? ⟨wb, 0, none⟩ = some (.int .i64 fr) ∧ W.cell? ⟨wb, 1, none⟩ = some (.int .i64 tg) ∧ W.cell? ⟨wb, 2, none⟩ = some (.bool false) ∧ W.cell? ⟨wb, 3, none⟩ = some (.int .i64 (j : Int)) ∧ W.cell? ⟨wb, 4, none⟩ = some (.int .i64 op) ∧ W.cell? ⟨wb, 5, none⟩ = some (.int .u64 dk) ∧ W.cell? ⟨wb, 6, none⟩ = some (.int .u64 dv) ∧ W.cell? ⟨wb, 7, none⟩ = some (.int .i64 x0) ∧ W.cell? ⟨wb, 8, none⟩ = some (.bool x1) ∧ W.cell? ⟨wb, 9, none⟩ = some (.int .u64 x2) ∧ W.cell? ⟨wb, 10, none⟩ = some (.bool x3) ∧ W.cell? ⟨wb, 11, none⟩ = some (.int .u64 x4) ∧ W.cell? ⟨wb, 12, none⟩ = some (.int .u64 x5) ∧ W.cell? ⟨wb, 13, none⟩ = some (.slice none 0 0)) (by kernel_rfl) ?_ (fun hHeld => ?_)
          · exact (HK47.out _ HZ.out)
          try simp only [Act.put, List.getElem_toArray, List.getElem_cons_succ, List.getElem_cons_zero, List.setIfInBounds_toArray, List.set_cons_zero, List.set_cons_succ]
          refine wpAnyH_take (i := 0) (v := ?vdpz0) rfl (by kernel_rfl) (by kernel_rfl) (by kernel_rfl) (fun _ _ _ h => h) (Or.inl ⟨by rfl, ?hydpz0⟩) (by assumption) ?restdpz0
          case hydpz0 =>
            intro w hSw
            try dsimp only at hSw
            go_simp
            all_goals with_reducible rfl
          simp only [Act.put, List.getElem_toArray, List.getElem_cons_succ, List.getElem_cons_zero, List.setIfInBounds_toArray, List.set_cons_zero, List.set_cons_succ]
          refine wpAnyH_take (i := 1) (v := ?vdpz1) rfl (by kernel_rfl) (by kernel_rfl) (by kernel_rfl) (fun _ _ _ h => h) (Or.inl ⟨by rfl, ?hydpz1⟩) (by assumption) ?restdpz1
          case hydpz1 =>
            intro w hSw
            try dsimp only at hSw
            go_simp
            all_goals with_reducible rfl
          simp only [Act.put, List.getElem_toArray, List.getElem_cons_succ, List.getElem_cons_zero, List.setIfInBounds_toArray, List.set_cons_zero, List.set_cons_succ]
          refine wpAnyH_take (i := 2) (v := ?vdpz2) rfl (by kernel_rfl) (by kernel_rfl) (by kernel_rfl) (fun _ _ _ h => h) (Or.inl ⟨by rfl, ?hydpz2⟩) (by assumption) ?restdpz2
          case hydpz2 =>
            intro w hSw
            try dsimp only at hSw
            go_simp
            all_goals with_reducible rfl
          simp only [Act.put, List.getElem_toArray, List.getElem_cons_succ, List.getElem_cons_zero, List.setIfInBounds_toArray, List.set_cons_zero, List.set_cons_succ]
          refine wpAnyH_take (i := 3) (v := ?vdpz3) rfl (by kernel_rfl) (by kernel_rfl) (by kernel_rfl) (fun _ _ _ h => h) (Or.inl ⟨by rfl, ?hydpz3⟩) (by assumption) ?restdpz3
          case hydpz3 =>
            intro w hSw
            try dsimp only at hSw
            go_simp
            all_goals with_reducible rfl
          simp only [Act.put, List.getElem_toArray, List.getElem_cons_succ, List.getElem_cons_zero, List.setIfInBounds_toArray, List.set_cons_zero, List.set_cons_succ]
          refine wpAnyH_take (i := 4) (v := ?vdpz4) rfl (by kernel_rfl) (by kernel_rfl) (by kernel_rfl) (fun _ _ _ h => h) (Or.inl ⟨by rfl, ?hydpz4⟩) (by assumption) ?restdpz4
          case hydpz4 =>
            intro w hSw
            try dsimp only at hSw
            go_simp
            all_goals with_reducible rfl
          simp only [Act.put, List.getElem_toArray, List.getElem_cons_succ, List.getElem_cons_zero, List.setIfInBounds_toArray, List.set_cons_zero, List.set_cons_succ]
          refine wpAnyH_ready (rs := [5]) (by kernel_rfl) (by simp) ?_
          refine AllReadyH.cons rfl (fun K hK => ?_) AllReadyH.nil
          go_simp
          refine (HZ.out.callRead (Sep.framed (Sep.framed (Sep.framed MineS.framed (Sep.framed OwnS.framed (Sep.framed GotS.framed (Sep.framed OwS.framed Blk.framed)))) OwS.framed) Locs.framed) (E := fun e => e = .returned (.bool true)) (HAK.out _ HZ.out)).mono ?_
          rintro e wz2 ⟨rfl, hz2⟩
          have HZ2 := Lib.hid hz2
          clear hz2
          try go_wp2_with fail
          refine hK.out _ _ ?_ (fun hHeld => ?_)
          · exact (HK47.out _ HZ2.out)
          clear hK K
          try simp only [Act.put, List.getElem_toArray, List.getElem_cons_succ, List.getElem_cons_zero, List.setIfInBounds_toArray, List.set_cons_zero, List.set_cons_succ]
          refine wpAnyH_take (i := 6) (v := ?vdpz6) rfl (by kernel_rfl) (by kernel_rfl) (by kernel_rfl) (fun _ _ _ h => h) (Or.inl ⟨by rfl, ?hydpz6⟩) (by assumption) ?restdpz6
          case hydpz6 =>
            intro w hSw
            try dsimp only at hSw
            go_simp
            all_goals with_reducible rfl
          simp only [Act.put, List.getElem_toArray, List.getElem_cons_succ, List.getElem_cons_zero, List.setIfInBounds_toArray, List.set_cons_zero, List.set_cons_succ]
          clear hHeld
          refine wpAnyH_done (by kernel_rfl) ?_ _
          refine NoPanic.normal ?_
          refine NoPanic.normal ?_
          go_wp2_with fail
          have HZ3 := Lib.hid (HZ2.out.imp fun _ h => (h.left (Sep.framed (Sep.framed MineS.framed (Sep.framed OwnS.framed (Sep.framed GotS.framed (Sep.framed OwS.framed Blk.framed)))) OwS.framed)).left (Sep.framed MineS.framed (Sep.framed OwnS.framed (Sep.framed GotS.framed (Sep.framed OwS.framed Blk.framed)))))
          refine ⟨⟨i + 1, by omega, by simp, ?_⟩, ?_⟩
          · rw [HRT.out, hsn]; exact HZ3
          · first | omega | (simp only [intOf]; omega)
        | bound b0 b => 
          have HGj := Lib.hid (show SGood true mm[j].2.2 ssi[j] by have := HGi.out.good j hjm hjs; rw [hai] at this; exact this)
          have HCM := Lib.hid (show ∀ ss2 T W, MineS (.slice (some ⟨mb, mo, none⟩) mm.length mc) mm ss2 T W → W.cell? ⟨mb, mo + j, none⟩ = some (.iface 99 (.pointer (some ⟨b0, 0, none⟩))) from fun ss2 T W h => by
            have := HSM.out ss2 T W h
            rw [hai] at this
            exact this)
          have HAT := Lib.hid (show ∀ T W, MineS (.slice (some ⟨mb, mo, none⟩) mm.length mc) mm ssi T W → ∃ A, ShardS (.bound b0 b) mm[j].2.2 ssi[j] A W ∧ ∀ s' w', Upd (ShardS (.bound b0 b) mm[j].2.2 s') A W w' → Upd (MineS (.slice (some ⟨mb, mo, none⟩) mm.length mc) mm (ssi.set j s')) T W w' from fun T W h => by
            have := h.at j hjm hjs
            rwa [hai] at this)
          have cmm := HCM.out _ _ _ hzm
          have hcm := cm_lru_do b0 op dk dv
          obtain ⟨hps, hof, s2, hsh, hsn⟩ := HWK.out rfl
          subst hps
          have HD := Lib.hid (show shP true mm[j].2.2 ssi[j] op dk dv = ((x0, x1, x2, x3, x4, x5), s2) by have := HBM.out; rw [hai] at this; rw [show true = decide (mm[j].2.1 = 1) from this, HDJ.out]; exact hsh)
          have hofb : (ofS dk n != sd) = false := by simpa using hof
          have HOF := Lib.hid (fun w => of_any dk n w (by have := HN4.out; omega))
          clear hai hzm hof hsh
          go_wp2_with fail
          have HL2 := Lib.hid (st_two (B := (reqO fr tg false j op dk dv)) (C := (repO fr tg false j op dk dv 0 false 0 false 0 0 (.slice none 0 0))) (Sep.framed MineS.framed (Sep.framed OwnS.framed (Sep.framed GotS.framed (Sep.framed OwS.framed Blk.framed)))) V.out)
          have HNE := Lib.hid (show wr.heap.size ≠ wr.heap.size + 1 by omega)
          generalize World.alloc (World.alloc wr _) _ = wl at *
          generalize wr.heap.size + 1 = wb at *
          generalize wr.heap.size = qb at *
          have HK44 := Lib.hid (show ∀ (C : Obj) (ss2 : List Sh) W, Upd (Sep (Sep (MineS (.slice (some ⟨mb, mo, none⟩) mm.length mc) mm ss2) (Sep (OwnS ga sd n ml ssE [] false) (Sep (GotS (.slice (some ⟨gb, go, none⟩) rl.length gC) rl pl) (Sep (fun S w => OwS eReq 37 S w (.slice (some ⟨tb, tof, none⟩) took.length tC) took) (Blk bd (shO sd n (.slice am ds.length cm))))))) (Locs [(wb, C), (qb, (reqO fr tg false j op dk dv))])) (fun _ => False) w W → W.cell? ⟨qb, 5, none⟩ = some (.int .u64 dk) ∧ W.cell? ⟨bd, 1, none⟩ = some (.int .i64 n) ∧ W.cell? ⟨bd, 0, none⟩ = some (.int .i64 sd) from fun C ss2 W h => by
            obtain ⟨_, hp⟩ := h.getL
            have hq := h.get (g := qb) (List.mem_cons_of_mem _ (List.mem_cons_self ..))
            have hk := (((hp.right (Sep.framed OwnS.framed (Sep.framed GotS.framed (Sep.framed OwS.framed Blk.framed)))).right (Sep.framed GotS.framed (Sep.framed OwS.framed Blk.framed))).right (Sep.framed OwS.framed Blk.framed)).right Blk.framed
            exact ⟨blk_cell hq 5, blk_cell hk.1 1, blk_cell hk.1 0⟩)
          refine wp_region_noPanic ?_
          have HL3 := Lib.hid (HL2.out.drewU (Sep.framed (Sep.framed MineS.framed (Sep.framed OwnS.framed (Sep.framed GotS.framed (Sep.framed OwS.framed Blk.framed)))) Locs.framed))
          refine wp_region_noPanic ?_
          refine wp_region_held_drew (S := fun W => W.cell? ⟨qb, 5, none⟩ = some (.int .u64 dk) ∧ W.cell? ⟨bd, 1, none⟩ = some (.int .i64 n) ∧ W.cell? ⟨bd, 0, none⟩ = some (.int .i64 sd)) (by kernel_rfl) ?_ (fun hHeld => ?_)
          · exact (HK44.out _ _ _ HL3.out)
          try simp only [Act.put, List.getElem_toArray, List.getElem_cons_succ, List.getElem_cons_zero, List.setIfInBounds_toArray, List.set_cons_zero, List.set_cons_succ]
          refine wpAnyH_take (i := 0) (v := ?vdbx0) rfl (by kernel_rfl) (by kernel_rfl) (by kernel_rfl) (fun _ _ _ h => h) (Or.inl ⟨by rfl, ?hydbx0⟩) (by assumption) ?restdbx0
          case hydbx0 =>
            intro w hSw
            try dsimp only at hSw
            go_simp
            all_goals with_reducible rfl
          simp only [Act.put, List.getElem_toArray, List.getElem_cons_succ, List.getElem_cons_zero, List.setIfInBounds_toArray, List.set_cons_zero, List.set_cons_succ]
          refine wpAnyH_take (i := 1) (v := ?vdbx1) rfl (by kernel_rfl) (by kernel_rfl) (by kernel_rfl) (fun _ _ _ h => h) (Or.inl ⟨by rfl, ?hydbx1⟩) (by assumption) ?restdbx1
          case hydbx1 =>
            intro w hSw
            try dsimp only at hSw
            go_simp
            all_goals with_reducible rfl
          simp only [Act.put, List.getElem_toArray, List.getElem_cons_succ, List.getElem_cons_zero, List.setIfInBounds_toArray, List.set_cons_zero, List.set_cons_succ]
          refine wpAnyH_take (i := 2) (v := ?vdbx2) rfl (by kernel_rfl) (by kernel_rfl) (by kernel_rfl) (fun _ _ _ h => h) (Or.inl ⟨by rfl, ?hydbx2⟩) (by assumption) ?restdbx2
          case hydbx2 =>
            intro w hSw
            try dsimp only at hSw
            go_simp
            all_goals with_reducible rfl
          simp only [Act.put, List.getElem_toArray, List.getElem_cons_succ, List.getElem_cons_zero, List.setIfInBounds_toArray, List.set_cons_zero, List.set_cons_succ]
          refine wpAnyH_take (i := 3) (v := ?vdbx3) rfl (by kernel_rfl) (by kernel_rfl) (by kernel_rfl) (fun _ _ _ h => h) (Or.inl ⟨by rfl, ?hydbx3⟩) (by assumption) ?restdbx3
          case hydbx3 =>
            intro w hSw
            try dsimp only at hSw
            go_simp
            all_goals with_reducible rfl
          simp only [Act.put, List.getElem_toArray, List.getElem_cons_succ, List.getElem_cons_zero, List.setIfInBounds_toArray, List.set_cons_zero, List.set_cons_succ]
          refine wpAnyH_take (i := 4) (v := ?vdbx4) rfl (by kernel_rfl) (by kernel_rfl) (by kernel_rfl) (fun _ _ _ h => h) (Or.inl ⟨by rfl, ?hydbx4⟩) (by assumption) ?restdbx4
          case hydbx4 =>
            intro w hSw
            try dsimp only at hSw
            go_simp
            all_goals with_reducible rfl
          simp only [Act.put, List.getElem_toArray, List.getElem_cons_succ, List.getElem_cons_zero, List.setIfInBounds_toArray, List.set_cons_zero, List.set_cons_succ]
          refine wpAnyH_take (i := 6) (v := ?vdbx6) rfl (by kernel_rfl) (by kernel_rfl) (by kernel_rfl) (fun _ _ _ h => h) (Or.inl ⟨by rfl, ?hydbx6⟩) (by assumption) ?restdbx6
          case hydbx6 =>
            intro w hSw
            try dsimp only at hSw
            go_simp
            all_goals with_reducible rfl
          simp only [Act.put, List.getElem_toArray, List.getElem_cons_succ, List.getElem_cons_zero, List.setIfInBounds_toArray, List.set_cons_zero, List.set_cons_succ]
          refine wpAnyH_take (i := 7) (v := ?vdbx7) rfl (by kernel_rfl) (by kernel_rfl) (by kernel_rfl) (fun _ _ _ h => h) (Or.inl ⟨by rfl, ?hydbx7⟩) (by assumption) ?restdbx7
          case hydbx7 =>
            intro w hSw
            try dsimp only at hSw
            go_simp
            all_goals with_reducible rfl
          simp only [Act.put, List.getElem_toArray, List.getElem_cons_succ, List.getElem_cons_zero, List.setIfInBounds_toArray, List.set_cons_zero, List.set_cons_succ]
          refine wpAnyH_ready (rs := [5]) (by kernel_rfl) (by simp) ?_
          refine AllReadyH.cons rfl (fun K hK => ?_) AllReadyH.nil
          go_simp
          refine (HOF.out _).mono ?_
          rintro e wo ⟨rfl, rfl⟩
          try go_wp2_with fail
          refine hK.out _ _ ?_ (fun hHeld => ?_)
          · exact hHeld
          clear hK K
          try simp only [Act.put, List.getElem_toArray, List.getElem_cons_succ, List.getElem_cons_zero, List.setIfInBounds_toArray, List.set_cons_zero, List.set_cons_succ]
          refine wpAnyH_take (i := 8) (v := ?vdbx8) rfl (by kernel_rfl) (by kernel_rfl) (by kernel_rfl) (fun _ _ _ h => h) (Or.inl ⟨by rfl, ?hydbx8⟩) (by assumption) ?restdbx8
          case hydbx8 =>
            intro w hSw
            try dsimp only at hSw
            go_simp
            all_goals with_reducible rfl
          simp only [Act.put, List.getElem_toArray, List.getElem_cons_succ, List.getElem_cons_zero, List.setIfInBounds_toArray, List.set_cons_zero, List.set_cons_succ]
          clear hHeld
          refine wpAnyH_done (by kernel_rfl) ?_ _
          refine NoPanic.normal ?_
          refine NoPanic.normal ?_
          go_wp2_with fail
          have HK46 := Lib.hid (show ∀ (C : Obj) (ss2 : List Sh) W, Upd (Sep (Sep (MineS (.slice (some ⟨mb, mo, none⟩) mm.length mc) mm ss2) (Sep (OwnS ga sd n ml ssE [] false) (Sep (GotS (.slice (some ⟨gb, go, none⟩) rl.length gC) rl pl) (Sep (fun S w => OwS eReq 37 S w (.slice (some ⟨tb, tof, none⟩) took.length tC) took) (Blk bd (shO sd n (.slice am ds.length cm))))))) (Locs [(wb, C), (qb, (reqO fr tg false j op dk dv))])) (fun _ => False) w W → W.cell? ⟨mb, mo + j, none⟩ = some (.iface 99 (.pointer (some ⟨b0, 0, none⟩))) ∧ W.cell? ⟨qb, 3, none⟩ = some (.int .i64 (j : Int)) ∧ W.cell? ⟨qb, 4, none⟩ = some (.int .i64 op) ∧ W.cell? ⟨qb, 5, none⟩ = some (.int .u64 dk) ∧ W.cell? ⟨qb, 6, none⟩ = some (.int .u64 dv) from fun C ss2 W h => by
            obtain ⟨_, hp⟩ := h.getL
            have hq := h.get (g := qb) (List.mem_cons_of_mem _ (List.mem_cons_self ..))
            exact ⟨HCM.out _ _ _ (hp.left MineS.framed), blk_cell hq 3, blk_cell hq 4, blk_cell hq 5, blk_cell hq 6⟩)
          have HL4 := Lib.hid (HL3.out.drewU (Sep.framed (Sep.framed MineS.framed (Sep.framed OwnS.framed (Sep.framed GotS.framed (Sep.framed OwS.framed Blk.framed)))) Locs.framed))
          refine wp_region_noPanic ?_
          refine wp_region_held_drew (S := fun W => W.cell? ⟨mb, mo + j, none⟩ = some (.iface 99 (.pointer (some ⟨b0, 0, none⟩))) ∧ W.cell? ⟨qb, 3, none⟩ = some (.int .i64 (j : Int)) ∧ W.cell? ⟨qb, 4, none⟩ = some (.int .i64 op) ∧ W.cell? ⟨qb, 5, none⟩ = some (.int .u64 dk) ∧ W.cell? ⟨qb, 6, none⟩ = some (.int .u64 dv)) (by kernel_rfl) ?_ (fun hHeld => ?_)
          · exact (HK46.out _ _ _ HL4.out)
          try simp only [Act.put, List.getElem_toArray, List.getElem_cons_succ, List.getElem_cons_zero, List.setIfInBounds_toArray, List.set_cons_zero, List.set_cons_succ]
          refine wpAnyH_take (i := 0) (v := ?vdby0) rfl (by kernel_rfl) (by kernel_rfl) (by kernel_rfl) (fun _ _ _ h => h) (Or.inl ⟨by rfl, ?hydby0⟩) (by assumption) ?restdby0
          case hydby0 =>
            intro w hSw
            try dsimp only at hSw
            go_simp
            all_goals with_reducible rfl
          simp only [Act.put, List.getElem_toArray, List.getElem_cons_succ, List.getElem_cons_zero, List.setIfInBounds_toArray, List.set_cons_zero, List.set_cons_succ]
          refine wpAnyH_take (i := 1) (v := ?vdby1) rfl (by kernel_rfl) (by kernel_rfl) (by kernel_rfl) (fun _ _ _ h => h) (Or.inl ⟨by rfl, ?hydby1⟩) (by assumption) ?restdby1
          case hydby1 =>
            intro w hSw
            try dsimp only at hSw
            go_simp
            all_goals with_reducible rfl
          simp only [Act.put, List.getElem_toArray, List.getElem_cons_succ, List.getElem_cons_zero, List.setIfInBounds_toArray, List.set_cons_zero, List.set_cons_succ]
          refine wpAnyH_take (i := 2) (v := ?vdby2) rfl (by kernel_rfl) (by kernel_rfl) (by kernel_rfl) (fun _ _ _ h => h) (Or.inl ⟨by rfl, ?hydby2⟩) (by assumption) ?restdby2
          case hydby2 =>
            intro w hSw
            try dsimp only at hSw
            go_simp
            all_goals with_reducible rfl
          simp only [Act.put, List.getElem_toArray, List.getElem_cons_succ, List.getElem_cons_zero, List.setIfInBounds_toArray, List.set_cons_zero, List.set_cons_succ]
          refine wpAnyH_take (i := 3) (v := ?vdby3) rfl (by kernel_rfl) (by kernel_rfl) (by kernel_rfl) (fun _ _ _ h => h) (Or.inl ⟨by rfl, ?hydby3⟩) (by assumption) ?restdby3
          case hydby3 =>
            intro w hSw
            try dsimp only at hSw
            go_simp
            all_goals with_reducible rfl
          simp only [Act.put, List.getElem_toArray, List.getElem_cons_succ, List.getElem_cons_zero, List.setIfInBounds_toArray, List.set_cons_zero, List.set_cons_succ]
          refine wpAnyH_take (i := 4) (v := ?vdby4) rfl (by kernel_rfl) (by kernel_rfl) (by kernel_rfl) (fun _ _ _ h => h) (Or.inl ⟨by rfl, ?hydby4⟩) (by assumption) ?restdby4
          case hydby4 =>
            intro w hSw
            try dsimp only at hSw
            go_simp
            all_goals with_reducible rfl
          simp only [Act.put, List.getElem_toArray, List.getElem_cons_succ, List.getElem_cons_zero, List.setIfInBounds_toArray, List.set_cons_zero, List.set_cons_succ]
          refine wpAnyH_take (i := 5) (v := ?vdby5) rfl (by kernel_rfl) (by kernel_rfl) (by kernel_rfl) (fun _ _ _ h => h) (Or.inl ⟨by rfl, ?hydby5⟩) (by assumption) ?restdby5
          case hydby5 =>
            intro w hSw
            try dsimp only at hSw
            go_simp
            all_goals with_reducible rfl
          simp only [Act.put, List.getElem_toArray, List.getElem_cons_succ, List.getElem_cons_zero, List.setIfInBounds_toArray, List.set_cons_zero, List.set_cons_succ]
          refine wpAnyH_take (i := 6) (v := ?vdby6) rfl (by kernel_rfl) (by kernel_rfl) (by kernel_rfl) (fun _ _ _ h => h) (Or.inl ⟨by rfl, ?hydby6⟩) (by assumption) ?restdby6
          case hydby6 =>
            intro w hSw
            try dsimp only at hSw
            go_simp
            all_goals with_reducible rfl
          simp only [Act.put, List.getElem_toArray, List.getElem_cons_succ, List.getElem_cons_zero, List.setIfInBounds_toArray, List.set_cons_zero, List.set_cons_succ]
          refine wpAnyH_take (i := 7) (v := ?vdby7) rfl (by kernel_rfl) (by kernel_rfl) (by kernel_rfl) (fun _ _ _ h => h) (Or.inl ⟨by rfl, ?hydby7⟩) (by assumption) ?restdby7
          case hydby7 =>
            intro w hSw
            try dsimp only at hSw
            go_simp
            all_goals with_reducible rfl
          simp only [Act.put, List.getElem_toArray, List.getElem_cons_succ, List.getElem_cons_zero, List.setIfInBounds_toArray, List.set_cons_zero, List.set_cons_succ]
          refine wpAnyH_take (i := 8) (v := ?vdby8) rfl (by kernel_rfl) (by kernel_rfl) (by kernel_rfl) (fun _ _ _ h => h) (Or.inl ⟨by rfl, ?hydby8⟩) (by assumption) ?restdby8
          case hydby8 =>
            intro w hSw
            try dsimp only at hSw
            go_simp
            all_goals with_reducible rfl
          simp only [Act.put, List.getElem_toArray, List.getElem_cons_succ, List.getElem_cons_zero, List.setIfInBounds_toArray, List.set_cons_zero, List.set_cons_succ]
          refine wpAnyH_take (i := 9) (v := ?vdby9) rfl (by kernel_rfl) (by kernel_rfl) (by kernel_rfl) (fun _ _ _ h => h) (Or.inl ⟨by rfl, ?hydby9⟩) (by assumption) ?restdby9
          case hydby9 =>
            intro w hSw
            try dsimp only at hSw
            go_simp
            all_goals with_reducible rfl
          simp only [Act.put, List.getElem_toArray, List.getElem_cons_succ, List.getElem_cons_zero, List.setIfInBounds_toArray, List.set_cons_zero, List.set_cons_succ]
          refine wpAnyH_take (i := 10) (v := ?vdby10) rfl (by kernel_rfl) (by kernel_rfl) (by kernel_rfl) (fun _ _ _ h => h) (Or.inl ⟨by rfl, ?hydby10⟩) (by assumption) ?restdby10
          case hydby10 =>
            intro w hSw
            try dsimp only at hSw
            go_simp
            all_goals with_reducible rfl
          simp only [Act.put, List.getElem_toArray, List.getElem_cons_succ, List.getElem_cons_zero, List.setIfInBounds_toArray, List.set_cons_zero, List.set_cons_succ]
          refine wpAnyH_take (i := 11) (v := ?vdby11) rfl (by kernel_rfl) (by kernel_rfl) (by kernel_rfl) (fun _ _ _ h => h) (Or.inl ⟨by rfl, ?hydby11⟩) (by assumption) ?restdby11
          case hydby11 =>
            intro w hSw
            try dsimp only at hSw
            go_simp
            all_goals with_reducible rfl
          simp only [Act.put, List.getElem_toArray, List.getElem_cons_succ, List.getElem_cons_zero, List.setIfInBounds_toArray, List.set_cons_zero, List.set_cons_succ]
          refine wpAnyH_take (i := 12) (v := ?vdby12) rfl (by kernel_rfl) (by kernel_rfl) (by kernel_rfl) (fun _ _ _ h => h) (Or.inl ⟨by rfl, ?hydby12⟩) (by assumption) ?restdby12
          case hydby12 =>
            intro w hSw
            try dsimp only at hSw
            go_simp
            all_goals with_reducible rfl
          simp only [Act.put, List.getElem_toArray, List.getElem_cons_succ, List.getElem_cons_zero, List.setIfInBounds_toArray, List.set_cons_zero, List.set_cons_succ]
          refine wpAnyH_take (i := 13) (v := ?vdby13) rfl (by kernel_rfl) (by kernel_rfl) (by kernel_rfl) (fun _ _ _ h => h) (Or.inl ⟨by rfl, ?hydby13⟩) (by assumption) ?restdby13
          case hydby13 =>
            intro w hSw
            try dsimp only at hSw
            go_simp
            all_goals with_reducible rfl
          simp only [Act.put, List.getElem_toArray, List.getElem_cons_succ, List.getElem_cons_zero, List.setIfInBounds_toArray, List.set_cons_zero, List.set_cons_succ]
          refine wpAnyH_take (i := 14) (v := ?vdby14) rfl (by kernel_rfl) (by kernel_rfl) (by kernel_rfl) (fun _ _ _ h => h) (Or.inl ⟨by rfl, ?hydby14⟩) (by assumption) ?restdby14
          case hydby14 =>
            intro w hSw
            try dsimp only at hSw
            go_simp
            all_goals with_reducible rfl
          simp only [Act.put, List.getElem_toArray, List.getElem_cons_succ, List.getElem_cons_zero, List.setIfInBounds_toArray, List.set_cons_zero, List.set_cons_succ]
          refine wpAnyH_ready (rs := [15]) (by kernel_rfl) (by simp) ?_
          refine AllReadyH.cons rfl (fun K hK => ?_) AllReadyH.nil
          go_simp
          refine (HL4.out.via Locs.framed (P' := (Sep (MineS (.slice (some ⟨mb, mo, none⟩) mm.length mc) mm (ssi.set j s2)) (Sep (OwnS ga sd n ml ssE [] false) (Sep (GotS (.slice (some ⟨gb, go, none⟩) rl.length gC) rl pl) (Sep (fun S w => OwS eReq 37 S w (.slice (some ⟨tb, tof, none⟩) took.length tC) took) (Blk bd (shO sd n (.slice am ds.length cm)))))))) (Sep.framed MineS.framed (Sep.framed OwnS.framed (Sep.framed GotS.framed (Sep.framed OwS.framed Blk.framed)))) fun A hA => by
            obtain ⟨D, hD, hb⟩ := hA.focus (Sep.framed OwnS.framed (Sep.framed GotS.framed (Sep.framed OwS.framed Blk.framed)))
            obtain ⟨B, hB, hb2⟩ := HAT.out _ _ hD
            exact (shDo_bound hB HGj.out HD.out).mono fun e w' ⟨he, hu⟩ => ⟨he, hb _ w' MineS.framed (hb2 _ _ hu)⟩).mono ?_
          rintro e w1 ⟨rfl, hU1⟩
          have HU1 := Lib.hid hU1
          clear hU1
          try go_wp2_with fail
          refine hK.out _ _ ?_ (fun hHeld => ?_)
          · exact (HK46.out _ _ _ HU1.out)
          clear hK K
          try simp only [Act.put, List.getElem_toArray, List.getElem_cons_succ, List.getElem_cons_zero, List.setIfInBounds_toArray, List.set_cons_zero, List.set_cons_succ]
          refine wpAnyH_take (i := 16) (v := ?vdby16) rfl (by kernel_rfl) (by kernel_rfl) (by kernel_rfl) (fun _ _ _ h => h) (Or.inl ⟨by rfl, ?hydby16⟩) (by assumption) ?restdby16
          case hydby16 =>
            intro w hSw
            try dsimp only at hSw
            go_simp
            all_goals with_reducible rfl
          simp only [Act.put, List.getElem_toArray, List.getElem_cons_succ, List.getElem_cons_zero, List.setIfInBounds_toArray, List.set_cons_zero, List.set_cons_succ]
          clear hHeld
          refine wpAnyH_ready (rs := [17]) (by kernel_rfl) (by simp) ?_
          refine AllReadyH.cons rfl (fun K hK => ?_) AllReadyH.nil
          rw [if_pos (by rfl)]
          have hpb := HU1.out.get (g := wb) (List.mem_cons_self ..)
          have HU2 := Lib.hid (locs_two' (C' := (repO fr tg false j op dk dv x0 x1 x2 x3 x4 x5 (.slice none 0 0))) (Sep.framed MineS.framed (Sep.framed OwnS.framed (Sep.framed GotS.framed (Sep.framed OwS.framed Blk.framed)))) HU1.out HNE.out (only_setCells wb (resL (x0, x1, x2, x3, x4, x5)) 7 w1) (set7 (x0, x1, x2, x3, x4, x5) _ hpb))
          refine wp_store_mid 41 (.tmp 224) (.tmp 223) rfl wb 7 #[.int .i64 x0, .bool x1, .int .u64 x2, .bool x3, .int .u64 x4, .int .u64 x5] rfl rfl (there7 _ hpb) (by kernel_rfl) (res_one _ _ _ _ _ _) ?_
          clear hpb
          refine hK.out _ _ ?_ (fun hHeld => ?_)
          · exact (HK46.out _ _ _ HU2.out)
          clear hK K hHeld
          try simp only [Act.put, List.getElem_toArray, List.getElem_cons_succ, List.getElem_cons_zero, List.setIfInBounds_toArray, List.set_cons_zero, List.set_cons_succ]
          refine wpAnyH_done (by kernel_rfl) ?_ _
          refine NoPanic.normal ?_
          obtain ⟨ws, hws⟩ : ∃ ws, ws = w1.setCells wb 7 (resL (x0, x1, x2, x3, x4, x5)) := ⟨_, rfl⟩
          rw [← hws] at HU2
          rw [← hws]
          clear hws
          go_wp2_with fail
          have HN2 := Lib.hid (show Upd (Sep (Sep (Sep (MineS (.slice (some ⟨mb, mo, none⟩) mm.length mc) mm (ssi.set j s2)) (Sep (OwnS ga sd n ml ssE [] false) (Sep (GotS (.slice (some ⟨gb, go, none⟩) rl.length gC) rl pl) (Sep (fun S w => OwS eReq 37 S w (.slice (some ⟨tb, tof, none⟩) took.length tC) took) (Blk bd (shO sd n (.slice am ds.length cm))))))) (fun S w => OwS ePair 50 S w (.slice none 0 0) ([] : List PairD))) (Locs [(wb, (repO fr tg false j op dk dv x0 x1 x2 x3 x4 x5 (.slice none 0 0))), (qb, (reqO fr tg false j op dk dv))])) (fun _ => False) w ws from HU2.out.imp fun _ h => h.imp (fun _ h => (Sep.nilL h).swap) fun _ h => h)
          clear HU1 HL2 HL3 HL4 HU2 V
          have HK47 := Lib.hid (show ∀ W, Upd (Sep (Sep (Sep (MineS (.slice (some ⟨mb, mo, none⟩) mm.length mc) mm (ssi.set j s2)) (Sep (OwnS ga sd n ml ssE [] false) (Sep (GotS (.slice (some ⟨gb, go, none⟩) rl.length gC) rl pl) (Sep (fun S w => OwS eReq 37 S w (.slice (some ⟨tb, tof, none⟩) took.length tC) took) (Blk bd (shO sd n (.slice am ds.length cm))))))) (fun S w => OwS ePair 50 S w (.slice none 0 0) ([] : List PairD))) (Locs [(wb, (repO fr tg false j op dk dv x0 x1 x2 x3 x4 x5 (.slice none 0 0))), (qb, (reqO fr tg false j op dk dv))])) (fun _ => False) w W → ((W.cell? ⟨gb, go + i * 14, none⟩ = some (.int .i64 fr) ∧ W.cell? ⟨gb, go + i * 14 + 1, none⟩ = some (.int .i64 tg) ∧ W.cell? ⟨gb, go + i * 14 + 2, none⟩ = some (.bool false) ∧ W.cell? ⟨gb, go + i * 14 + 3, none⟩ = some (.int .i64 (j : Int)) ∧ W.cell? ⟨gb, go + i * 14 + 4, none⟩ = some (.int .i64 op) ∧ W.cell? ⟨gb, go + i * 14 + 5, none⟩ = some (.int .u64 dk) ∧ W.cell? ⟨gb, go + i * 14 + 6, none⟩ = some (.int .u64 dv) ∧ W.cell? ⟨gb, go + i * 14 + 7, none⟩ = some (.int .i64 x0) ∧ W.cell? ⟨gb, go + i * 14 + 8, none⟩ = some (.bool x1) ∧ W.cell? ⟨gb, go + i * 14 + 9, none⟩ = some (.int .u64 x2) ∧ W.cell? ⟨gb, go + i * 14 + 10, none⟩ = some (.bool x3) ∧ W.cell? ⟨gb, go + i * 14 + 11, none⟩ = some (.int .u64 x4) ∧ W.cell? ⟨gb, go + i * 14 + 12, none⟩ = some (.int .u64 x5) ∧ W.cell? ⟨gb, go + i * 14 + 13, none⟩ = some (.slice pa pn pc)) ∧ W.cell? ⟨wb, 0, none⟩ = some (.int .i64 fr) ∧ W.cell? ⟨wb, 1, none⟩ = some (.int .i64 tg) ∧ W.cell? ⟨wb, 2, none⟩ = some (.bool false) ∧ W.cell? ⟨wb, 3, none⟩ = some (.int .i64 (j : Int)) ∧ W.cell? ⟨wb, 4, none⟩ = some (.int .i64 op) ∧ W.cell? ⟨wb, 5, none⟩ = some (.int .u64 dk) ∧ W.cell? ⟨wb, 6, none⟩ = some (.int .u64 dv) ∧ W.cell? ⟨wb, 7, none⟩ = some (.int .i64 x0) ∧ W.cell? ⟨wb, 8, none⟩ = some (.bool x1) ∧ W.cell? ⟨wb, 9, none⟩ = some (.int .u64 x2) ∧ W.cell? ⟨wb, 10, none⟩ = some (.bool x3) ∧ W.cell? ⟨wb, 11, none⟩ = some (.int .u64 x4) ∧ W.cell? ⟨wb, 12, none⟩ = some (.int .u64 x5) ∧ W.cell? ⟨wb, 13, none⟩ = some (.slice none 0 0)) from fun W h => by
            obtain ⟨_, hp⟩ := h.getL
            have hw := h.get (g := wb) (List.mem_cons_self ..)
            have hg := HGC.out W ((((hp.left (Sep.framed MineS.framed (Sep.framed OwnS.framed (Sep.framed GotS.framed (Sep.framed OwS.framed Blk.framed))))).right (Sep.framed OwnS.framed (Sep.framed GotS.framed (Sep.framed OwS.framed Blk.framed)))).right (Sep.framed GotS.framed (Sep.framed OwS.framed Blk.framed))).left GotS.framed).1.rd
            exact ⟨hg, blk_cell hw 0, blk_cell hw 1, blk_cell hw 2, blk_cell hw 3, blk_cell hw 4, blk_cell hw 5, blk_cell hw 6, blk_cell hw 7, blk_cell hw 8, blk_cell hw 9, blk_cell hw 10, blk_cell hw 11, blk_cell hw 12, blk_cell hw 13⟩)
          have HAK := Lib.hid (show ∀ W, Upd (Sep (Sep (Sep (MineS (.slice (some ⟨mb, mo, none⟩) mm.length mc) mm (ssi.set j s2)) (Sep (OwnS ga sd n ml ssE [] false) (Sep (GotS (.slice (some ⟨gb, go, none⟩) rl.length gC) rl pl) (Sep (fun S w => OwS eReq 37 S w (.slice (some ⟨tb, tof, none⟩) took.length tC) took) (Blk bd (shO sd n (.slice am ds.length cm))))))) (fun S w => OwS ePair 50 S w (.slice none 0 0) ([] : List PairD))) (Locs [(wb, (repO fr tg false j op dk dv x0 x1 x2 x3 x4 x5 (.slice none 0 0))), (qb, (reqO fr tg false j op dk dv))])) (fun _ => False) w W → Calls Try.prog 15 #[repV (fr, tg, false, (j : Int), op, dk, dv) (x0, x1, x2, x3, x4, x5) (.slice pa pn pc), repV (fr, tg, false, (j : Int), op, dk, dv) (x0, x1, x2, x3, x4, x5) (.slice none 0 0)] W fun e w' => e = .returned (.bool true) ∧ Only (fun _ => False) W w' from fun W h => by
            obtain ⟨_, hp⟩ := h.getL
            exact alike_eq _ _ _ _ _ _ (HPR.out _ _ ((((hp.left (Sep.framed MineS.framed (Sep.framed OwnS.framed (Sep.framed GotS.framed (Sep.framed OwS.framed Blk.framed))))).right (Sep.framed OwnS.framed (Sep.framed GotS.framed (Sep.framed OwS.framed Blk.framed)))).right (Sep.framed GotS.framed (Sep.framed OwS.framed Blk.framed))).left GotS.framed)) (hp.right OwS.framed).rd)
          refine wp_region_noPanic ?_
          have HZ := Lib.hid (HN2.out.drewU (Sep.framed (Sep.framed (Sep.framed MineS.framed (Sep.framed OwnS.framed (Sep.framed GotS.framed (Sep.framed OwS.framed Blk.framed)))) OwS.framed) Locs.framed))
          refine wp_region_noPanic ?_
          refine wp_region_held_drew (S := fun W => (W.cell? ⟨gb, go + i * 14, none⟩ = some (.int .i64 fr) ∧ W.cell? ⟨gb, go + i * 14 + 1, none⟩ = some (.int .i64 tg) ∧ W.cell? ⟨gb, go + i * 14 + 2, none⟩ = some (.bool false) ∧ W.cell? ⟨gb, go + i * 14 + 3, none⟩ = some (.int .i64 (j : Int)) ∧ W.cell? ⟨gb, go + i * 14 + 4, none⟩ = some (.int .i64 op) ∧ W.cell? ⟨gb, go + i * 14 + 5, none⟩ = some (.int .u64 dk) ∧ W.cell? ⟨gb, go + i * 14 + 6, none⟩ = some (.int .u64 dv) ∧ W.cell? ⟨gb, go + i * 14 + 7, none⟩ = some (.int .i64 x0) ∧ W.cell? ⟨gb, go + i * 14 + 8, none⟩ = some (.bool x1) ∧ W.cell? ⟨gb, go + i * 14 + 9, none⟩ = some (.int .u64 x2) ∧ W.cell? ⟨gb, go + i * 14 + 10, none⟩ = some (.bool x3) ∧ W.cell? ⟨gb, go + i * 14 + 11, none⟩ = some (.int .u64 x4) ∧ W.cell? ⟨gb, go + i * 14 + 12, none⟩ = some (.int .u64 x5) ∧ W.cell? ⟨gb, go + i * 14 + 13, none⟩ = some (.slice pa pn pc)) ∧ W.cell? ⟨wb, 0, none⟩ = some (.int .i64 fr) ∧ W.cell? ⟨wb, 1, none⟩ = some (.int .i64 tg) ∧ W.cell? ⟨wb, 2, none⟩ = some (.bool false) ∧ W.cell? ⟨wb, 3, none⟩ = some (.int .i64 (j : Int)) ∧ W.cell? ⟨wb, 4, none⟩ = some (.int .i64 op) ∧ W.cell? ⟨wb, 5, none⟩ = some (.int .u64 dk) ∧ W.cell? ⟨wb, 6, none⟩ = some (.int .u64 dv) ∧ W.cell? ⟨wb, 7, none⟩ = some (.int .i64 x0) ∧ W.cell? ⟨wb, 8, none⟩ = some (.bool x1) ∧ W.cell? ⟨wb, 9, none⟩ = some (.int .u64 x2) ∧ W.cell? ⟨wb, 10, none⟩ = some (.bool x3) ∧ W.cell? ⟨wb, 11, none⟩ = some (.int .u64 x4) ∧ W.cell? ⟨wb, 12, none⟩ = some (.int .u64 x5) ∧ W.cell? ⟨wb, 13, none⟩ = some (.slice none 0 0)) (by kernel_rfl) ?_ (fun hHeld => ?_)
          · exact (HK47.out _ HZ.out)
          try simp only [Act.put, List.getElem_toArray, List.getElem_cons_succ, List.getElem_cons_zero, List.setIfInBounds_toArray, List.set_cons_zero, List.set_cons_succ]
          refine wpAnyH_take (i := 0) (v := ?vdbz0) rfl (by kernel_rfl) (by kernel_rfl) (by kernel_rfl) (fun _ _ _ h => h) (Or.inl ⟨by rfl, ?hydbz0⟩) (by assumption) ?restdbz0
          case hydbz0 =>
            intro w hSw
            try dsimp only at hSw
            go_simp
            all_goals with_reducible rfl
          simp only [Act.put, List.getElem_toArray, List.getElem_cons_succ, List.getElem_cons_zero, List.setIfInBounds_toArray, List.set_cons_zero, List.set_cons_succ]
          refine wpAnyH_take (i := 1) (v := ?vdbz1) rfl (by kernel_rfl) (by kernel_rfl) (by kernel_rfl) (fun _ _ _ h => h) (Or.inl ⟨by rfl, ?hydbz1⟩) (by assumption) ?restdbz1
          case hydbz1 =>
            intro w hSw
            try dsimp only at hSw
            go_simp
            all_goals with_reducible rfl
          simp only [Act.put, List.getElem_toArray, List.getElem_cons_succ, List.getElem_cons_zero, List.setIfInBounds_toArray, List.set_cons_zero, List.set_cons_succ]
          refine wpAnyH_take (i := 2) (v := ?vdbz2) rfl (by kernel_rfl) (by kernel_rfl) (by kernel_rfl) (fun _ _ _ h => h) (Or.inl ⟨by rfl, ?hydbz2⟩) (by assumption) ?restdbz2
          case hydbz2 =>
            intro w hSw
            try dsimp only at hSw
            go_simp
            all_goals with_reducible rfl
          simp only [Act.put, List.getElem_toArray, List.getElem_cons_succ, List.getElem_cons_zero, List.setIfInBounds_toArray, List.set_cons_zero, List.set_cons_succ]
          refine wpAnyH_take (i := 3) (v := ?vdbz3) rfl (by kernel_rfl) (by kernel_rfl) (by kernel_rfl) (fun _ _ _ h => h) (Or.inl ⟨by rfl, ?hydbz3⟩) (by assumption) ?restdbz3
          case hydbz3 =>
            intro w hSw
            try dsimp only at hSw
            go_simp
            all_goals with_reducible rfl
          simp only [Act.put, List.getElem_toArray, List.getElem_cons_succ, List.getElem_cons_zero, List.setIfInBounds_toArray, List.set_cons_zero, List.set_cons_succ]
          refine wpAnyH_take (i := 4) (v := ?vdbz4) rfl (by kernel_rfl) (by kernel_rfl) (by kernel_rfl) (fun _ _ _ h => h) (Or.inl ⟨by rfl, ?hydbz4⟩) (by assumption) ?restdbz4
          case hydbz4 =>
            intro w hSw
            try dsimp only at hSw
            go_simp
            all_goals with_reducible rfl
          simp only [Act.put, List.getElem_toArray, List.getElem_cons_succ, List.getElem_cons_zero, List.setIfInBounds_toArray, List.set_cons_zero, List.set_cons_succ]
          refine wpAnyH_ready (rs := [5]) (by kernel_rfl) (by simp) ?_
          refine AllReadyH.cons rfl (fun K hK => ?_) AllReadyH.nil
          go_simp
          refine (HZ.out.callRead (Sep.framed (Sep.framed (Sep.framed MineS.framed (Sep.framed OwnS.framed (Sep.framed GotS.framed (Sep.framed OwS.framed Blk.framed)))) OwS.framed) Locs.framed) (E := fun e => e = .returned (.bool true)) (HAK.out _ HZ.out)).mono ?_
          rintro e wz2 ⟨rfl, hz2⟩
          have HZ2 := Lib.hid hz2
          clear hz2
          try go_wp2_with fail
          refine hK.out _ _ ?_ (fun hHeld => ?_)
          · exact (HK47.out _ HZ2.out)
          clear hK K
          try simp only [Act.put, List.getElem_toArray, List.getElem_cons_succ, List.getElem_cons_zero, List.setIfInBounds_toArray, List.set_cons_zero, List.set_cons_succ]
          refine wpAnyH_take (i := 6) (v := ?vdbz6) rfl (by kernel_rfl) (by kernel_rfl) (by kernel_rfl) (fun _ _ _ h => h) (Or.inl ⟨by rfl, ?hydbz6⟩) (by assumption) ?restdbz6
          case hydbz6 =>
            intro w hSw
            try dsimp only at hSw
            go_simp
            all_goals with_reducible rfl
          simp only [Act.put, List.getElem_toArray, List.getElem_cons_succ, List.getElem_cons_zero, List.setIfInBounds_toArray, List.set_cons_zero, List.set_cons_succ]
          clear hHeld
          refine wpAnyH_done (by kernel_rfl) ?_ _
          refine NoPanic.normal ?_
          refine NoPanic.normal ?_
          go_wp2_with fail
          have HZ3 := Lib.hid (HZ2.out.imp fun _ h => (h.left (Sep.framed (Sep.framed MineS.framed (Sep.framed OwnS.framed (Sep.framed GotS.framed (Sep.framed OwS.framed Blk.framed)))) OwS.framed)).left (Sep.framed MineS.framed (Sep.framed OwnS.framed (Sep.framed GotS.framed (Sep.framed OwS.framed Blk.framed)))))
          refine ⟨⟨i + 1, by omega, by simp, ?_⟩, ?_⟩
          · rw [HRT.out, hsn]; exact HZ3
          · first | omega | (simp only [intOf]; omega)
    · have hi1 : ¬ (i : Int) < (took.length : Int) := by omega
      obtain rfl : i = took.length := by omega
      go_wp2_with fail
      refine ⟨_, _, _, _, _, _, _, _, _, _, _, _, _, _, _, _, _, _, _, _, _, _, _, _, _, _, _, _, _, _, _, _, _, _, _, _, _, _, _, _, _, _, _, _, _, _, _, _, _, _, _, _, _, _, _, _, _, _, _, _, _, _, _, _, _, _, _, _, _, _, _, _, _, _, _, _, _, _, V, rfl⟩
end Go.Proofs.Ytdlkblklfoagbaa
