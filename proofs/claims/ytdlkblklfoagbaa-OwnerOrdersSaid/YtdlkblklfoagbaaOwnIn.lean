/- owner: the inner loop of OwnerOrders (printed by ownin.py). -/
import Derived.Test.YtdlkblklfoagbaaOrdP
import Derived.Test.YtdlkblklfoagbaaOwnFresh
import Derived.Deep.RegionHeld3
import Derived.Deep.DeepCutAuto
import Derived.Deep.CutBlock
namespace Go.Proofs.Ytdlkblklfoagbaa
open Go.RowKit
set_option linter.unusedVariables false
set_option linter.unusedSimpArgs false


section
variable {A O L K X : (Nat → Prop) → World → Prop} {S : Nat → Prop} {w : World}
theorem rearr1 (h : Sep (Sep A (Sep (Sep O L) K)) X S w) : Sep O (Sep (Sep L X) (Sep A K)) S w :=
  (h.imp (fun _ h => h.turn.assoc) fun _ h => h).assoc.imp (fun _ h => h) fun _ h => h.swap.turn.assoc'
theorem rearr2 (h : Sep O (Sep L (Sep A K)) S w) : Sep A (Sep (Sep O L) K) S w := h.assoc'.turn
end
theorem int_cell {w : World} {b off : Nat} {xs : List Int} (hc : ∀ j u, ((eInt .i64).all xs)[j]? = some u → w.cell? ⟨b, off + j, none⟩ = some u) (k : Nat) (h : k < xs.length) : w.cell? ⟨b, off + k, none⟩ = some (.int .i64 xs[k]) := by
  have := (eInt .i64).all_at xs k 0 h (by decide)
  refine hc k _ ?_
  simpa [eInt] using this
/-- a slice of the call's own is appended to: the state behind it -/
theorem Upd.push {α : Type} {E : Enc α} {ty : Nat} {R : (Nat → Prop) → World → Prop} {S : Nat → Prop} {w0 w w1 : World} {v : Value} {xs ys : List α} (hR : Framed R) (h : Upd (Sep (fun S w => OwS E ty S w v xs) R) S w0 w) (ho : Only (fun _ => False) w w1) :
    OwS E ty (fun k => v.ownBlock = some k) w1 v xs ∧ ∀ v2 w2, OwS E ty (fun k => v.ownBlock = some k ∨ w1.heap.size ≤ k) w2 v2 ys → Only (fun k => v.ownBlock = some k) w1 w2 → Upd (Sep (fun S w => OwS E ty S w v2 ys) R) S w0 w2 := by
  obtain ⟨D, hD, hb⟩ := h.1.focus hR
  refine ⟨⟨hD.1.only ho fun _ _ h => h, fun _ h => h⟩, fun v2 w2 h2 hO => h.step (Sep.framed OwS.framed hR) (hb _ w2 OwS.framed ⟨OwS.framed.mono _ _ _ h2 fun k _ e => e.elim (fun e => .inl (hD.2 k e)) fun e => .inr (Nat.le_trans ho.size e), (ho.mono fun _ _ h => h.elim).trans (hO.mono fun k _ e => hD.2 k e) fun _ _ h => h⟩)⟩
/-- a reply is put behind the others -/
theorem Upd.pushG {R : (Nat → Prop) → World → Prop} {S : Nat → Prop} {w0 w w1 : World} {v : Value} {rl : List RepD} {pl : List (List PairD)} {x : RepD} {ps : List PairD} (hR : Framed R)
    (h : Upd (Sep (Sep (GotS v rl pl) (fun S w => OwS ePair 50 S w (.slice x.2.2.1 x.2.2.2.1 x.2.2.2.2) ps)) R) S w0 w) (ho : Only (fun _ => False) w w1) :
    OwS eRep 44 (fun k => v.ownBlock = some k) w1 v rl ∧ ∀ v2 w2, OwS eRep 44 (fun k => v.ownBlock = some k ∨ w1.heap.size ≤ k) w2 v2 (rl ++ [x]) → Only (fun k => v.ownBlock = some k) w1 w2 → Upd (Sep (GotS v2 (rl ++ [x]) (pl ++ [ps])) R) S w0 w2 := by
  obtain ⟨D, hD, hb⟩ := h.1.focus hR
  obtain ⟨A, B, hd, hA, hB, hg, hp⟩ := hD
  have hg1 := GotS.framed.only _ _ _ _ hg ho fun _ _ _ h => h
  have hp1 := OwS.framed.only _ _ _ _ hp ho fun _ _ _ h => h
  refine ⟨⟨hg1.1.1, fun _ h => h⟩, fun v2 w2 h2 hO => h.step (Sep.framed GotS.framed hR) (hb _ w2 GotS.framed ⟨GotS.framed.mono _ _ _ (hg1.push hp1 h2 hO) fun k _ e => ?_, (ho.mono fun _ _ h => h.elim).trans (hO.mono fun k _ e => hA k (hg1.1.2 k e)) fun _ _ h => h⟩)⟩
  rcases e with e | e | e
  · exact .inl (hA k e)
  · exact .inl (hB k e)
  · exact .inr (Nat.le_trans ho.size e)
theorem all_slot {w : World} {al : Option Addr} {cl : Nat} {all : List ReqD} (h : Rd eReq w (.slice al all.length cl) all) (d : Nat) (hd : d < all.length) :
    ∃ lb lo, al = some ⟨lb, lo, none⟩ ∧ Hid (∀ W, Rd eReq W (.slice (some ⟨lb, lo, none⟩) all.length cl) all → W.cell? ⟨lb, lo + d * 7, none⟩ = some (.int .i64 all[d].1) ∧ W.cell? ⟨lb, lo + d * 7 + 1, none⟩ = some (.int .i64 all[d].2.1) ∧ W.cell? ⟨lb, lo + d * 7 + 2, none⟩ = some (.bool all[d].2.2.1) ∧ W.cell? ⟨lb, lo + d * 7 + 3, none⟩ = some (.int .i64 all[d].2.2.2.1) ∧ W.cell? ⟨lb, lo + d * 7 + 4, none⟩ = some (.int .i64 all[d].2.2.2.2.1) ∧ W.cell? ⟨lb, lo + d * 7 + 5, none⟩ = some (.int .u64 all[d].2.2.2.2.2.1) ∧ W.cell? ⟨lb, lo + d * 7 + 6, none⟩ = some (.int .u64 all[d].2.2.2.2.2.2)) := by
  obtain ⟨_, a1, c1, he, _, _, hx⟩ := h
  obtain ⟨lb, lo, hab, _⟩ := hx (by omega)
  have ha : al = a1 := by simp at he; exact he.1
  refine ⟨lb, lo, ha.trans hab, Lib.hid fun W hW => ?_⟩
  obtain ⟨_, a2, c2, he2, _, _, hx2⟩ := hW
  obtain ⟨lb2, lo2, hab2, hc⟩ := hx2 (by omega)
  have ha2 : some (⟨lb, lo, none⟩ : Addr) = a2 := by simp at he2; exact he2.1
  obtain ⟨rfl, rfl⟩ : lb = lb2 ∧ lo = lo2 := by rw [hab2] at ha2; simpa using ha2
  exact req_cells hc d hd
theorem rep_slot {w : World} {al : Option Addr} {cl : Nat} {all : List RepD} (h : Rd eRep w (.slice al all.length cl) all) (d : Nat) (hd : d < all.length) :
    ∃ lb lo, al = some ⟨lb, lo, none⟩ ∧ Hid (∀ W, Rd eRep W (.slice (some ⟨lb, lo, none⟩) all.length cl) all → W.cell? ⟨lb, lo + d * 14, none⟩ = some (.int .i64 all[d].1.1) ∧ W.cell? ⟨lb, lo + d * 14 + 1, none⟩ = some (.int .i64 all[d].1.2.1) ∧ W.cell? ⟨lb, lo + d * 14 + 2, none⟩ = some (.bool all[d].1.2.2.1) ∧ W.cell? ⟨lb, lo + d * 14 + 3, none⟩ = some (.int .i64 all[d].1.2.2.2.1) ∧ W.cell? ⟨lb, lo + d * 14 + 4, none⟩ = some (.int .i64 all[d].1.2.2.2.2.1) ∧ W.cell? ⟨lb, lo + d * 14 + 5, none⟩ = some (.int .u64 all[d].1.2.2.2.2.2.1) ∧ W.cell? ⟨lb, lo + d * 14 + 6, none⟩ = some (.int .u64 all[d].1.2.2.2.2.2.2) ∧ W.cell? ⟨lb, lo + d * 14 + 7, none⟩ = some (.int .i64 all[d].2.1.1) ∧ W.cell? ⟨lb, lo + d * 14 + 8, none⟩ = some (.bool all[d].2.1.2.1) ∧ W.cell? ⟨lb, lo + d * 14 + 9, none⟩ = some (.int .u64 all[d].2.1.2.2.1) ∧ W.cell? ⟨lb, lo + d * 14 + 10, none⟩ = some (.bool all[d].2.1.2.2.2.1) ∧ W.cell? ⟨lb, lo + d * 14 + 11, none⟩ = some (.int .u64 all[d].2.1.2.2.2.2.1) ∧ W.cell? ⟨lb, lo + d * 14 + 12, none⟩ = some (.int .u64 all[d].2.1.2.2.2.2.2) ∧ W.cell? ⟨lb, lo + d * 14 + 13, none⟩ = some (.slice all[d].2.2.1 all[d].2.2.2.1 all[d].2.2.2.2)) := by
  obtain ⟨_, a1, c1, he, _, _, hx⟩ := h
  obtain ⟨lb, lo, hab, _⟩ := hx (by omega)
  have ha : al = a1 := by simp at he; exact he.1
  refine ⟨lb, lo, ha.trans hab, Lib.hid fun W hW => ?_⟩
  obtain ⟨_, a2, c2, he2, _, _, hx2⟩ := hW
  obtain ⟨lb2, lo2, hab2, hc⟩ := hx2 (by omega)
  have ha2 : some (⟨lb, lo, none⟩ : Addr) = a2 := by simp at he2; exact he2.1
  obtain ⟨rfl, rfl⟩ : lb = lb2 ∧ lo = lo2 := by rw [hab2] at ha2; simpa using ha2
  exact repD_cells hc d hd
theorem st_two {P : (Nat → Prop) → World → Prop} (hP : Framed P) {T : Nat → Prop} {w w1 : World} {B C : Obj} (h : Upd P T w w1) :
    Upd (Sep P (Locs [(w1.heap.size + 1, C), (w1.heap.size, B)])) T w ((w1.alloc B).alloc C) := by
  have h3 := ((h.imp fun _ h => Sep.nil h).loc hP B).loc hP C
  rwa [show (w1.alloc B).heap.size = w1.heap.size + 1 by simp] at h3
theorem locs_two' {P : (Nat → Prop) → World → Prop} {T : Nat → Prop} {w w1 : World} {pb qb : Nat} {B : Obj} (hP : Framed P) {C C' : Obj} (h : Upd (Sep P (Locs [(pb, C), (qb, B)])) T w w1) (hq : qb ≠ pb) {w2 : World} (ho : Only (fun k => k = pb) w1 w2) (hc : w2.heap[pb]? = some C') :
    Upd (Sep P (Locs [(pb, C'), (qb, B)])) T w w2 := by
  have hqb := h.get (g := qb) (List.mem_cons_of_mem _ (List.mem_cons_self ..))
  refine h.locs hP (ho.mono fun k _ e => ⟨_, List.mem_cons_self .., e.symm⟩) fun p hp => ?_
  simp only [List.mem_cons, List.not_mem_nil, or_false] at hp
  rcases hp with rfl | rfl
  · exact ⟨hc, .inr ⟨_, List.mem_cons_self .., rfl⟩⟩
  · exact ⟨ho.heap hqb hq, .inr ⟨_, List.mem_cons_of_mem _ (List.mem_cons_self ..), rfl⟩⟩
def loopsOf : Code → List Code
  | .loop c => c :: loopsOf c
  | .seq a b => loopsOf a ++ loopsOf b
  | .block _ c => loopsOf c
  | .scope c => loopsOf c
  | .cond _ a b => loopsOf a ++ loopsOf b
  | _ => []
noncomputable def innerBody : Code := (((Try.f6.body.map loopsOf).getD [])[2]?).getD .skip
set_option maxRecDepth 1000000 in
/-- behind the inner loop -/
def IX (sd n : Int) (ds : List DefD) (cs : List Int) (w : World) (am : Option Addr) (cm : Nat) (ac : Option Addr) (cc : Nat) (bd ga : Nat) (ml : List MSh) (ss0 : List Sh) (mm : List MSh) (ma : Option Addr) (mc : Nat) (k : Nat) (took2 : List ReqD) (tv2 : Value) (c0 c1 c3 c4 c5 c6 c8 c9 c10 c11 c12 c19 c20 c21 c22 c23 c24 c25 c26 c27 c28 c29 c30 c31 c32 c33 c34 c35 c36 c37 c38 c39 c40 c41 c42 c43 c44 c45 c46 c47 c48 c49 c50 c51 c52 c53 c54 c55 c56 c57 c58 c59 c60 c61 c62 c63 c64 c65 c66 c67 c68 c69 c70 c71 c72 c73 c74 c75 c76 c77 c78 c79 c80 c81 c82 c83 c84 c85 c86 c87 c88 c89 c90 c91 c92 c93 c94 c95 c96 c97 c98 c99 c100 c101 c130 c131 c132 c133 c134 c135 c136 c137 c138 c139 c140 c141 c142 c143 c144 c145 c146 c147 c148 c149 c150 c151 c152 c153 c154 c155 c156 c157 c158 c159 c160 c161 c162 c163 c164 c165 c166 c167 c168 c169 c170 c171 c172 c173 c174 c175 c176 c177 c178 c179 c180 c181 c182 c183 c184 c185 c186 c187 c188 c189 c190 c191 c192 c193 c194 c195 c196 c197 c198 c199 c200 c201 c202 c203 c204 c205 c206 c207 c208 c209 c210 c211 c212 c213 c214 c215 c216 c217 c218 c219 c220 c221 c222 c223 c224 c225 c226 c227 c228 c229 c230 c231 c232 c233 c234 c235 c236 c237 c238 c239 c240 c241 c242 c243 : Value) (a : Act) (w' : World) : Prop :=
  ∃ u14 u16 u17 u18 u102 u103 u104 u105 u106 u107 u108 u109 u110 u111 u112 u113 u114 u115 u116 u117 u118 u119 u120 u121 u122 u123 u124 u125 u126 u127 u128 u129 : Value, ∃ (rl : List RepD) (pl : List (List PairD)), Hid (GotOk ds ss0 took2 rl pl) ∧ Hid (Upd (Sep (OwnS ga sd n ml (runP ds ss0 (took2.take rl.length)) (took2.drop rl.length) false) (Sep (GotS u14 rl pl) (Sep (fun S w => OwS eReq 37 S w tv2 took2) (Sep (MineS (.slice ma mm.length mc) mm ss0) (Blk bd (shO sd n (.slice am ds.length cm))))))) (fun _ => False) w w') ∧ a = ⟨(c0 :: c1 :: (.slice ac cs.length cc) :: c3 :: c4 :: c5 :: c6 :: (.pointer (some ⟨ga, 0, none⟩)) :: c8 :: c9 :: c10 :: c11 :: c12 :: tv2 :: u14 :: (.int .i64 (k : Int)) :: u16 :: u17 :: u18 :: c19 :: c20 :: c21 :: c22 :: c23 :: c24 :: c25 :: c26 :: c27 :: c28 :: c29 :: c30 :: c31 :: c32 :: c33 :: c34 :: c35 :: c36 :: c37 :: c38 :: c39 :: c40 :: c41 :: c42 :: c43 :: c44 :: c45 :: c46 :: c47 :: c48 :: c49 :: c50 :: c51 :: c52 :: c53 :: c54 :: c55 :: c56 :: c57 :: c58 :: c59 :: c60 :: c61 :: c62 :: c63 :: c64 :: c65 :: c66 :: c67 :: c68 :: c69 :: c70 :: c71 :: c72 :: c73 :: c74 :: c75 :: c76 :: c77 :: c78 :: c79 :: c80 :: c81 :: c82 :: c83 :: c84 :: c85 :: c86 :: c87 :: c88 :: c89 :: c90 :: c91 :: c92 :: c93 :: c94 :: c95 :: c96 :: c97 :: c98 :: c99 :: c100 :: c101 :: u102 :: u103 :: u104 :: u105 :: u106 :: u107 :: u108 :: u109 :: u110 :: u111 :: u112 :: u113 :: u114 :: u115 :: u116 :: u117 :: u118 :: u119 :: u120 :: u121 :: u122 :: u123 :: u124 :: u125 :: u126 :: u127 :: u128 :: u129 :: c130 :: c131 :: c132 :: c133 :: c134 :: c135 :: c136 :: c137 :: c138 :: c139 :: c140 :: c141 :: c142 :: c143 :: c144 :: c145 :: c146 :: c147 :: c148 :: c149 :: c150 :: c151 :: c152 :: c153 :: c154 :: c155 :: c156 :: c157 :: c158 :: c159 :: c160 :: c161 :: c162 :: c163 :: c164 :: c165 :: c166 :: c167 :: c168 :: c169 :: c170 :: c171 :: c172 :: c173 :: c174 :: c175 :: c176 :: c177 :: c178 :: c179 :: c180 :: c181 :: c182 :: c183 :: c184 :: c185 :: c186 :: c187 :: c188 :: c189 :: c190 :: c191 :: c192 :: c193 :: c194 :: c195 :: c196 :: c197 :: c198 :: c199 :: c200 :: c201 :: c202 :: c203 :: c204 :: c205 :: c206 :: c207 :: c208 :: c209 :: c210 :: c211 :: c212 :: c213 :: c214 :: c215 :: c216 :: c217 :: c218 :: c219 :: c220 :: c221 :: c222 :: c223 :: c224 :: c225 :: c226 :: c227 :: c228 :: c229 :: c230 :: c231 :: c232 :: c233 :: c234 :: c235 :: c236 :: c237 :: c238 :: c239 :: c240 :: c241 :: c242 :: c243 :: []).toArray, []⟩
set_option maxRecDepth 1000000 in
set_option maxHeartbeats 40000000 in
theorem innerL {sd n : Int} {ds : List DefD} {cs : List Int} {w : World} {am : Option Addr} {cm : Nat} {ac : Option Addr} {cc : Nat} {bd ga : Nat} {ml : List MSh} {ss0 : List Sh} {mm : List MSh} {ma : Option Addr} {mc : Nat} (hmc : cs.length ≤ 2 ^ 63 - 1) (hcc0 : cs.length ≤ cc) (hcn : ac = none → cc = 0)
    (HXC : Hid (0 < cs.length → ∃ b off, ac = some ⟨b, off, none⟩ ∧ ∀ (j : Nat) (u : Value), ((eInt .i64).all cs)[j]? = some u → w.cell? ⟨b, off + j, none⟩ = some u))
    (HOK : Hid (okOwn sd n ds = true)) (HN4 : Hid (n ≤ 4)) (HDS : Hid (ds.length ≤ 4 ∧ (ds.all fun d => okDef d.1 d.2) = true)) (HMA : Hid (ml.map (fun x => x.2) = ds)) (HLA : Hid (ml.length = ds.length)) (HGA : Hid (OGood ml ss0)) (HLM : Hid (mm.length = ds.length)) (HGM : Hid (OGood mm ss0)) (HMM : Hid (mm.map (fun x => x.2) = ds))
    {k : Nat} (hk2 : k + 1 ≤ 2000) {took2 : List ReqD} {rl : List RepD} {pl : List (List PairD)} {tv2 : Value} {w5 : World} (HFT : Hid (∀ q ∈ took2, fitsP sd n ds.length q = true)) (hl2 : took2.length ≤ k + 1) (HG2 : Hid (GotOk ds ss0 took2 rl pl)) (c0 c1 c3 c4 c5 c6 c8 c9 c10 c11 c12 c19 c20 c21 c22 c23 c24 c25 c26 c27 c28 c29 c30 c31 c32 c33 c34 c35 c36 c37 c38 c39 c40 c41 c42 c43 c44 c45 c46 c47 c48 c49 c50 c51 c52 c53 c54 c55 c56 c57 c58 c59 c60 c61 c62 c63 c64 c65 c66 c67 c68 c69 c70 c71 c72 c73 c74 c75 c76 c77 c78 c79 c80 c81 c82 c83 c84 c85 c86 c87 c88 c89 c90 c91 c92 c93 c94 c95 c96 c97 c98 c99 c100 c101 c130 c131 c132 c133 c134 c135 c136 c137 c138 c139 c140 c141 c142 c143 c144 c145 c146 c147 c148 c149 c150 c151 c152 c153 c154 c155 c156 c157 c158 c159 c160 c161 c162 c163 c164 c165 c166 c167 c168 c169 c170 c171 c172 c173 c174 c175 c176 c177 c178 c179 c180 c181 c182 c183 c184 c185 c186 c187 c188 c189 c190 c191 c192 c193 c194 c195 c196 c197 c198 c199 c200 c201 c202 c203 c204 c205 c206 c207 c208 c209 c210 c211 c212 c213 c214 c215 c216 c217 c218 c219 c220 c221 c222 c223 c224 c225 c226 c227 c228 c229 c230 c231 c232 c233 c234 c235 c236 c237 c238 c239 c240 c241 c242 c243 u14 u17 u18 u102 u103 u104 u105 u106 u107 u108 u109 u110 u111 u112 u113 u114 u115 u116 u117 u118 u119 u120 u121 u122 u123 u124 u125 u126 u127 u128 u129 : Value)
    (H5 : Hid (Upd (Sep (OwnS ga sd n ml (runP ds ss0 (took2.take rl.length)) (took2.drop rl.length) false) (Sep (GotS u14 rl pl) (Sep (fun S w => OwS eReq 37 S w tv2 took2) (Sep (MineS (.slice ma mm.length mc) mm ss0) (Blk bd (shO sd n (.slice am ds.length cm))))))) (fun _ => False) w w5)) {Q0 : Exit → Act → World → Prop} (hexit : ∀ a w', IX sd n ds cs w am cm ac cc bd ga ml ss0 mm ma mc k took2 tv2 c0 c1 c3 c4 c5 c6 c8 c9 c10 c11 c12 c19 c20 c21 c22 c23 c24 c25 c26 c27 c28 c29 c30 c31 c32 c33 c34 c35 c36 c37 c38 c39 c40 c41 c42 c43 c44 c45 c46 c47 c48 c49 c50 c51 c52 c53 c54 c55 c56 c57 c58 c59 c60 c61 c62 c63 c64 c65 c66 c67 c68 c69 c70 c71 c72 c73 c74 c75 c76 c77 c78 c79 c80 c81 c82 c83 c84 c85 c86 c87 c88 c89 c90 c91 c92 c93 c94 c95 c96 c97 c98 c99 c100 c101 c130 c131 c132 c133 c134 c135 c136 c137 c138 c139 c140 c141 c142 c143 c144 c145 c146 c147 c148 c149 c150 c151 c152 c153 c154 c155 c156 c157 c158 c159 c160 c161 c162 c163 c164 c165 c166 c167 c168 c169 c170 c171 c172 c173 c174 c175 c176 c177 c178 c179 c180 c181 c182 c183 c184 c185 c186 c187 c188 c189 c190 c191 c192 c193 c194 c195 c196 c197 c198 c199 c200 c201 c202 c203 c204 c205 c206 c207 c208 c209 c210 c211 c212 c213 c214 c215 c216 c217 c218 c219 c220 c221 c222 c223 c224 c225 c226 c227 c228 c229 c230 c231 c232 c233 c234 c235 c236 c237 c238 c239 c240 c241 c242 c243 a w' → Q0 (.exit 4) a w') :
    Code.wp Try.prog (Code.loop innerBody) Q0 ⟨(c0 :: c1 :: (.slice ac cs.length cc) :: c3 :: c4 :: c5 :: c6 :: (.pointer (some ⟨ga, 0, none⟩)) :: c8 :: c9 :: c10 :: c11 :: c12 :: tv2 :: u14 :: (.int .i64 (k : Int)) :: (.int .i64 0) :: u17 :: u18 :: c19 :: c20 :: c21 :: c22 :: c23 :: c24 :: c25 :: c26 :: c27 :: c28 :: c29 :: c30 :: c31 :: c32 :: c33 :: c34 :: c35 :: c36 :: c37 :: c38 :: c39 :: c40 :: c41 :: c42 :: c43 :: c44 :: c45 :: c46 :: c47 :: c48 :: c49 :: c50 :: c51 :: c52 :: c53 :: c54 :: c55 :: c56 :: c57 :: c58 :: c59 :: c60 :: c61 :: c62 :: c63 :: c64 :: c65 :: c66 :: c67 :: c68 :: c69 :: c70 :: c71 :: c72 :: c73 :: c74 :: c75 :: c76 :: c77 :: c78 :: c79 :: c80 :: c81 :: c82 :: c83 :: c84 :: c85 :: c86 :: c87 :: c88 :: c89 :: c90 :: c91 :: c92 :: c93 :: c94 :: c95 :: c96 :: c97 :: c98 :: c99 :: c100 :: c101 :: u102 :: u103 :: u104 :: u105 :: u106 :: u107 :: u108 :: u109 :: u110 :: u111 :: u112 :: u113 :: u114 :: u115 :: u116 :: u117 :: u118 :: u119 :: u120 :: u121 :: u122 :: u123 :: u124 :: u125 :: u126 :: u127 :: u128 :: u129 :: c130 :: c131 :: c132 :: c133 :: c134 :: c135 :: c136 :: c137 :: c138 :: c139 :: c140 :: c141 :: c142 :: c143 :: c144 :: c145 :: c146 :: c147 :: c148 :: c149 :: c150 :: c151 :: c152 :: c153 :: c154 :: c155 :: c156 :: c157 :: c158 :: c159 :: c160 :: c161 :: c162 :: c163 :: c164 :: c165 :: c166 :: c167 :: c168 :: c169 :: c170 :: c171 :: c172 :: c173 :: c174 :: c175 :: c176 :: c177 :: c178 :: c179 :: c180 :: c181 :: c182 :: c183 :: c184 :: c185 :: c186 :: c187 :: c188 :: c189 :: c190 :: c191 :: c192 :: c193 :: c194 :: c195 :: c196 :: c197 :: c198 :: c199 :: c200 :: c201 :: c202 :: c203 :: c204 :: c205 :: c206 :: c207 :: c208 :: c209 :: c210 :: c211 :: c212 :: c213 :: c214 :: c215 :: c216 :: c217 :: c218 :: c219 :: c220 :: c221 :: c222 :: c223 :: c224 :: c225 :: c226 :: c227 :: c228 :: c229 :: c230 :: c231 :: c232 :: c233 :: c234 :: c235 :: c236 :: c237 :: c238 :: c239 :: c240 :: c241 :: c242 :: c243 :: []).toArray, []⟩ w5 := by
  conv => arg 2; arg 1; whnf
  go_loopw [16, 14, 17, 18] (fun t16 t14 _ _ wr => ∃ (j : Nat) (rl : List RepD) (pl : List (List PairD)), j ≤ 3 ∧ t16 = .int .i64 j ∧ Hid (GotOk ds ss0 took2 rl pl) ∧ Hid (Upd (Sep (OwnS ga sd n ml (runP ds ss0 (took2.take rl.length)) (took2.drop rl.length) false) (Sep (GotS t14 rl pl) (Sep (fun S w => OwS eReq 37 S w tv2 took2) (Sep (MineS (.slice ma mm.length mc) mm ss0) (Blk bd (shO sd n (.slice am ds.length cm))))))) (fun _ => False) w wr)) (fun t16 _ _ _ _ => 3 - (intOf t16).toNat)
  case atStart => exact ⟨0, rl, pl, by decide, rfl, HG2, H5⟩
  case round =>
    clear HG2 H5
    obtain ⟨j, rl, pl, hj, rfl, HG, V⟩ := hrel
    have hrl : rl.length ≤ 2001 := by have := HG.out.len; omega
    by_cases hkc : k < cs.length
    · obtain ⟨cb, co, rfl, hcc⟩ := HXC.out (by omega)
      have cx := only_cell V.out.2 (int_cell hcc k hkc)
      have hki : (k : Int) < (cs.length : Int) := by omega
      have hk0 : (0 : Int) ≤ (k : Int) := by omega
      clear hcc
      generalize cs[k] = cv at *
      by_cases hjc : (j : Int) < cv
      · by_cases hj3 : (j : Int) < 3
        · by_cases hdl : rl.length < took2.length
          · skip
            obtain ⟨_, hzg⟩ := V.out.getR
            have HPL := Lib.hid (show rl.length = pl.length from (hzg.left GotS.framed).2.1)
            obtain ⟨ga1, gn1, gc1, rfl⟩ := (hzg.left GotS.framed).1.shape'
            clear hzg
            have HDR := Lib.hid (show took2.drop rl.length = took2[rl.length] :: took2.drop (rl.length + 1) from List.drop_eq_getElem_cons hdl)
            have HFQ := Lib.hid (HFT.out _ (List.getElem_mem hdl))
            have HRT := Lib.hid (runP_take ds ss0 took2 rl.length hdl)
            rw [HDR.out] at V
            obtain ⟨q, hq⟩ : ∃ q, q = took2[rl.length] := ⟨_, rfl⟩
            have HQD := Lib.hid hq
            rw [← hq] at V HFQ HRT
            clear hq
            obtain ⟨r, ps, ss', hst⟩ : ∃ r ps ss', stepP ds (runP ds ss0 (took2.take rl.length)) q = (r, ps, ss') := ⟨_, _, _, rfl⟩
            have HMQ := Lib.hid (show 0 ≤ q.2.2.2.1 ∧ q.2.2.2.1 < ds.length by have := HFQ.out; unfold fitsP at this; simp only [Bool.and_eq_true, decide_eq_true_eq] at this; exact this.1)
            have HST := Lib.hid hst
            have HGD := Lib.hid (show OGood ml (runP ds ss0 (took2.take rl.length)) by have := runP_good HGA.out (took2.take rl.length); rwa [HMA.out] at this)
            rw [hst] at HRT
            clear hst
            go_wp2_with fail
            refine (V.out.on1x (Sep.framed GotS.framed (Sep.framed OwS.framed (Sep.framed MineS.framed Blk.framed))) (Px := fun vp => Sep (OwnS ga sd n ml ss' (took2.drop (rl.length + 1)) false) (fun S w => OwS ePair 50 S w vp ps)) (E := fun vp e => e = .returned (.tuple #[repV q r vp, .bool true])) (fun _ => Sep.framed OwnS.framed OwS.framed) fun A hA => step_any hA HGD.out (by rw [HLA.out]; exact HMQ.out) (by rw [HMA.out]; exact HST.out)).mono ?_
            rintro e w6 ⟨va, rfl, h6⟩
            obtain ⟨pa, pc, rfl⟩ : ∃ pa pc, va = .slice pa ps.length pc := by
              obtain ⟨_, hz⟩ := h6.getL
              obtain ⟨_, _, _, _, _, _, ⟨⟨_, pa, pc, rfl, _⟩, _⟩⟩ := hz
              exact ⟨pa, pc, rfl⟩
            obtain ⟨fr, tg, wk, mp, op, dk, dv⟩ := q
            obtain ⟨x0, x1, x2, x3, x4, x5⟩ := r
            have H6 := Lib.hid (show Upd (Sep (Sep (GotS (.slice ga1 gn1 gc1) rl pl) (fun S w => OwS ePair 50 S w (.slice (((fr, tg, wk, mp, op, dk, dv), (x0, x1, x2, x3, x4, x5), (pa, ps.length, pc)) : RepD).2.2.1 (((fr, tg, wk, mp, op, dk, dv), (x0, x1, x2, x3, x4, x5), (pa, ps.length, pc)) : RepD).2.2.2.1 (((fr, tg, wk, mp, op, dk, dv), (x0, x1, x2, x3, x4, x5), (pa, ps.length, pc)) : RepD).2.2.2.2) ps)) (Sep (OwnS ga sd n ml ss' (took2.drop (rl.length + 1)) false) (Sep (fun S w => OwS eReq 37 S w tv2 took2) (Sep (MineS (.slice ma mm.length mc) mm ss0) (Blk bd (shO sd n (.slice am ds.length cm))))))) (fun _ => False) w w6 from h6.imp fun _ h => (h.assoc.imp (fun _ h => h) fun _ h => h.assoc'.imp (fun _ h => h.swap) fun _ h => h).turn)
            have HO6 := Lib.hid ((Only.alloc (fun _ => False) w6 (.cells #[.int .i64 fr, .int .i64 tg, .bool wk, .int .i64 mp, .int .i64 op, .int .u64 dk, .int .u64 dv, .int .i64 x0, .bool x1, .int .u64 x2, .bool x3, .int .u64 x4, .int .u64 x5, .slice pa ps.length pc] 44 (0, 0))).tr (Only.alloc (fun _ => False) _ (.cells #[.int .i64 fr, .int .i64 tg, .bool wk, .int .i64 mp, .int .i64 op, .int .u64 dk, .int .u64 dv, .int .i64 x0, .bool x1, .int .u64 x2, .bool x3, .int .u64 x4, .int .u64 x5, .slice pa ps.length pc] 44 (0, 0))))
            obtain ⟨hOW, hBK⟩ := H6.out.pushG (Sep.framed OwnS.framed (Sep.framed OwS.framed (Sep.framed MineS.framed Blk.framed))) HO6.out
            have HOW := Lib.hid hOW
            have HBK := Lib.hid hBK
            have HRD := Lib.hid (by
              have h := Rd.lit (E := eRep) (w6.alloc (.cells #[.int .i64 fr, .int .i64 tg, .bool wk, .int .i64 mp, .int .i64 op, .int .u64 dk, .int .u64 dv, .int .i64 x0, .bool x1, .int .u64 x2, .bool x3, .int .u64 x4, .int .u64 x5, .slice pa ps.length pc] 44 (0, 0))) #[.int .i64 fr, .int .i64 tg, .bool wk, .int .i64 mp, .int .i64 op, .int .u64 dk, .int .u64 dv, .int .i64 x0, .bool x1, .int .u64 x2, .bool x3, .int .u64 x4, .int .u64 x5, .slice pa ps.length pc] 44 (0, 0) 1 1 [(((fr, tg, wk, mp, op, dk, dv), (x0, x1, x2, x3, x4, x5), (pa, ps.length, pc)) : RepD)] rfl rfl (Nat.le_refl _) (by decide)
              rw [show (w6.alloc (.cells #[.int .i64 fr, .int .i64 tg, .bool wk, .int .i64 mp, .int .i64 op, .int .u64 dk, .int .u64 dv, .int .i64 x0, .bool x1, .int .u64 x2, .bool x3, .int .u64 x4, .int .u64 x5, .slice pa ps.length pc] 44 (0, 0))).heap.size = w6.heap.size + 1 by simp] at h
              exact h)
            have HG7 := Lib.hid (HG.out.push HPL.out hdl (x := (((fr, tg, wk, mp, op, dk, dv), (x0, x1, x2, x3, x4, x5), (pa, ps.length, pc)) : RepD)) (ps := ps) HQD.out (by rw [← HQD.out, HST.out]) (by rw [← HQD.out, HST.out]))
            have HLN := Lib.hid (show (rl ++ [(((fr, tg, wk, mp, op, dk, dv), (x0, x1, x2, x3, x4, x5), (pa, ps.length, pc)) : RepD)]).length = rl.length + 1 by simp)
            clear h6 hOW hBK H6 V
            go_wp2_with (at_builtin; refine wl_appendS (E := eRep) rfl _ (.tmp 128) _ rfl 44 128 eRep_slice _ _ rl rfl HOW.out _ [(((fr, tg, wk, mp, op, dk, dv), (x0, x1, x2, x3, x4, x5), (pa, ps.length, pc)) : RepD)] rfl HRD.out (by simp only [List.length_cons, List.length_nil]; omega) (by unfold maxLen; simp only [List.length_cons, List.length_nil]; omega) ?_)
            intro v2 w7 hown7 hO7
            have HV7 := Lib.hid (show Upd (Sep (OwnS ga sd n ml (runP ds ss0 (took2.take (rl ++ [(((fr, tg, wk, mp, op, dk, dv), (x0, x1, x2, x3, x4, x5), (pa, ps.length, pc)) : RepD)]).length)) (took2.drop (rl ++ [(((fr, tg, wk, mp, op, dk, dv), (x0, x1, x2, x3, x4, x5), (pa, ps.length, pc)) : RepD)]).length) false) (Sep (GotS v2 (rl ++ [(((fr, tg, wk, mp, op, dk, dv), (x0, x1, x2, x3, x4, x5), (pa, ps.length, pc)) : RepD)]) (pl ++ [ps])) (Sep (fun S w => OwS eReq 37 S w tv2 took2) (Sep (MineS (.slice ma mm.length mc) mm ss0) (Blk bd (shO sd n (.slice am ds.length cm))))))) (fun _ => False) w w7 from by
              rw [HLN.out, HRT.out]
              exact (HBK.out v2 w7 (OwS.framed.mono _ _ _ hown7 fun k _ h => by simpa using h) hO7).imp fun _ h => h.turn)
            obtain ⟨⟨_, a7, c7, rfl, _⟩, _⟩ := hown7
            clear hO7 HBK HOW HRD HO6
            go_wp2_with fail
            refine ⟨⟨j + 1, _, _, by omega, by simp, HG7, HV7⟩, ?_⟩
            first | omega | (simp only [intOf]; omega)
          · have hnil : took2.drop rl.length = [] := List.drop_eq_nil_of_le (by omega)
            obtain ⟨_, hA⟩ := V.out.getL
            rw [hnil] at hA
            have HSN := Lib.hid (step_none hA)
            clear hA hnil
            go_wp2_with fail
            refine (V.out.callRead (Sep.framed OwnS.framed (Sep.framed GotS.framed (Sep.framed OwS.framed (Sep.framed MineS.framed Blk.framed)))) (E := fun e => e = .returned (.tuple #[repV0, .bool false])) HSN.out).mono ?_
            rintro e w6 ⟨rfl, h6⟩
            have H6 := Lib.hid (h6.fresh (Sep.framed OwnS.framed (Sep.framed GotS.framed (Sep.framed OwS.framed (Sep.framed MineS.framed Blk.framed)))) (Only.alloc (fun _ => False) w6 (repO 0 0 false 0 0 0 0 0 false 0 false 0 0 (.slice none 0 0))))
            clear h6 V cx HSN
            go_wp2_with fail
            refine ⟨⟨j + 1, rl, pl, by omega, by simp, HG, H6⟩, ?_⟩
            first | omega | (simp only [intOf]; omega)
        · skip
          go_wp2_with fail
          refine ⟨_, _, _, _, _, _, _, _, _, _, _, _, _, _, _, _, _, _, _, _, _, _, _, _, _, _, _, _, _, _, _, _, rl, pl, HG, V, rfl⟩
      · skip
        go_wp2_with fail
        refine ⟨_, _, _, _, _, _, _, _, _, _, _, _, _, _, _, _, _, _, _, _, _, _, _, _, _, _, _, _, _, _, _, _, rl, pl, HG, V, rfl⟩
    · have hki : ¬ (k : Int) < (cs.length : Int) := by omega
      go_wp2_with fail
      refine ⟨_, _, _, _, _, _, _, _, _, _, _, _, _, _, _, _, _, _, _, _, _, _, _, _, _, _, _, _, _, _, _, _, rl, pl, HG, V, rfl⟩
end Go.Proofs.Ytdlkblklfoagbaa
