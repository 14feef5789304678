/- wire: what Decode has in memory. -/
import Derived.Test.YtkocfgaajghggaaDoorWireBegin
namespace Go.Proofs.YtkocfgaajghggaaDoor
open Go.RowKit
set_option linter.unusedVariables false
set_option linter.unusedSimpArgs false

structure Gs (w : World) (g2 gr gm : Nat) : Prop where
  l2 : w.heap.size ≤ g2
  lr : w.heap.size ≤ gr
  lm : w.heap.size ≤ gm
  n2r : g2 ≠ gr
  nrm : gr ≠ gm
  n2m : g2 ≠ gm
/-- the answer's cells, the reader, the module under way -/
structure DSt (w : World) (g2 gr gm : Nat) (bv : Value) (p f : Nat) (e : Int) (ms : List Int) (cs : List InstD) (vm vc : Value) (wr : World) : Prop where
  rdr : RdrB gr bv p f e wr
  res : wr.heap[g2]? = some (.cells #[.slice none 0 0, .slice none 0 0] 25 (0, 0))
  mod : wr.heap[gm]? = some (.cells #[vm, vc] 25 (0, 0))
  maps : OwS (eInt .i64) 3 (fun k => w.heap.size ≤ k) wr vm ms
  code : OwS eInst 44 (fun k => w.heap.size ≤ k) wr vc cs
  only : Only (fun _ => False) w wr
theorem OwS.keepT {α : Type} {E : Enc α} {ty : Nat} {S : Nat → Prop} {F : Nat → Prop} {w w' : World} {v : Value} {xs : List α} (h : OwS E ty S w v xs) (ho : Only F w w') (hn : ∀ k, v.ownBlock = some k → ¬ F k) : OwS E ty S w' v xs := ⟨h.1.only ho hn, h.2⟩
theorem own_ne {α β : Type} {E : Enc α} {E2 : Enc β} {ty ty2 b1 b2 : Nat} {w : World} {u v : Value} {xs : List α} {ys : List β} (h : Ow E b1 ty w u xs) (h2 : Ow E2 b2 ty2 w v ys) (hne : ty ≠ ty2) {k : Nat} (hu : u.ownBlock = some k) : v.ownBlock ≠ some k := by
  obtain ⟨_, ao, cap, rfl, _, _, _, hx⟩ := h
  cases ao with
  | none => simp [Value.ownBlock] at hu
  | some a =>
    obtain ⟨g, off, cur, rfl, _, hg, _⟩ := hx a rfl
    obtain rfl : g = k := by simpa [Value.ownBlock] using hu
    exact row_ne hg h2 hne
theorem DSt.call {w : World} {g2 gr gm : Nat} {bv : Value} {p f p' f' : Nat} {e e' : Int} {ms : List Int} {cs : List InstD} {vm vc : Value} {wr wr' : World} (G : Gs w g2 gr gm) (h : DSt w g2 gr gm bv p f e ms cs vm vc wr)
    (hO : Only (fun k => k = gr) wr wr') (hR : RdrB gr bv p' f' e' wr') : DSt w g2 gr gm bv p' f' e' ms cs vm vc wr' where
  rdr := hR
  res := hO.heap h.res G.n2r
  mod := hO.heap h.mod fun e => G.nrm e.symm
  maps := h.maps.keepT hO fun k hk e => row_ne h.rdr h.maps.1 (by decide) (by rw [hk, e])
  code := h.code.keepT hO fun k hk e => row_ne h.rdr h.code.1 (by decide) (by rw [hk, e])
  only := h.only.trans hO fun k hk e => by have := G.lr; omega
theorem DSt.fresh {w : World} {g2 gr gm : Nat} {bv : Value} {p f : Nat} {e : Int} {ms : List Int} {cs : List InstD} {vm vc : Value} {wr wr' : World} (h : DSt w g2 gr gm bv p f e ms cs vm vc wr)
    (hO : Only (fun _ => False) wr wr') : DSt w g2 gr gm bv p f e ms cs vm vc wr' where
  rdr := hO.heap h.rdr id
  res := hO.heap h.res id
  mod := hO.heap h.mod id
  maps := h.maps.keepT hO fun k hk => id
  code := h.code.keepT hO fun k hk => id
  only := h.only.tr hO
theorem DSt.pushM {w : World} {g2 gr gm : Nat} {bv : Value} {p f : Nat} {e : Int} {ms ms' : List Int} {cs : List InstD} {vm vc v : Value} {wr wr' : World} (G : Gs w g2 gr gm) (h : DSt w g2 gr gm bv p f e ms cs vm vc wr)
    (h5 : OwS (eInt .i64) 3 (fun k => vm.ownBlock = some k ∨ wr.heap.size ≤ k) wr' v ms') (hO : Only (fun k => vm.ownBlock = some k) wr wr') : DSt w g2 gr gm bv p f e ms' cs v vc (wr'.setCell ⟨gm, 0, none⟩ v) := by
  have hr : RdrB gr bv p f e wr' := hO.heap h.rdr (row_ne h.rdr h.maps.1 (by decide))
  have h2 := hO.heap h.res (row_ne h.res h.maps.1 (by decide))
  have hm := hO.heap h.mod (row_ne h.mod h.maps.1 (by decide))
  have hc : OwS eInst 44 (fun k => w.heap.size ≤ k) wr' vc cs := h.code.keepT hO fun k hk e => own_ne h.code.1 h.maps.1 (by decide) hk e
  have ho : Only (fun _ => False) w wr' := h.only.trans hO fun k hk e => by have := h.maps.2 k e; omega
  have hs : Only (fun k => k = gm) wr' (wr'.setCell ⟨gm, 0, none⟩ v) := Only.setCell _ _ _ _ _ rfl
  have hsz := h.only.size
  exact {
    rdr := hr.far G.nrm
    res := hs.heap h2 G.n2m
    mod := blk_set hm 0 v
    maps := OwS.keepT ⟨h5.1, fun k hk => (h5.2 k hk).elim (fun e => h.maps.2 k e) (fun e => by show w.heap.size ≤ k; omega)⟩ hs fun k hk e => row_ne hm h5.1 (by decide) (by rw [hk, e])
    code := hc.keepT hs fun k hk e => row_ne hm hc.1 (by decide) (by rw [hk, e])
    only := ho.trans hs fun k hk e => by have := G.lm; omega }
theorem DSt.pushC {w : World} {g2 gr gm : Nat} {bv : Value} {p f : Nat} {e : Int} {ms : List Int} {cs cs' : List InstD} {vm vc v : Value} {wr wr' : World} (G : Gs w g2 gr gm) (h : DSt w g2 gr gm bv p f e ms cs vm vc wr)
    (h5 : OwS eInst 44 (fun k => vc.ownBlock = some k ∨ wr.heap.size ≤ k) wr' v cs') (hO : Only (fun k => vc.ownBlock = some k) wr wr') : DSt w g2 gr gm bv p f e ms cs' vm v (wr'.setCell ⟨gm, 1, none⟩ v) := by
  have hr : RdrB gr bv p f e wr' := hO.heap h.rdr (row_ne h.rdr h.code.1 (by decide))
  have h2 := hO.heap h.res (row_ne h.res h.code.1 (by decide))
  have hm := hO.heap h.mod (row_ne h.mod h.code.1 (by decide))
  have hc : OwS (eInt .i64) 3 (fun k => w.heap.size ≤ k) wr' vm ms := h.maps.keepT hO fun k hk e => own_ne h.maps.1 h.code.1 (by decide) hk e
  have ho : Only (fun _ => False) w wr' := h.only.trans hO fun k hk e => by have := h.code.2 k e; omega
  have hs : Only (fun k => k = gm) wr' (wr'.setCell ⟨gm, 1, none⟩ v) := Only.setCell _ _ _ _ _ rfl
  have hsz := h.only.size
  exact {
    rdr := hr.far G.nrm
    res := hs.heap h2 G.n2m
    mod := blk_set hm 1 v
    code := OwS.keepT ⟨h5.1, fun k hk => (h5.2 k hk).elim (fun e => h.code.2 k e) (fun e => by show w.heap.size ≤ k; omega)⟩ hs fun k hk e => row_ne hm h5.1 (by decide) (by rw [hk, e])
    maps := hc.keepT hs fun k hk e => row_ne hm hc.1 (by decide) (by rw [hk, e])
    only := ho.trans hs fun k hk e => by have := G.lm; omega }
theorem results_cell_row_tmp2 {P : Program} {fn : Func} {p u u2 : Tmp} {ty : TypeId} (h : fn.results = #[.cell p ty, .tmp u, .tmp u2]) (tmps : Array Value) (w : World) (g : Nat) (t : TypeId) (cs : Array Value) (fr : Nat × Nat) (d : TypeDesc)
    (hp : tmps.getD p undef = .pointer (some ⟨g, 0, none⟩)) (hg : w.heap[g]? = some (.cells cs t fr))
    (hu : P.underlying ty = some d) (hd : (match d with | .struct _ | .array _ _ => true | _ => false) = true) (hi : (P.info? ty).map (·.size) = some cs.size) :
    (results fn tmps).run P w = .ok (.tuple #[.agg cs, tmps.getD u undef, tmps.getD u2 undef]) w := by
  have hp' : tmps[p]?.getD undef = .pointer (some ⟨g, 0, none⟩) := by simpa using hp
  simp [results, h, hp', asAddr, run_loadVar_row w g t ty cs fr d hg hu hd hi]
end Go.Proofs.YtkocfgaajghggaaDoor
