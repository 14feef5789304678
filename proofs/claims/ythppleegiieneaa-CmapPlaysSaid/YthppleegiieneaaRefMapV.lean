/- cmap: the document's map, its parts. -/
import Derived.Test.YthppleegiieneaaRefMapO
namespace Go.Proofs.Ythppleegiieneaa
open Go.RowKit
set_option linter.unusedVariables false
set_option linter.unusedSimpArgs false

theorem rsh_cell {w : World} {b off : Nat} {xs : List RShA} (hc : ∀ j u, (eRSh.all xs)[j]? = some u → w.cell? ⟨b, off + j, none⟩ = some u) (k : Nat) (h : k < xs.length) : w.cell? ⟨b, off + k, none⟩ = some (.pointer (some ⟨xs[k].rs, 0, none⟩)) := by
  have := eRSh.all_at xs k 0 h (by decide)
  refine hc k _ ?_
  simpa [eRSh] using this
section
variable {T : Nat → Prop} {w : World} {m : Nat} {cap : Int} {al : List RShA} {ss : List RSt} {v : Value}
theorem RMapS.named (h : RMapS m cap al ss T w) : ∃ v, RMapV m cap v al ss T w := by
  obtain ⟨A, B, hd, hA, hB, ⟨v, h1, h2, h3, h4⟩, hq⟩ := h
  exact ⟨v, A, B, hd, hA, hB, ⟨h1, h2, h3, h4⟩, hq⟩
theorem RMapV.plain (h : RMapV m cap v al ss T w) : RMapS m cap al ss T w := h.imp (fun _ ⟨h1, h2, h3, h4⟩ => ⟨v, h1, h2, h3, h4⟩) fun _ h => h
theorem RMapV.own (h : RMapV m cap v al ss T w) : w.heap[m]? = some (.cells (rmapC v) 63 (0, 0)) ∧ Rd eRSh w v al := by
  obtain ⟨A, B, _, _, _, ⟨hg, ho, _, _⟩, _⟩ := h
  exact ⟨hg, ho.rd⟩
theorem RMapV.shape (h : RMapV m cap v al ss T w) (h0 : 0 < al.length) : ∃ sb off c, v = .slice (some ⟨sb, off, none⟩) al.length c := by
  obtain ⟨_, ao, c, rfl, _, _, hx⟩ := h.own.2
  obtain ⟨sb, off, rfl, _⟩ := hx (by omega)
  exact ⟨sb, off, c, rfl⟩
theorem RMapV.slot {sb off c : Nat} (h : RMapV m cap (.slice (some ⟨sb, off, none⟩) al.length c) al ss T w) {i : Nat} (hi : i < al.length) : w.cell? ⟨m, 0, none⟩ = some (.slice (some ⟨sb, off, none⟩) al.length c) ∧ w.cell? ⟨sb, off + i, none⟩ = some (.pointer (some ⟨al[i].rs, 0, none⟩)) := by
  obtain ⟨hg, _, ao, c', he, _, _, hx⟩ := h.own
  obtain ⟨sb', off', rfl, hc⟩ := hx (by omega)
  obtain ⟨⟨rfl, rfl⟩, rfl⟩ : (sb = sb' ∧ off = off') ∧ c = c' := by simpa using he
  exact ⟨blk_cell hg 0, rsh_cell hc i hi⟩
/-- one shard taken out, with the way back -/
theorem RMapV.at (h : RMapV m cap v al ss T w) (hl : al.length = ss.length) (i : Nat) (h1 : i < al.length) (h2 : i < ss.length) : ∃ A, RShardS al[i] cap ss[i].1 ss[i].2 A w ∧ ∀ (s' : RSt) w', Upd (RShardS al[i] cap s'.1 s'.2) A w w' → Upd (RMapV m cap v al (ss.set i s')) T w w' := by
  obtain ⟨B, hB, hb⟩ := h.focusR Obj1v.framed
  obtain ⟨A, hA, ha⟩ := SepL.at rshL_framed hB i (by rw [rshL_len hl]; exact h2)
  rw [rshL_get i _ h1 h2] at hA
  refine ⟨A, hA, fun s' w' hu => ?_⟩
  have := hb _ w' (SepL.framed fun P hP => by
    rcases List.mem_or_eq_of_mem_set hP with h | h
    · exact rshL_framed P h
    · exact h ▸ RShardS.framed) (ha _ w' (RShardS.framed (s := s'.1) (n := s'.2)) hu)
  rwa [rshL_set i h1] at this
end
end Go.Proofs.Ythppleegiieneaa
