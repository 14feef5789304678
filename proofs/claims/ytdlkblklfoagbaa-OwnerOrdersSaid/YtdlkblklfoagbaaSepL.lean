/- Several things apart, in a list. -/
import Derived.Test.YtdlkblklfoagbaaMA
namespace Go.Proofs.Ytdlkblklfoagbaa
open Go.RowKit
set_option linter.unusedVariables false

def SepL : List ((Nat → Prop) → World → Prop) → (Nat → Prop) → World → Prop
  | [] => Emp
  | P :: L => Sep P (SepL L)
theorem SepL.framed : ∀ {L : List ((Nat → Prop) → World → Prop)}, (∀ P ∈ L, Framed P) → Framed (SepL L)
  | [], _ => Emp.framed
  | P :: L, h => Sep.framed (h P (List.mem_cons_self ..)) (SepL.framed fun Q hQ => h Q (List.mem_cons_of_mem _ hQ))
/-- one of them taken out, with the way back -/
theorem SepL.at : ∀ {L : List ((Nat → Prop) → World → Prop)}, (∀ P ∈ L, Framed P) → ∀ {S : Nat → Prop} {w : World}, SepL L S w → ∀ (i : Nat) (hi : i < L.length), ∃ A, L[i] A w ∧ ∀ P' w', Framed P' → Upd P' A w w' → Upd (SepL (L.set i P')) S w w'
  | [], _, _, _, _, i, hi => by simp at hi
  | P :: L, hF, S, w, h, 0, _ => by
    obtain ⟨A, hA, hb⟩ := h.focus (SepL.framed fun Q hQ => hF Q (List.mem_cons_of_mem _ hQ))
    exact ⟨A, hA, fun P' w' hP' hu => hb P' w' hP' hu⟩
  | P :: L, hF, S, w, h, i + 1, hi => by
    have hL : ∀ Q ∈ L, Framed Q := fun Q hQ => hF Q (List.mem_cons_of_mem _ hQ)
    obtain ⟨B, hB, hb⟩ := h.focusR (hF P (List.mem_cons_self ..))
    obtain ⟨A, hA, ha⟩ := SepL.at hL hB i (by simpa using hi)
    refine ⟨A, hA, fun P' w' hP' hu => hb _ w' (SepL.framed fun Q hQ => ?_) (ha P' w' hP' hu)⟩
    rcases List.mem_or_eq_of_mem_set hQ with h | h
    · exact hL Q h
    · exact h ▸ hP'
/-- one of them, to read -/
theorem SepL.get : ∀ {L : List ((Nat → Prop) → World → Prop)} {S : Nat → Prop} {w : World}, SepL L S w → ∀ (i : Nat) (hi : i < L.length), ∃ A, L[i] A w
  | [], _, _, _, i, hi => by simp at hi
  | P :: L, S, w, h, 0, _ => by obtain ⟨A, B, _, _, _, hp, _⟩ := h; exact ⟨A, hp⟩
  | P :: L, S, w, h, i + 1, hi => by
    obtain ⟨A, B, _, _, _, _, hq⟩ := h
    exact SepL.get hq i (by simpa using hi)
theorem SepL.snoc : ∀ {L : List ((Nat → Prop) → World → Prop)} {P : (Nat → Prop) → World → Prop} {S : Nat → Prop} {w : World}, Sep (SepL L) P S w → SepL (L ++ [P]) S w
  | [], P, S, w, h => by
    obtain ⟨A, B, hd, hA, hB, hp, hq⟩ := h
    exact ⟨B, A, fun k h1 h2 => hd k h2 h1, hB, hA, hq, trivial⟩
  | Q :: L, P, S, w, h => by
    have h2 := h.assoc
    exact h2.imp (fun _ h => h) fun _ h => SepL.snoc h
end Go.Proofs.Ytdlkblklfoagbaa
