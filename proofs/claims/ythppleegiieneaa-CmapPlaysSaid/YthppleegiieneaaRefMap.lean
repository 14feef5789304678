/- cmap: the document's map, New (begun). -/
import Derived.Test.YthppleegiieneaaCMapBatch
import Derived.Test.YthppleegiieneaaRefShard
namespace Go.Proofs.Ythppleegiieneaa
open Go.RowKit
set_option linter.unusedVariables false
set_option linter.unusedSimpArgs false

def eRSh : Enc RShA where
  size := 1
  pos := by decide
  cells a := [.pointer (some ⟨a.rs, 0, none⟩)]
  len _ := rfl
  one a u h := by
    obtain rfl : u = .pointer (some ⟨a.rs, 0, none⟩) := by simpa using h
    rfl
theorem eRSh_slice : SliceInfo Try.prog 61 32 eRSh.size 8 := SliceInfo.mk' Try.underlying61 (z := .pointer none) (by kernel_rfl) rfl
/-- a shard's state and its counter -/
abbrev RSt := Sh × Int
def rshL (cap : Int) (al : List RShA) (ss : List RSt) : List ((Nat → Prop) → World → Prop) := List.zipWith (fun a s => RShardS a cap s.1 s.2) al ss
theorem rshL_framed {cap : Int} {al : List RShA} {ss : List RSt} : ∀ P ∈ rshL cap al ss, Framed P := by
  intro P hP
  obtain ⟨i, hi, rfl⟩ := List.mem_iff_getElem.1 hP
  simp only [rshL, List.getElem_zipWith]
  exact RShardS.framed
theorem rshL_len {cap : Int} {al : List RShA} {ss : List RSt} (h : al.length = ss.length) : (rshL cap al ss).length = ss.length := by simp [rshL, h]
theorem rshL_get {cap : Int} {al : List RShA} {ss : List RSt} (i : Nat) (h1 : i < (rshL cap al ss).length) (h2 : i < al.length) (h3 : i < ss.length) : (rshL cap al ss)[i] = RShardS al[i] cap ss[i].1 ss[i].2 := by simp [rshL]
theorem rshL_set {cap : Int} {al : List RShA} {ss : List RSt} (i : Nat) (h2 : i < al.length) (s : RSt) : (rshL cap al ss).set i (RShardS al[i] cap s.1 s.2) = rshL cap al (ss.set i s) := by
  refine List.ext_getElem (by simp [rshL]) fun j h3 h4 => ?_
  simp only [rshL, List.getElem_set, List.getElem_zipWith]
  split
  · next h => subst h; rfl
  · rfl
theorem rshL_snoc {cap : Int} {al : List RShA} {ss : List RSt} (h : al.length = ss.length) (a : RShA) (s : RSt) : rshL cap al ss ++ [RShardS a cap s.1 s.2] = rshL cap (al ++ [a]) (ss ++ [s]) := by
  simp [rshL, List.zipWith_append h]
abbrev rmapC (v : Value) : Array Value := #[v]
def RMapV (m : Nat) (cap : Int) (v : Value) (al : List RShA) (ss : List RSt) : (Nat → Prop) → World → Prop := Sep (Obj1v eRSh 63 32 rmapC m v al) (SepL (rshL cap al ss))
theorem RMapV.framed {m : Nat} {cap : Int} {v : Value} {al : List RShA} {ss : List RSt} : Framed (RMapV m cap v al ss) := Sep.framed Obj1v.framed (SepL.framed rshL_framed)
def RMapS (m : Nat) (cap : Int) (al : List RShA) (ss : List RSt) : (Nat → Prop) → World → Prop := Sep (Obj1 eRSh 63 32 rmapC m al) (SepL (rshL cap al ss))
theorem RMapS.framed {m : Nat} {cap : Int} {al : List RShA} {ss : List RSt} : Framed (RMapS m cap al ss) := Sep.framed Obj1.framed (SepL.framed rshL_framed)
end Go.Proofs.Ythppleegiieneaa
