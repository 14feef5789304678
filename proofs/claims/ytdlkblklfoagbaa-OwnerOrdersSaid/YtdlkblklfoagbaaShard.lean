/- cmap: a shard, Make. -/
import Derived.Test.YtdlkblklfoagbaaSepL
import Derived.Test.YtdlkblklfoagbaaShardM
import Derived.Test.YtdlkblklfoagbaaME
namespace Go.Proofs.Ytdlkblklfoagbaa
open Go.RowKit
set_option linter.unusedVariables false
set_option linter.unusedSimpArgs false

/-- where a shard lies: a book, or an LRU and its book -/
inductive ShA where
  | plain (b : Nat)
  | bound (g b : Nat)
def ShA.val : ShA → Value
  | .plain b => .iface 96 (.pointer (some ⟨b, 0, none⟩))
  | .bound g _ => .iface 99 (.pointer (some ⟨g, 0, none⟩))
def ShA.bd : ShA → Bool
  | .plain _ => false
  | .bound _ _ => true
abbrev Sh := List PairD × List Int
def ShardS (a : ShA) (cap : Int) (s : Sh) : (Nat → Prop) → World → Prop := match a with
  | .plain b => BookS b cap s.1
  | .bound g b => LruS g b cap s
theorem ShardS.framed {a : ShA} {cap : Int} {s : Sh} : Framed (ShardS a cap s) := by
  cases a
  · exact BookS.framed
  · exact LruS.framed
def shP (bd : Bool) (cap : Int) (s : Sh) (op k v : Int) : ResD × Sh := if bd then lruP cap s op k v else ((doP cap s.1 op k v).1, ((doP cap s.1 op k v).2, s.2))
structure SGood (bd : Bool) (cap : Int) (s : Sh) : Prop where
  good : Good cap s.1
  lru : bd = true → LGood cap s
theorem sh_good {bd : Bool} {cap : Int} {s : Sh} {op k v : Int} (G : SGood bd cap s) : SGood bd cap (shP bd cap s op k v).2 := by
  cases bd
  · exact ⟨do_good G.good, fun h => by simp at h⟩
  · exact ⟨(lru_good (G.lru rfl)).good, fun _ => lru_good (G.lru rfl)⟩
theorem sgood_nil {bd : Bool} {cap : Int} (h1 : 1 ≤ cap) (h2 : cap ≤ 16) : SGood bd cap ([], []) := ⟨good_nil h1 h2, fun _ => lgood_nil h1 h2⟩
theorem SGood.len {bd : Bool} {cap : Int} {s : Sh} (G : SGood bd cap s) : s.1.length ≤ 16 := by have := G.good.len; have := G.good.hi; omega
section
variable {T : Nat → Prop} {w : World} {b g : Nat} {cap : Int} {s s' : Sh} {op key val : Int} {r : ResD}
theorem shDo_plain (hT : ShardS (.plain b) cap s T w) (G : SGood false cap s) (hd : shP false cap s op key val = (r, s')) :
    Calls Try.prog 56 #[.pointer (some ⟨b, 0, none⟩), .int .i64 op, .int .u64 key, .int .u64 val] w fun e w' => e = .returned (.agg #[.int .i64 r.1, .bool r.2.1, .int .u64 r.2.2.1, .bool r.2.2.2.1, .int .u64 r.2.2.2.2.1, .int .u64 r.2.2.2.2.2]) ∧ Upd (ShardS (.plain b) cap s') T w w' := by
  have h : ((doP cap s.1 op key val).1, ((doP cap s.1 op key val).2, s.2)) = (r, s') := hd
  simp only [Prod.mk.injEq] at h
  obtain ⟨h1, h2⟩ := h
  have := bookDo_ (r := r) (ys := s'.1) hT G.good (by rw [← h1, ← h2])
  exact this
theorem shDo_bound (hT : ShardS (.bound g b) cap s T w) (G : SGood true cap s) (hd : shP true cap s op key val = (r, s')) :
    Calls Try.prog 69 #[.pointer (some ⟨g, 0, none⟩), .int .i64 op, .int .u64 key, .int .u64 val] w fun e w' => e = .returned (.agg #[.int .i64 r.1, .bool r.2.1, .int .u64 r.2.2.1, .bool r.2.2.2.1, .int .u64 r.2.2.2.2.1, .int .u64 r.2.2.2.2.2]) ∧ Upd (ShardS (.bound g b) cap s') T w w' :=
  lruDo_ hT (G.lru rfl) hd
theorem ShardS.ptr (hT : ShardS (.bound g b) cap s T w) : w.cell? ⟨g, 0, none⟩ = some (.pointer (some ⟨b, 0, none⟩)) := LruS.ptr hT
theorem shBook {a : ShA} (hT : ShardS a cap s T w) : ∃ b T', (a = .plain b ∨ ∃ g, a = .bound g b) ∧ BookS b cap s.1 T' w := by
  cases a
  · exact ⟨_, T, .inl rfl, hT⟩
  · exact ⟨_, T, .inr ⟨_, rfl⟩, Sep.right BookS.framed hT⟩
theorem shPairs_plain {bd : Bool} (hT : ShardS (.plain b) cap s T w) (G : SGood bd cap s) : Calls Try.prog 58 #[.pointer (some ⟨b, 0, none⟩)] w fun e w' => ∃ v', e = .returned v' ∧ OwS ePair 50 (fun k => w.heap.size ≤ k) w' v' s.1 ∧ Only (fun _ => False) w w' :=
  bpairs_any b cap s.1 T w hT (by have := G.len; omega)
theorem shPairs_bound {bd : Bool} (hT : ShardS (.bound g b) cap s T w) (G : SGood bd cap s) : Calls Try.prog 58 #[.pointer (some ⟨b, 0, none⟩)] w fun e w' => ∃ v', e = .returned v' ∧ OwS ePair 50 (fun k => w.heap.size ≤ k) w' v' s.1 ∧ Only (fun _ => False) w w' :=
  bpairs_any b cap s.1 T w (Sep.right BookS.framed hT) (by have := G.len; omega)
end
/-- a kind and a room that make a shard -/
def okDef (kind cap : Int) : Bool := (decide (kind = 0) || decide (kind = 1)) && (decide (1 ≤ cap) && decide (cap ≤ 16))
theorem okDef_iff {kind cap : Int} : okDef kind cap = true ↔ (kind = 0 ∨ kind = 1) ∧ 1 ≤ cap ∧ cap ≤ 16 := by unfold okDef; simp
set_option maxHeartbeats 1000000 in
theorem make_bad (kind cap : Int) (w : World) (h : okDef kind cap = false) :
    Calls Try.prog 23 #[.agg #[.int .i64 kind, .int .i64 cap]] w fun e w' => e = .returned (.tuple #[.nilIface, .int .i64 2]) ∧ Only (fun _ => False) w w' := by
  have hor : (¬ kind = 0 ∧ ¬ kind = 1) ∨ (kind = 0 ∧ (cap < 1 ∨ 16 < cap)) ∨ (kind = 1 ∧ (cap < 1 ∨ 16 < cap)) := by
    have : ¬ ((kind = 0 ∨ kind = 1) ∧ 1 ≤ cap ∧ cap ≤ 16) := fun hh => by rw [okDef_iff.2 hh] at h; simp at h
    omega
  clear h
  rcases hor with ⟨h0, h1⟩ | ⟨rfl, hc⟩ | ⟨rfl, hc⟩
  · have b0 : (kind == 0) = false := by simpa using h0
    have b1 : (kind == 1) = false := by simpa using h1
    go_enter Try.func23, Try.ntmps23
    go_wp2_with fail
    go_ret2
    exact ⟨rfl, Only.alloc _ _ _⟩
  · have HN := Lib.hid (new_bad cap · hc)
    clear hc
    go_enter Try.func23, Try.ntmps23
    go_wp2_with fail
    refine (HN.out _).mono ?_
    rintro e w1 ⟨rfl, ho⟩
    go_wp2_with fail
    go_ret2
    exact ⟨rfl, (Only.alloc _ _ _).tr ho⟩
  · have HN := Lib.hid (lruNew_bad cap · hc)
    clear hc
    go_enter Try.func23, Try.ntmps23
    go_wp2_with fail
    refine (HN.out _).mono ?_
    rintro e w1 ⟨rfl, ho⟩
    go_wp2_with fail
    go_ret2
    exact ⟨rfl, (Only.alloc _ _ _).tr ho⟩
set_option maxHeartbeats 1000000 in
theorem make_ok (kind cap : Int) (w : World) (h : okDef kind cap = true) :
    Calls Try.prog 23 #[.agg #[.int .i64 kind, .int .i64 cap]] w fun e w' => ∃ a : ShA, e = .returned (.tuple #[a.val, .int .i64 0]) ∧ (a.bd = decide (kind = 1) ∧ ShardS a cap ([], []) (fun k => w.heap.size ≤ k) w') ∧ Only (fun _ => False) w w' := by
  obtain ⟨hk, h1, h2⟩ := okDef_iff.1 h
  have hmb := mk_book
  have hml := mk_lru
  clear h
  rcases hk with rfl | rfl
  · have HN := Lib.hid (new_ok cap · h1 h2)
    clear h1 h2
    go_enter Try.func23, Try.ntmps23
    go_wp2_with fail
    refine (HN.out _).mono ?_
    rintro e w1 ⟨b, rfl, hb, ho⟩
    have HF := Lib.hid (show ShardS (.plain b) cap ([], []) (fun k => w.heap.size ≤ k) w1 from BookS.framed.mono _ _ _ hb fun k _ h => Nat.le_trans (size_le_alloc w _) h)
    have HO := Lib.hid ((Only.alloc _ w (.cells #[.int .i64 0, .int .i64 cap] 77)).tr ho)
    clear hb ho
    go_wp2_with fail
    go_ret2
    exact ⟨.plain b, rfl, ⟨rfl, HF.out⟩, HO.out⟩
  · have HN := Lib.hid (lruNew_ok cap · h1 h2)
    clear h1 h2
    go_enter Try.func23, Try.ntmps23
    go_wp2_with fail
    refine (HN.out _).mono ?_
    rintro e w1 ⟨g, rfl, ⟨b, hb⟩, ho⟩
    have HF := Lib.hid (show ShardS (.bound g b) cap ([], []) (fun k => w.heap.size ≤ k) w1 from LruS.framed.mono _ _ _ hb fun k _ h => Nat.le_trans (size_le_alloc w _) h)
    have HO := Lib.hid ((Only.alloc _ w (.cells #[.int .i64 1, .int .i64 cap] 77)).tr ho)
    clear hb ho
    go_wp2_with fail
    go_ret2
    exact ⟨.bound g b, rfl, ⟨rfl, HF.out⟩, HO.out⟩
end Go.Proofs.Ytdlkblklfoagbaa
