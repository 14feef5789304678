/- Layer 16: the ring's methods, by footprints. -/
import Derived.Test.YtdpklmaldjohkaaRing3
import Derived.Test.YtdpklmaldjohkaaFoot
namespace Go.Proofs.Ytdpklmaldjohkaa
open Go.RowKit
set_option linter.unusedVariables false

def RingS (g h : Nat) (room : Int) (shut : Bool) (line : List Qd) (a r t d : Int) (S : Nat → Prop) (w : World) : Prop :=
  ∃ wv, Ring 0 g h w room shut wv line a r t d ∧ S g ∧ ∀ k, wv.ownBlock = some k → S k
def NumS (h : Nat) (last : Int) (S : Nat → Prop) (w : World) : Prop := Num 0 h w last ∧ S h

theorem RingS.framed {g h : Nat} {room : Int} {shut : Bool} {line : List Qd} {a r t d : Int} : Framed (RingS g h room shut line a r t d) where
  only S F w w' H ho hn := by
    obtain ⟨wv, H, h1, h2⟩ := H
    exact ⟨wv, H.only ho (hn g (heap_lt H.2.1) h1) (fun k hk => hn k (H.2.2.lt hk).2 (h2 k hk)), h1, h2⟩
  mono S S' w H hs := by
    obtain ⟨wv, H, h1, h2⟩ := H
    exact ⟨wv, H, hs g (heap_lt H.2.1) h1, fun k hk => hs k (H.2.2.lt hk).2 (h2 k hk)⟩
theorem NumS.framed {h : Nat} {last : Int} : Framed (NumS h last) where
  only S F w w' H ho hn := ⟨H.1.only ho (hn h (heap_lt H.1.2) H.2), H.2⟩
  mono S S' w H hs := ⟨H.1, hs h (heap_lt H.1.2) H.2⟩

theorem newS (room : Int) (h : Nat) (w : World) (h1 : 1 ≤ room) (h2 : room ≤ 16) :
    Calls Try.prog 8 #[.int .i64 room, .pointer (some ⟨h, 0, none⟩)] w fun e w' => ∃ g, e = .returned (.tuple #[.pointer (some ⟨g, 0, none⟩), .int .i64 0]) ∧ RingS g h room false [] 0 0 0 0 (fun k => w.heap.size ≤ k) w' ∧ Only (fun _ => False) w w' :=
  (new_any room h w h1 h2).mono fun e w' ⟨he, hR, hO, hs⟩ => ⟨_, he, ⟨_, ⟨Nat.zero_le _, hR.2.1, hR.2.2.mono (Nat.zero_le _)⟩, Nat.le_refl _, fun k hk => by simp [Value.ownBlock] at hk⟩, hO⟩
theorem take_nilS (g h : Nat) (room : Int) (shut : Bool) (a r t d : Int) (S : Nat → Prop) (w : World) (H : RingS g h room shut [] a r t d S w) :
    Calls Try.prog 9 #[.pointer (some ⟨g, 0, none⟩)] w fun e w' => e = .returned (.tuple #[qV (0, 0, 0), .bool false]) ∧ Only (fun _ => False) w w' := by
  obtain ⟨wv, H, h1, h2⟩ := H
  exact take_nil 0 g h room shut wv a r t d w H
theorem take_consS (g h : Nat) (room : Int) (shut : Bool) (q : Qd) (line : List Qd) (a r t d : Int) (S : Nat → Prop) (w : World) (H : RingS g h room shut (q :: line) a r t d S w) (ht : 0 ≤ t) (ht2 : t < 9223372036854775807) :
    Calls Try.prog 9 #[.pointer (some ⟨g, 0, none⟩)] w fun e w' => e = .returned (.tuple #[qV q, .bool true]) ∧ RingS g h room shut line a r (t + 1) d (fun k => S k ∨ w.heap.size ≤ k) w' ∧ Only S w w' := by
  obtain ⟨wv, H, h1, h2⟩ := H
  exact (take_cons 0 g h room shut wv q line a r t d w H ht ht2).mono fun e w' ⟨he, wv', hR, hf, hO⟩ =>
    ⟨he, ⟨wv', hR, .inl h1, fun k hk => .inl (h2 k (hf k hk))⟩, hO.mono fun k _ e => e ▸ h1⟩
theorem accept_shutS (g h : Nat) (room : Int) (line : List Qd) (a r t d : Int) (S : Nat → Prop) (w : World) (H : RingS g h room true line a r t d S w) (e0 e1 : Int) :
    Calls Try.prog 10 #[.pointer (some ⟨g, 0, none⟩), .agg #[.int .u64 e0, .int .u64 e1]] w fun e w' => e = .returned (.tuple #[.int .i64 0, .int .i64 43]) ∧ Only (fun _ => False) w w' := by
  obtain ⟨wv, H, h1, h2⟩ := H
  exact accept_shut 0 g h room wv line a r t d w H e0 e1
theorem accept_fullS (g h : Nat) (room : Int) (line : List Qd) (a r t d : Int) (S : Nat → Prop) (w : World) (H : RingS g h room false line a r t d S w) (e0 e1 : Int) (hr : room = line.length) (hr0 : 0 ≤ r) (hr1 : r < 9223372036854775807) :
    Calls Try.prog 10 #[.pointer (some ⟨g, 0, none⟩), .agg #[.int .u64 e0, .int .u64 e1]] w fun e w' => e = .returned (.tuple #[.int .i64 0, .int .i64 40]) ∧ RingS g h room false line a (r + 1) t d (fun k => S k ∨ w.heap.size ≤ k) w' ∧ Only S w w' := by
  obtain ⟨wv, H, h1, h2⟩ := H
  exact (accept_full 0 g h room wv line a r t d w H e0 e1 hr hr0 hr1).mono fun e w' ⟨he, hR, hO⟩ =>
    ⟨he, ⟨wv, hR, .inl h1, fun k hk => .inl (h2 k hk)⟩, hO.mono fun k _ e => e ▸ h1⟩
theorem accept_okS (g h : Nat) (room last : Int) (line : List Qd) (a r t d : Int) (S T : Nat → Prop) (w : World) (H : RingS g h room false line a r t d S w) (N : NumS h last T w) (e0 e1 : Int) (hr : room ≠ line.length) (hll : line.length ≤ 1000) (hr0 : 0 ≤ last) (hr1 : last < 9223372036854775807) (ha0 : 0 ≤ a) (ha1 : a < 9223372036854775807) :
    Calls Try.prog 10 #[.pointer (some ⟨g, 0, none⟩), .agg #[.int .u64 e0, .int .u64 e1]] w fun e w' => e = .returned (.tuple #[.int .i64 (last + 1), .int .i64 0]) ∧ RingS g h room false (line ++ [(last + 1, e0, e1)]) (a + 1) r t d (fun k => S k ∨ w.heap.size ≤ k) w' ∧ NumS h (last + 1) (fun k => T k ∧ k < w.heap.size) w' ∧ Only (fun k => S k ∨ T k) w w' := by
  obtain ⟨wv, H, h1, h2⟩ := H
  exact (accept_ok 0 g h room last wv line a r t d w H N.1 (Nat.zero_le _) e0 e1 hr hll hr0 hr1 ha0 ha1).mono fun e w' ⟨he, wv', hR, hN, hf, hO⟩ =>
    ⟨he, ⟨wv', hR, .inl h1, fun k hk => (hf k hk).elim (fun h => .inl (h2 k h)) .inr⟩, ⟨hN, N.2, heap_lt N.1.2⟩, hO.mono fun k _ e => by
      rcases e with e | e | e
      · exact .inl (e ▸ h1)
      · exact .inr (e ▸ N.2)
      · exact .inl (h2 k e)⟩
theorem waitingS (g h : Nat) (room : Int) (shut : Bool) (line : List Qd) (a r t d : Int) (S : Nat → Prop) (w : World) (H : RingS g h room shut line a r t d S w) (hl : line.length ≤ 1000) :
    Calls Try.prog 12 #[.pointer (some ⟨g, 0, none⟩)] w fun e w' => ∃ v', e = .returned v' ∧ OwS eQ 39 (fun k => w.heap.size ≤ k) w' v' line ∧ Only (fun _ => False) w w' := by
  obtain ⟨wv, H, h1, h2⟩ := H
  exact (waiting_any 0 g h room shut wv line a r t d w H hl).mono fun e w' ⟨v', he, hw, hO⟩ => ⟨v', he, OwS.of_ow hw, hO⟩
theorem shutS (g h : Nat) (room : Int) (shut : Bool) (line : List Qd) (a r t d : Int) (S : Nat → Prop) (w : World) (H : RingS g h room shut line a r t d S w) (hl : line.length ≤ 1000) (hd0 : 0 ≤ d) (hd1 : d < 9223372036854770000) :
    Calls Try.prog 11 #[.pointer (some ⟨g, 0, none⟩)] w fun e w' => ∃ v', e = .returned v' ∧ OwS eQ 39 (fun k => w.heap.size ≤ k) w' v' line ∧ RingS g h room true [] a r t (d + line.length) (fun k => S k ∧ k < w.heap.size) w' ∧ Only S w w' := by
  obtain ⟨wv, H, h1, h2⟩ := H
  have hlt := heap_lt H.2.1
  exact (shut_any 0 g h room shut wv line a r t d w H hl hd0 hd1).mono fun e w' ⟨v', he, hw, hR, hO⟩ =>
    ⟨v', he, OwS.of_ow hw, ⟨_, hR, ⟨h1, hlt⟩, fun k hk => by simp [Value.ownBlock] at hk⟩, hO.mono fun k _ e => e ▸ h1⟩
end Go.Proofs.Ytdpklmaldjohkaa
