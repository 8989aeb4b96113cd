/-
  Package bank: Owned.
-/
import Derived.Test.YtpnjebpbglgebaaDoorConcat
namespace Go.Proofs.YtpnjebpbglgebaaDoor
open Go Go.RowKit

/-- The keys to what is a bank's. -/
def ownedK (B : BanksS) (M : MemS) (dp : List Place) (id : Int) : List Key :=
  ownKeys B.own (liveK M dp) id 2 M.np.length ++ (ownKeys B.own (liveK M dp) id 3 M.pp.length ++ ownKeys B.own (liveK M dp) id 4 dp.length)

theorem cap_n (w : World) (a p : Nat) (l : List Place) (n : Nat) (h : ArenaRep w a p l) (hn : l.length = n) :
    Calls Tryd.prog 39 #[.pointer (some ⟨a, 0, none⟩)] w fun e w' => e = .returned (.int .i64 n) ∧ w = w' := by
  subst hn; exact cap_calls w a p l h

theorem three_rows {w : World} {b : Nat} {v1 v2 v3 : Value} {l1 l2 l3 : List Key} {b1 b2 b3 : Nat} (h : Blk w b [v1, v2, v3]) (r1 : w.ownsRow b1 44 5 v1 l1.length (flat Key.enc l1))
    (r2 : w.ownsRow b2 44 5 v2 l2.length (flat Key.enc l2)) (r3 : w.ownsRow b3 44 5 v3 l3.length (flat Key.enc l3)) (f1 : l1.length ≤ 256) (f2 : l2.length ≤ 256) (f3 : l3.length ≤ 256) :
    RowsK w b [(v1, l1), (v2, l2), (v3, l3)] := by
  refine ⟨fun i hi => ?_, fun i hi => ?_, fun i hi => ?_⟩ <;> match i, hi with
  | 0, _ => _
  | 1, _ => _
  | 2, _ => _
  · exact h.cell 0 _ rfl
  · exact h.cell 1 _ rfl
  · exact h.cell 2 _ rfl
  · exact ⟨_, r1⟩
  · exact ⟨_, r2⟩
  · exact ⟨_, r3⟩
  · exact f1
  · exact f2
  · exact f3
end Go.Proofs.YtpnjebpbglgebaaDoor
