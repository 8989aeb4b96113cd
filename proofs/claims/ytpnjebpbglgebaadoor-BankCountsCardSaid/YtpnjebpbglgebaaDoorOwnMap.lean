/-
  The map 'own' of banks, keyed by a struct of two numbers.
-/
import Derived.Test.YtpnjebpbglgebaaDoorSysRep
import Derived.MapKept
namespace Go.Proofs.YtpnjebpbglgebaaDoor
open Go Go.RowKit

@[reducible] def thing (a b : Int) : Value := .agg #[.int .i64 a, .int .i64 b]

theorem equalIn_int (w : World) (d : Nat) (a b : Int) : (Op.equalIn (d + 1) 3 (.int .i64 a) (.int .i64 b)).run Tryd.prog w = .ok (a == b) w := by
  have hi := Tryd.underlying3
  simp [Op.equalIn, run_underlying hi]

theorem equalIn_thing (w : World) (d : Nat) (a b c e : Int) : (Op.equalIn (d + 2) 105 (thing a b) (thing c e)).run Tryd.prog w = .ok (a == c && b == e) w := by
  have hu := Tryd.underlying105
  have hi := Tryd.underlying3
  have q := equalIn_int w d
  have hag : (isAgg 3).run Tryd.prog w = .ok false w := by simp [isAgg, run_underlying hi]
  unfold Op.equalIn
  simp only [run_underlying hu, Sem.run_bind, Result.andThen]
  by_cases h1 : a = c <;> by_cases h2 : b = e <;> simp [part, sizeOf, typeInfo, Result.andThen, q, hag, h1, h2]

/-- Where the entry of an object stands, with its value. -/
def ownIx (k i : Int) : List OwnE → Nat → Option (Nat × Value)
  | [], _ => none
  | e :: es, n => if (k == e.kind && i == e.id) = true then some (n, thing e.bank e.ver) else ownIx k i es (n + 1)

theorem equal_thing (w : World) (a b c e : Int) : (Op.equal 105 (thing a b) (thing c e)).run Tryd.prog w = .ok (a == c && b == e) w := equalIn_thing w 9998 a b c e

theorem run_findAsking (w : World) (k i : Int) : ∀ (es : List OwnE) (n : Nat), (Instr.findAsking 105 (thing k i) (es.map OwnE.entry) n).run Tryd.prog w = .ok (ownIx k i es n) w
  | [], n => by simp [Instr.findAsking, ownIx]
  | e :: es, n => by
    have h := run_findAsking w k i es (n + 1)
    have q := equal_thing w k i e.kind e.id
    simp only [List.map_cons, Instr.findAsking, ownIx, Sem.run_bind, OwnE.entry]
    rw [q]
    simp only [Result.andThen]
    split
    · rfl
    · exact h

theorem run_ownFind (w : World) (k i : Int) (es : List OwnE) : (Instr.findKey 105 (thing k i) (es.map OwnE.entry)).run Tryd.prog w = .ok (ownIx k i es 0) w := by
  have hu := Tryd.underlying105
  have h := run_findAsking w k i es 0
  cases es with
  | nil => simp [Instr.findKey, run_underlying hu, Instr.findNow, ownIx, Result.andThen]
  | cons e es =>
    simp only [Instr.findKey, Sem.run_bind, run_underlying hu, Result.andThen]
    exact h

theorem run_checkInt (w : World) (e : Bool) (d : Nat) (n : Int) : (Instr.checkKey e (d + 1) 3 (.int .i64 n)).run Tryd.prog w = .ok () w := by
  have hi := Tryd.underlying3
  unfold Instr.checkKey
  simp [run_underlying hi]

theorem run_checkThing' (w : World) (e : Bool) (d : Nat) (k i : Int) : (Instr.checkKey e (d + 2) 105 (thing k i)).run Tryd.prog w = .ok () w := by
  have hu := Tryd.underlying105
  have hi := Tryd.underlying3
  have hag : (isAgg 3).run Tryd.prog w = .ok false w := by simp [isAgg, run_underlying hi]
  have q := run_checkInt w e d
  unfold Instr.checkKey
  simp [run_underlying hu, Sem.run_bind, Result.andThen, part, sizeOf, typeInfo, hag, q]
theorem run_checkThing (w : World) (e : Bool) (k i : Int) : (Instr.checkKey e 10000 105 (thing k i)).run Tryd.prog w = .ok () w := run_checkThing' w e 9998 k i
end Go.Proofs.YtpnjebpbglgebaaDoor
