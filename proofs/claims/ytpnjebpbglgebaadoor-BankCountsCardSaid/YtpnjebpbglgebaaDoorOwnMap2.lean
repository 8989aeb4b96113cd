/-
  The map 'own': an entry set, an entry looked up.
-/
import Derived.Test.YtpnjebpbglgebaaDoorOwnMap
namespace Go.Proofs.YtpnjebpbglgebaaDoor
open Go Go.RowKit

theorem ownIx_some {k i : Int} : ∀ {es : List OwnE} {n m : Nat} {v : Value}, ownIx k i es n = some (m, v) → ∃ j, m = n + j ∧ ∃ e, es[j]? = some e ∧ e.kind = k ∧ e.id = i ∧ v = thing e.bank e.ver
  | [], _, _, _, h => by simp [ownIx] at h
  | e :: es, n, m, v, h => by
    simp only [ownIx] at h
    split at h
    · rename_i he
      simp only [Option.some.injEq, Prod.mk.injEq] at h
      simp only [Bool.and_eq_true, beq_iff_eq] at he
      exact ⟨0, by omega, e, rfl, he.1.symm, he.2.symm, h.2.symm⟩
    · obtain ⟨j, hj, e', h1, h2⟩ := ownIx_some h
      exact ⟨j + 1, by omega, e', h1, h2⟩

theorem sameBits_thing (d : Nat) (k i : Int) : Instr.sameBits (d + 2) (thing k i) (thing k i) = true := by simp [Instr.sameBits]
theorem run_stays (w : World) (k i : Int) : (Instr.keyThatStays (thing k i) (thing k i)).run Tryd.prog w = .ok (thing k i) w := by
  have h : Instr.sameBits 10000 (thing k i) (thing k i) = true := sameBits_thing 9998 k i
  unfold Instr.keyThatStays
  rw [if_pos h]
  rfl

def ownPut (es : List OwnE) (clock : Nat) (k i b v : Int) : List OwnE × Nat :=
  match ownIx k i es 0 with
  | some (n, _) => (es.modify n fun e => { e with bank := b, ver := v }, clock)
  | none => (es ++ [⟨k, i, b, v, clock⟩], clock + 1)

theorem run_ownPut (w : World) (r : Nat) (es : List OwnE) (clock : Nat) (k i b v : Int) (h : w.heap[r]? = some (.map (es.map OwnE.entry).toArray clock)) :
    (Instr.mapUpdate 70 (.map (some r)) (thing k i) (thing b v)).run Tryd.prog w =
      .ok () { w with heap := w.heap.setIfInBounds r (.map ((ownPut es clock k i b v).1.map OwnE.entry).toArray (ownPut es clock k i b v).2) } := by
  have hm := Tryd.underlying70
  have hf := run_ownFind w k i es
  have hc := run_checkThing w false k i
  cases hx : ownIx k i es 0 with
  | none =>
    rw [hx] at hf
    have e1 : ownPut es clock k i b v = (es ++ [⟨k, i, b, v, clock⟩], clock + 1) := by simp only [ownPut, hx]
    rw [e1]
    simp [Instr.mapUpdate, run_underlying hm, MapKept.run_getObj_map h, hc, hf, MapKept.run_setObj_map _ h, Result.andThen, OwnE.entry]
  | some p =>
    obtain ⟨n, u⟩ := p
    rw [hx] at hf
    obtain ⟨j, hj, e, he, hk, hi, hu⟩ := ownIx_some hx
    obtain rfl : n = j := by omega
    have e1 : ownPut es clock k i b v = (es.modify n fun e => { e with bank := b, ver := v }, clock) := by simp only [ownPut, hx]
    have e2 : ((es.map OwnE.entry).toArray[n]?.map (·.key)).getD (thing k i) = thing k i := by simp [he, OwnE.entry, hk, hi]
    rw [e1]
    have hmod : (es.map OwnE.entry).modify n (fun e => { key := thing k i, val := thing b v, born := e.born }) = (es.modify n fun e => { kind := e.kind, id := e.id, bank := b, ver := v, born := e.born }).map OwnE.entry := by
      apply List.ext_getElem?
      intro q
      simp only [List.getElem?_modify, List.getElem?_map]
      by_cases hq : n = q
      · subst hq; simp [he, OwnE.entry, hk, hi]
      · simp [hq]
    simp [Instr.mapUpdate, run_underlying hm, MapKept.run_getObj_map h, hc, hf, MapKept.run_setObj_map _ h, Result.andThen, he, OwnE.entry, hk, hi, run_stays]
    rw [hmod]

/-- The value of an object's entry, and whether there is one. -/
def ownGet (es : List OwnE) (k i : Int) : Value × Bool :=
  match ownIx k i es 0 with
  | some (_, v) => (v, true)
  | none => (thing 0 0, false)

theorem zero_owned : (Tryd.prog.info? 107).map (·.zero) = some (some (thing 0 0)) := by kernel_rfl

theorem run_ownGet (w : World) (r : Nat) (es : List OwnE) (clock : Nat) (k i : Int) (h : w.heap[r]? = some (.map (es.map OwnE.entry).toArray clock)) :
    (Instr.lookup 70 (.map (some r)) (thing k i) true).run Tryd.prog w = .ok (.tuple #[(ownGet es k i).1, .bool (ownGet es k i).2]) w := by
  have hm := Tryd.underlying70
  have hf := run_ownFind w k i es
  have hc := run_checkThing w (es.map OwnE.entry).toArray.isEmpty k i
  have hz : (zeroValue 107).run Tryd.prog w = .ok (thing 0 0) w := by
    obtain ⟨j, hj, hz⟩ := Option.map_eq_some_iff.1 zero_owned
    simp [zeroValue, typeInfo, hj, hz]
  unfold Instr.lookup
  simp only [Sem.run_bind, run_underlying hm, Result.andThen]
  cases hx : ownIx k i es 0 with
  | none =>
    rw [hx] at hf
    have e1 : ownGet es k i = (thing 0 0, false) := by simp only [ownGet, hx]
    rw [e1]
    simp [MapKept.run_getObj_map h, Result.andThen, hf, hz]
    simp at hc
    simp [hc, Result.andThen, hf, hz]
  | some p =>
    obtain ⟨n, u⟩ := p
    rw [hx] at hf
    have e1 : ownGet es k i = (u, true) := by simp only [ownGet, hx]
    rw [e1]
    simp [MapKept.run_getObj_map h, Result.andThen, hf]
    simp at hc
    simp [hc, Result.andThen, hf]
end Go.Proofs.YtpnjebpbglgebaaDoor
