/-
  Errors as plain data: Fault, Same, Is.
-/
import Derived.Test.YtpnjebpbglgebaaDoorSee
namespace Go.Proofs.YtpnjebpbglgebaaDoor
open Go Go.RowKit

set_option maxHeartbeats 400000 in
theorem fault_nil (w : World) : Calls Tryd.prog 54 #[.nilIface] w fun e w' => e = .returned (faultVal 0 false 0) ∧ Ext [] w w' := by
  go_enter Tryd.func54, Tryd.ntmps54
  go_wp2_with (go_at_call 66; refine (none_calls _).mono ?_; rintro e w1 ⟨rfl, hx⟩; have hb := hx.blk (Blk.new (cs := [.int .i64 0, .bool false, .int .i64 0])) (by simp); have c0 := hb.cell 0 _ rfl; have c1 := hb.cell 1 _ rfl; have c2 := hb.cell 2 _ rfl; have f0 := hb.frozen 0; have f1 := hb.frozen 1; have f2 := hb.frozen 2)
  exact bodyPost_ret (v := faultVal 0 false 0) (by simp [results, Tryd.results54, go_sem, c0, c1, c2]) rfl ⟨rfl, by repeat (first | exact ((Ext.refl _ _).alloc _).trans hx | apply Ext.setCell | (right; simp))⟩

theorem run_typeAssert_other {P : Program} (t st asserted e : TypeId) (v : Value) (z : Value) (hu : P.underlying asserted = some (.pointer e)) (hne : t ≠ asserted) (hz : (P.info? asserted).map (·.zero) = some (some z)) :
    ∀ w : World, (Instr.typeAssert (.iface t v) st asserted true).run P w = .ok (.tuple #[z, .bool false]) w := by
  intro w
  obtain ⟨i, hi, hz⟩ := Option.map_eq_some_iff.1 hz
  simp [Instr.typeAssert, run_underlying hu, hne, zeroValue, typeInfo, hi, hz]
theorem zero_atPtr : (Tryd.prog.info? 145).map (·.zero) = some (some (.pointer none)) := by kernel_rfl

set_option maxHeartbeats 400000 in
set_option maxRecDepth 100000 in
theorem fault_err {K : List Nat} {B : Nat} {E : Nat → Addr} (w : World) (he : Errs K B E w) (hK : All12 K) (k : Nat) (h1 : 1 ≤ k) (h2 : k ≤ 12) :
    Calls Tryd.prog 54 #[errV E k] w fun e w' => e = .returned (faultVal (100 + k : Nat) false 0) ∧ Ext [] w w' := by
  have hta := run_typeAssert_other (P := Tryd.prog) 158 31 145 _ (.pointer (some (E k))) _ Tryd.underlying145 (by decide) zero_atPtr
  go_enter Tryd.func54, Tryd.ntmps54
  go_wp2_with (first
    | (go_at_call 67; refine (sentinel_calls _ (he.ext ((Ext.refl [] w).alloc _) (by simp)) hK k h1 h2).mono ?_; rintro e w1 ⟨rfl, hx1⟩)
    | (go_at_call 36; refine (bare_calls _ _).mono ?_; rintro e w2 ⟨rfl, hx2⟩; have hb := (hx1.trans hx2).blk (Blk.new (cs := [.int .i64 0, .bool false, .int .i64 0])) (by simp); have c0 := hb.cell 0 _ rfl; have c1 := hb.cell 1 _ rfl; have c2 := hb.cell 2 _ rfl; have f0 := hb.frozen 0; have f1 := hb.frozen 1; have f2 := hb.frozen 2))
  exact bodyPost_ret (v := faultVal (100 + k : Nat) false 0) (by simp [results, Tryd.results54, go_sem, c0, c1, c2]) rfl ⟨rfl, by repeat (first | exact (((Ext.refl _ _).alloc _).trans hx1).trans hx2 | apply Ext.setCell | (right; simp))⟩

theorem fault_calls {K : List Nat} {B : Nat} {E : Nat → Addr} (w : World) (he : Errs K B E w) (hK : All12 K) (k : Nat) (h2 : k ≤ 12) :
    Calls Tryd.prog 54 #[errO E k] w fun e w' => e = .returned (faultVal (codeOf k) false 0) ∧ Ext [] w w' := by
  by_cases h : k = 0
  · subst h
    exact fault_nil w
  · rw [errO_pos E h]
    have : codeOf k = (100 + k : Nat) := if_neg h
    rw [this]
    exact fault_err w he hK k (by omega) h2

theorem same_box (w : World) (b n : Int) (q : Bool) {T : TypeId} : Blk (w.alloc (.cells #[.int .i64 b, .bool q, .int .i64 n] T)).drew w.heap.size [.int .i64 b, .bool q, .int .i64 n] :=
  (Blk.new (cs := [.int .i64 b, .bool q, .int .i64 n])).drew

theorem same_calls {K : List Nat} {B : Nat} {E : Nat → Addr} (w : World) (he : Errs K B E w) (hK : All12 K) (k : Nat) (h2 : k ≤ 12) (b : Int) (q : Bool) (n : Int) :
    Calls Tryd.prog 35 #[errO E k, faultVal b q n] w fun e w' => e = .returned (.bool (codeOf k == b && false == q && 0 == n)) ∧ Ext [] w w' := by
  go_enter Tryd.func35, Tryd.ntmps35
  go_wp2
  go_region_with (first
    | (go_at_call 54; refine (fault_calls (B := B) _ ?_ hK k h2).mono ?_; exact he.ext (((Ext.refl [] w).alloc _).drew) (by simp); rintro e w1 ⟨rfl, hx1⟩; have hb := hx1.blk (same_box w b n q) (by simp); have c0 := hb.cell 0 _ rfl; have c1 := hb.cell 1 _ rfl; have c2 := hb.cell 2 _ rfl)
    | (go_at_call 53; refine (sameFault_calls _ _ _ _ _ _ _).mono ?_; rintro e w2 ⟨rfl, hx2⟩))
  all_goals
    go_wp2
    go_ret
    exact ⟨by cases q <;> rfl, (((Ext.refl [] w).alloc _).drew.trans hx1).trans hx2⟩

theorem is_calls {K : List Nat} {B : Nat} {E : Nat → Addr} (w : World) (he : Errs K B E w) (hK : All12 K) (k : Nat) (h2 : k ≤ 12) (n : Int) :
    Calls Tryd.prog 15 #[errO E k, .int .i64 n] w fun e w' => e = .returned (.bool (codeOf k == n)) ∧ Ext [] w w' := by
  go_enter Tryd.func15, Tryd.ntmps15
  go_wp2_with (first
    | (go_at_call 36; refine (bare_calls _ _).mono ?_; rintro e w1 ⟨rfl, hx1⟩)
    | (go_at_call 35; refine (same_calls _ (he.ext hx1 (by simp)) hK k h2 _ _ _).mono ?_; rintro e w2 ⟨rfl, hx2⟩))
  go_ret
  exact ⟨by simp, hx1.trans hx2⟩

end Go.Proofs.YtpnjebpbglgebaaDoor
