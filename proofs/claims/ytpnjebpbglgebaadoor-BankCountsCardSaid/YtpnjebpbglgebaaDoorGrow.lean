/-
  slices.Grow of a nil slice of keys; slices.Concat of keys.
-/
import Derived.Test.YtpnjebpbglgebaaDoorBank8
import Derived.Shelf.Spec.SlicesGrow
namespace Go.Proofs.YtpnjebpbglgebaaDoor
open Go Go.RowKit

theorem zero_key : (Tryd.prog.info? 44).map (fun i => (i.zero, i.size, i.bytes)) = some (some void.val, 5, 40) := info_key

set_option maxRecDepth 100000 in
set_option maxHeartbeats 1600000 in
theorem growKeys_calls (w : World) (n : Nat) (hn : n ≤ 4096) :
    Calls Tryd.prog 55 #[.slice none 0 0, .int .i64 n] w fun e w' => ∃ v, e = .returned v ∧ w'.ownsRow w.heap.size 44 5 v 0 [] ∧ Ext [] w w' := by
  by_cases h0 : n = 0
  · subst h0
    go_enter Tryd.func55, Tryd.ntmps55
    go_wp2
    go_ret
    exact ⟨_, rfl, own_nil _ _ _ _, Ext.refl _ _⟩
  · obtain ⟨i0, hi0, hh⟩ := Option.map_eq_some_iff.1 zero_key
    simp only [Prod.mk.injEq] at hh
    obtain ⟨hz0, hs0, hb0⟩ := hh
    have hold : (Builtin.firstCells i0.size 0 (.slice none 0 0)).run Tryd.prog w.drew = .ok #[] w.drew := run_firstCells_none w.drew i0.size 0 0 0
    have hrz : ∀ ty, (Builtin.append_ #[39, 3] ty #[.slice none 0 0, .int .i64 (n : Int)]).run Tryd.prog w =
        .ok (.slice (some ⟨w.heap.size, 0, none⟩) (0 + n) (grownCap w (0 + n) 0 44)) (w.drew.alloc (.cells (([] : List Value).toArray ++ Builtin.zeroCells void.val.cells n ++ Builtin.zeroCells void.val.cells (grownCap w (0 + n) 0 44 - (0 + n))) 44)) := fun ty =>
      Lib.run_append_grow_zeros w 39 3 ty 44 i0 void.val .i64 .i64 Tryd.underlying39 Tryd.underlying3 hi0 hz0 none 0 0 [] hold n (by omega) (by omega) (by omega) (by omega) (by rw [hb0]; omega)
        (growslice_fits (by omega) (by rw [hb0]; omega))
    go_enter Tryd.func55, Tryd.ntmps55
    go_wp2_with (at_builtin; refine Lib.wpList_append_run _ rfl _ _ _ _ rfl _ _ rfl rfl _ _ (hrz _) ?_)
    go_ret
    have g1 : n ≤ grownCap w n 0 44 := grownCap_ge w n 0 _
    have g2 : grownCap w n 0 44 ≤ maxLen := grownCap_le_maxLen w n 0 _ (by unfold maxLen; omega)
    refine ⟨_, rfl, ⟨by simp, .inr ⟨w.heap.size, grownCap w n 0 44, _, rfl, Nat.le_refl _, (Go.heap_alloc_new w _), by omega, g2, ?_, by simp⟩⟩, ((Ext.refl _ _).alloc _).drew⟩
    simp [size_zeroCells]
    omega
end Go.Proofs.YtpnjebpbglgebaaDoor
