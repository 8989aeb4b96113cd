/-
  A small system and the document's (turnkeyscript.New); the example at the head of chapter 21's statements.
-/
import Derived.Test.YtelnbplkjdfpaaaDoorNew4
import Derived.Test.YtelnbplkjdfpaaaDoorRefNew
namespace Go.Proofs.YtelnbplkjdfpaaaDoor
open Go Go.RowKit

def ScriptNew (w : World) (e : Ending) (w' : World) : Prop :=
  ∃ (L : SysL) (X : XL), e = .returned (.tuple #[ptr L.s, ptr X.core.x]) ∧ SysRep w' L (SysS.new 12 12 6 8 6 4) ∧ XRep w' X (XS.new 12 12 6 8 6 4) ∧ X.hd.steps = 0 ∧ Ext [] w w' ∧
    (∀ b ∈ L.fp, w.heap.size ≤ b ∧ b < w'.heap.size) ∧ (∀ b ∈ X.fp, w.heap.size ≤ b ∧ b < w'.heap.size) ∧ (∀ b ∈ L.fp, b ∉ X.fp)

set_option maxHeartbeats 800000 in
theorem scriptNew_calls (w : World) : Calls Tryd.prog 63 #[] w (ScriptNew w) := by
  go_enter Tryd.func63, Tryd.ntmps63
  go_wp2_with (first
    | (go_at_call 12; refine (sysNew_ok w 12 12 6 8 6 4 (by omega) (by omega) (by omega) (by omega) (by omega) (by omega) (by omega) (by omega) (by omega) (by omega) (by omega) (by omega)).mono ?_; rintro e w1 ⟨L, rfl, hS, hx, hf⟩)
    | (go_at_call 113; refine (refNew_full _ 12 12 6 8 6 4 (by omega) (by omega) (by omega) (by omega) (by omega) (by omega) (by omega) (by omega) (by omega) (by omega) (by omega) (by omega)).mono ?_; rintro e w2 ⟨X, rfl, hX, h0, hx2, hf2⟩))
  go_ret2
  have z1 := hx.size; have z2 := hx2.size
  exact ⟨L, X, rfl, hS.ext hx2 (by simp), hX, h0, hx.trans hx2, fun b hb => by have := hf b hb; omega, fun b hb => by have := hf2 b hb; omega, fun b hb hb' => by have := hf b hb; have := hf2 b hb'; omega⟩

theorem notLive_new (n : Nat) (id v : Int) : liveAt (List.replicate n default) id v = false := by
  have : there (List.replicate n default) id = false := by
    simp only [there]
    rcases h : (List.replicate n (default : Place))[id.toNat]? with _ | p
    · simp
    · have := List.mem_of_getElem? h
      obtain ⟨_, rfl⟩ := List.mem_replicate.1 this
      simp [default]
  simp [liveAt, this]

set_option maxHeartbeats 800000 in
theorem live_judge (w : World) (L : SysL) : Calls Tryd.prog 64 #[ptr L.s, .agg #[.int .i64 12, .int .i64 0, .int .i64 0, .int .i64 0, .int .u32 0]] w fun e w' => e = .returned (.bool true) ∧ Ext [] w w' := by
  go_enter Tryd.func64, Tryd.ntmps64
  go_wp2
  go_ret
  exact ⟨rfl, by repeat (first | exact Ext.refl _ _ | apply Ext.alloc)⟩

set_option maxHeartbeats 800000 in
theorem live_dom0 (w : World) (L : SysL) (S : SysS) (h : SysRep w L S) : Calls Tryd.prog 64 #[ptr L.s, .agg #[.int .i64 4, .int .i64 0, .int .i64 0, .int .i64 0, .int .u32 0]] w fun e w' => e = .returned (.bool (liveAt S.dp 0 0)) ∧ Ext [] w w' := by
  have hA := h.dom.tab.arena
  have c1 := h.hs.cell 1 _ rfl
  obtain ⟨c, hc⟩ := h.dom.tab.hdr
  have d0 := hc.cell 0 _ rfl
  have lt1 := h.hs.lt
  have lt2 := hc.lt
  clear hc
  go_enter Tryd.func64, Tryd.ntmps64
  go_wp2
  go_quiet ((go_at_call 33; exact quietS (live_calls _ _ _ _ _ _ ((hA.ext ((Ext.refl [] w).alloc _) (by simp) (by simp)).drewN _))))
  go_wp2
  go_ret
  exact ⟨rfl, by repeat (first | exact Ext.refl _ _ | apply Ext.drewN | apply Ext.alloc)⟩

set_option maxHeartbeats 800000 in
theorem first21_calls (w : World) : Calls Tryd.prog 11 #[] w fun e w' => e = .returned (.bool true) ∧ Ext [] w w' := by
  go_enter Tryd.func11, Tryd.ntmps11
  go_wp2_with fail
  refine (scriptNew_calls _).mono ?_
  rintro e w1 ⟨L, X, rfl, hS, hX, _, hx1, _, _, _⟩
  go_wp2_with fail
  refine (live_dom0 _ _ _ hS).mono ?_
  rintro e w2 ⟨rfl, hx2⟩
  have hl : liveAt (SysS.new 12 12 6 8 6 4).dp 0 0 = false := notLive_new _ _ _
  simp only [hl]
  go_wp2_with fail
  refine (live_judge _ L).mono ?_
  rintro e w3 ⟨rfl, hx3⟩
  go_wp2
  go_ret
  exact ⟨rfl, (hx1.trans hx2).trans hx3⟩

end Go.Proofs.YtelnbplkjdfpaaaDoor
