/-
  Package code: the registers and the form of an instruction, walked.
-/
import Derived.Test.YtgpmhfbkgcljbaaDoorCode1
import Derived.Test.YtgpmhfbkgcljbaaDoorProg
import Derived.Lib.OthersKept
namespace Go.Proofs.YtgpmhfbkgcljbaaDoor
open Go Go.RowKit

/-- The slice v holds the numbers l, and has no room behind them. -/
def RegsAt (w : World) (v : Value) (l : List Int) : Prop :=
  ∃ A, v = .slice A l.length l.length ∧ (0 < l.length → ∃ b o, A = some ⟨b, o, none⟩ ∧ ∀ j (h : j < l.length), w.cell? ⟨b, o + j, none⟩ = some (.int .i64 l[j]))
theorem RegsAt.ext {w w' : World} {v : Value} {l : List Int} (h : RegsAt w v l) (hx : Ext [] w w') : RegsAt w' v l := by
  obtain ⟨A, rfl, h⟩ := h
  refine ⟨A, rfl, fun hp => ?_⟩
  obtain ⟨b, o, rfl, hc⟩ := h hp
  exact ⟨b, o, rfl, fun j hj => hx.cell (hc j hj) (by simp)⟩
theorem RegsAt.of_blk {w : World} {b : Nat} {l : List Int} (h : Blk w b (l.map fun x => Value.int .i64 x)) : RegsAt w (.slice (some ⟨b, 0, none⟩) l.length l.length) l :=
  ⟨_, rfl, fun _ => ⟨b, 0, rfl, fun j hj => by rw [Nat.zero_add]; exact h.cell j _ (by simp [hj])⟩⟩

theorem box5 (w : World) (a b c d e : Value) {T : TypeId} : Blk (w.alloc (.cells #[a, b, c, d, e] T)) w.heap.size [a, b, c, d, e] := Blk.new (cs := [a, b, c, d, e])

set_option maxHeartbeats 800000 in
theorem regs_calls (w : World) (i : Ins) :
    Calls Tryd.prog 27 #[i.val] w fun e w' => ∃ v, e = .returned v ∧ RegsAt w' v i.regs ∧ Ext [] w w' := by
  obtain ⟨op, a, b, c, imm⟩ := i
  by_cases h : op = 11
  · subst h
    go_enter Tryd.func27, Tryd.ntmps27
    go_wp2
    go_ret
    refine ⟨_, rfl, ?_, ((Ext.refl _ _).alloc _).alloc _⟩
    have := RegsAt.of_blk (l := [b, c]) (Blk.new (w := w.alloc (.cells #[.int .i64 11, .int .i64 a, .int .i64 b, .int .i64 c, .int .i64 imm] 23)) (cs := [.int .i64 b, .int .i64 c]) (T := 3))
    simpa [Ins.regs] using this
  · have hb : (op == 11) = false := by simpa using h
    have e1 : Ins.regs ⟨op, a, b, c, imm⟩ = [a, b, c] := if_neg h
    rw [e1]
    clear h e1
    go_enter Tryd.func27, Tryd.ntmps27
    go_wp2
    go_ret
    refine ⟨_, rfl, ?_, ((Ext.refl _ _).alloc _).alloc _⟩
    have := RegsAt.of_blk (l := [a, b, c]) (Blk.new (w := w.alloc (.cells #[.int .i64 op, .int .i64 a, .int .i64 b, .int .i64 c, .int .i64 imm] 23)) (cs := [.int .i64 a, .int .i64 b, .int .i64 c]) (T := 3))
    simpa using this

def formS (op : Int) : ByteArray := ⟨(formL op).toArray⟩
theorem formL_out (op : Int) (h : op < 1 ∨ 11 < op) : formL op = [] := by
  unfold formL
  repeat (rw [if_neg (by omega)])

set_option maxHeartbeats 1600000 in
theorem form_calls (w : World) (op : Int) : Calls Tryd.prog 28 #[.int .i64 op] w fun e w' => e = .returned (.string (formS op)) ∧ Ext [] w w' := by
  by_cases h0 : op < 0
  · have e1 : formS op = ⟨#[]⟩ := by unfold formS; rw [formL_out op (by omega)]
    rw [e1]
    clear e1
    go_enter Tryd.func28, Tryd.ntmps28
    go_wp2
    go_ret
    exact ⟨rfl, (Ext.refl _ _).alloc _⟩
  · by_cases h1 : 14 ≤ op
    · have e1 : formS op = ⟨#[]⟩ := by unfold formS; rw [formL_out op (by omega)]
      rw [e1]
      clear e1
      go_enter Tryd.func28, Tryd.ntmps28
      go_wp2
      go_ret
      exact ⟨rfl, (Ext.refl _ _).alloc _⟩
    · have hop : op = 0 ∨ op = 1 ∨ op = 2 ∨ op = 3 ∨ op = 4 ∨ op = 5 ∨ op = 6 ∨ op = 7 ∨ op = 8 ∨ op = 9 ∨ op = 10 ∨ op = 11 ∨ op = 12 ∨ op = 13 := by omega
      rcases hop with rfl | rfl | rfl | rfl | rfl | rfl | rfl | rfl | rfl | rfl | rfl | rfl | rfl | rfl
      all_goals
        go_enter Tryd.func28, Tryd.ntmps28
        go_wp2
        go_ret
        exact ⟨rfl, (Ext.refl _ _).alloc _⟩

theorem fits1_calls (w : World) (n : Int) : Calls Tryd.prog 41 #[.int .i64 n] w fun e w' => e = .returned (.bool (n != 0)) ∧ w = w' := by
  go_enter Tryd.func41, Tryd.ntmps41
  go_wp2
  go_ret
  exact ⟨rfl, rfl⟩

set_option maxHeartbeats 800000 in
theorem indexNon0_calls (w : World) (v : Value) (l : List Int) (h : RegsAt w v l) (hl : l.length ≤ 16) :
    Calls Tryd.prog 49 #[v, .func (.func 41) #[] #[]] w fun e w' => (∃ k : Int, e = .returned (.int .i64 k) ∧ decide (0 ≤ k) = l.any (· != 0)) ∧ w = w' := by
  obtain ⟨A, rfl, h⟩ := h
  have H := Lib.hid h
  clear h
  go_enter Tryd.func49, Tryd.ntmps49
  go_wp2
  go_loop [8] (fun i => ∃ k : Nat, k ≤ l.length ∧ i = .int .i64 k ∧ (l.take k).any (· != 0) = false) (fun i => l.length - (intOf i).toNat)
  case atStart => exact ⟨0, by omega, rfl, rfl⟩
  case round =>
    obtain ⟨k, hk, rfl, hT⟩ := hrel
    have HT := Lib.hid hT; clear hT
    by_cases hlt : k < l.length
    · obtain ⟨b, o, rfl, hc⟩ := H.out (by omega)
      have c0 := hc k hlt
      have HS : Hid (l.take (k + 1) = l.take k ++ [l[k]]) := by
        show l.take (k + 1) = l.take k ++ [l[k]]
        simp
      cases hti : (l[k] != 0) with
      | true =>
        have hmem : l.any (· != 0) = true := List.any_eq_true.2 ⟨_, List.getElem_mem hlt, hti⟩
        have HM := Lib.hid hmem
        have HTI := Lib.hid hti
        clear hmem hti hc
        go_wp2_with (go_at_call 41; refine (fits1_calls _ _).mono ?_; rintro e w2 ⟨rfl, rfl⟩; rw [HTI.out])
        go_ret
        exact ⟨⟨k, rfl, by rw [HM.out]; simp⟩, rfl⟩
      | false =>
        have HTI := Lib.hid hti
        clear hti hc
        go_wp2_with (go_at_call 41; refine (fits1_calls _ _).mono ?_; rintro e w2 ⟨rfl, rfl⟩; rw [HTI.out])
        go_round
        case rel => exact ⟨k + 1, by omega, by go_num, by rw [HS.out, List.any_append, HT.out]; simp [HTI.out]⟩
        case measure => simp [intOf]; omega
    · obtain rfl : k = l.length := by omega
      go_wp2
      go_ret
      refine ⟨⟨-1, rfl, ?_⟩, rfl⟩
      have := HT.out
      rw [List.take_length] at this
      rw [this]; rfl
theorem containsNon0_calls (w : World) (v : Value) (l : List Int) (h : RegsAt w v l) (hl : l.length ≤ 16) :
    Calls Tryd.prog 40 #[v, .func (.func 41) #[] #[]] w fun e w' => e = .returned (.bool (l.any (· != 0))) ∧ w = w' := by
  go_enter Tryd.func40, Tryd.ntmps40
  go_wp2_with (go_at_call 49; refine (indexNon0_calls _ v l h hl).mono ?_; rintro e w2 ⟨⟨k, rfl, hk⟩, rfl⟩)
  go_ret
  exact ⟨by rw [← hk]; rfl, rfl⟩
end Go.Proofs.YtgpmhfbkgcljbaaDoor
