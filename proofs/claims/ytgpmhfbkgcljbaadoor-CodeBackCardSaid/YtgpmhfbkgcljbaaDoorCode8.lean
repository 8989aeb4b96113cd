/-
  The statements of chapter 14: their helpers, the chapter's example.
-/
import Derived.Test.YtgpmhfbkgcljbaaDoorCode7
namespace Go.Proofs.YtgpmhfbkgcljbaaDoor
open Go Go.RowKit

def sameB (i j : Ins) : Bool := i.op == j.op && (i.a == j.a && (i.b == j.b && (i.c == j.c && i.imm == j.imm)))

set_option maxHeartbeats 800000 in
theorem plain_calls (w : World) (i : Ins) : Calls Tryd.prog 8 #[i.val] w fun e w' => e = .returned i.val ∧ Ext [] w w' := by
  obtain ⟨op, a, b, c, imm⟩ := i
  go_enter Tryd.func8, Tryd.ntmps8
  go_wp2
  exact bodyPost_ret (v := Ins.val ⟨op, a, b, c, imm⟩) (by simp [results, Tryd.results8, go_sem]) rfl ⟨rfl, by repeat (first | exact Ext.refl _ _ | apply Ext.setCell | apply Ext.alloc | (right; simp))⟩

set_option maxHeartbeats 1600000 in
theorem same14_calls (w : World) (i j : Ins) : Calls Tryd.prog 14 #[i.val, j.val] w fun e w' => e = .returned (.bool (sameB i j)) ∧ Ext [] w w' := by
  obtain ⟨op, a, b, c, imm⟩ := i
  obtain ⟨op', a', b', c', imm'⟩ := j
  have hs : sameB ⟨op, a, b, c, imm⟩ ⟨op', a', b', c', imm'⟩ = (op == op' && (a == a' && (b == b' && (c == c' && imm == imm')))) := rfl
  rw [hs]
  clear hs
  have hx : Ext [] w ((w.alloc (.cells #[.int .i64 op, .int .i64 a, .int .i64 b, .int .i64 c, .int .i64 imm] 23)).alloc (.cells #[.int .i64 op', .int .i64 a', .int .i64 b', .int .i64 c', .int .i64 imm'] 27)) := ((Ext.refl _ _).alloc _).alloc _
  cases h0 : (op == op') <;> cases h1 : (a == a') <;> cases h2 : (b == b') <;> cases h3 : (c == c') <;> cases h4 : (imm == imm')
  all_goals
    go_enter Tryd.func14, Tryd.ntmps14
    go_wp2
    go_ret
    exact ⟨rfl, hx⟩

theorem ex_text : strV (textW 1 1 0 0 5) = .string ⟨#[108, 105, 32, 114, 49, 32, 53]⟩ := by
  have e : textW 1 1 0 0 5 = [108, 105, 32, 114, 49, 32, 53] := by
    simp only [textW, argsW, nameW, regW, Lib.decDigits_one (show (1 : Nat) < 10 by omega), Lib.decDigits_one (show (5 : Nat) < 10 by omega), join_two, Lib.join_one]
    decide
  rw [e]

theorem ex_ok : OkN 1 1 0 0 5 := ⟨by omega, rfl, rfl, by omega⟩
theorem text_ex {K : List Nat} {B : Nat} {E : Nat → Addr} (w : World) (he : Errs K B E w) (h3 : 3 ∈ K) (h11 : 11 ∈ K) (ht : Tabs w) :
    Calls Tryd.prog 16 #[.agg #[.int .i64 1, .int .i64 1, .int .i64 0, .int .i64 0, .int .i64 5]] w fun e w' => e = .returned (.string ⟨#[108, 105, 32, 114, 49, 32, 53]⟩) ∧ Ext [] w w' := by
  have := text_calls w 1 1 0 0 5 ex_ok he h3 h11 ht
  rw [ex_text] at this
  exact this
set_option maxHeartbeats 800000 in
theorem first14_calls {K : List Nat} {B : Nat} {E : Nat → Addr} (w : World) (he : Errs K B E w) (h3 : 3 ∈ K) (h11 : 11 ∈ K) (ht : Tabs w) :
    Calls Tryd.prog 6 #[] w fun e w' => e = .returned (.bool true) ∧ Ext [] w w' := by
  have hR := read_calls w 0 (by omega) he h3 h11
  have hv : ¬ validI (readI 0) = 0 := by decide
  rw [if_neg hv, decide_eq_false hv] at hR
  have HR := Lib.hid hR
  have HE := Lib.hid he
  have HT := Lib.hid ht
  clear hR hv he ht
  go_enter Tryd.func6, Tryd.ntmps6
  go_wp2_with fail
  refine HR.out.mono ?_
  rintro e w1 ⟨rfl, hx1⟩
  have hX : Ext [] w (w1.alloc (.cells #[.int .i64 0, .int .i64 0, .int .i64 0, .int .i64 0, .int .i64 0] 23)) := hx1.alloc _
  go_wp2_with (go_at_call 16; refine (text_ex _ (HE.out.ext hX (by simp)) h3 h11 (HT.out.ext hX)).mono ?_; rintro e w2 ⟨rfl, hx2⟩)
  go_ret
  exact ⟨rfl, hX.trans hx2⟩
end Go.Proofs.YtgpmhfbkgcljbaaDoor
