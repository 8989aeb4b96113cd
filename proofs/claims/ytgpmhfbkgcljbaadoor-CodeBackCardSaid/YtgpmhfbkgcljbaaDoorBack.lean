/-
  The statement CodeBack: the walk (printed by our gen_back.py).
-/
import Derived.Test.YtgpmhfbkgcljbaaDoorCode8
import Derived.BigQuiet
namespace Go.Proofs.YtgpmhfbkgcljbaaDoor
open Go Go.RowKit

theorem read_back {op a b c imm : Nat} (hk : OkN op a b c imm) : validI (readI (wordN op a b c imm)) = 0 ∧ readI (wordN op a b c imm) = ⟨op, a, b, c, imm⟩ := by
  obtain ⟨h1, h2, h3, h4, h5, h6⟩ := read_word hk
  have e : readI (wordN op a b c imm) = ⟨op, a, b, c, imm⟩ := by unfold readI; rw [h1, h2, h3, h4, h5]
  rw [e]
  exact ⟨(valid_ok_iff _).2 ⟨by simp, by simp, by simp, by simp, by simp, by simpa using hk⟩, rfl⟩
theorem word_some {K : List Nat} {B : Nat} {E : Nat → Addr} (w : World) (i : Ins) (he : Errs K B E w) (h3 : 3 ∈ K) (h11 : 11 ∈ K) :
    ∃ u v, Calls Tryd.prog 9 #[i.val] w fun e w' => e = .returned (.tuple #[.int .u32 u, errO E v]) ∧ Ext [] w w' := by
  by_cases hv : validI i = 0
  · obtain ⟨h0, h1, h2, h3', h4, hk⟩ := (valid_ok_iff i).1 hv
    obtain ⟨op, a, b, c, imm⟩ := i
    simp only at h0 h1 h2 h3' h4 hk
    obtain ⟨op, rfl⟩ := Int.eq_ofNat_of_zero_le h0
    obtain ⟨a, rfl⟩ := Int.eq_ofNat_of_zero_le h1
    obtain ⟨b, rfl⟩ := Int.eq_ofNat_of_zero_le h2
    obtain ⟨c, rfl⟩ := Int.eq_ofNat_of_zero_le h3'
    obtain ⟨imm, rfl⟩ := Int.eq_ofNat_of_zero_le h4
    exact ⟨_, 0, word_ok w op a b c imm (by simpa using hk) he h3 h11⟩
  · exact ⟨_, _, word_bad w i hv he h3 h11⟩
theorem sameB_refl (i : Ins) : sameB i i = true := by simp [sameB]
theorem text_ne {op a b c imm op' a' b' c' imm' : Nat} (h : OkN op a b c imm) (h' : OkN op' a' b' c' imm') (hne : ¬ (op = op' ∧ a = a' ∧ b = b' ∧ c = c' ∧ imm = imm')) : (textW op a b c imm == textW op' a' b' c' imm') = false := by
  rw [Bool.eq_false_iff]
  intro he
  exact hne (text_inj h h' (eq_of_beq he))
theorem word_ne {op a b c imm op' a' b' c' imm' : Nat} (h : OkN op a b c imm) (h' : OkN op' a' b' c' imm') (hne : ¬ (op = op' ∧ a = a' ∧ b = b' ∧ c = c' ∧ imm = imm')) : (((wordN op a b c imm : Nat) : Int) == ((wordN op' a' b' c' imm' : Nat) : Int)) = false := by
  rw [Bool.eq_false_iff]
  intro he
  have : wordN op a b c imm = wordN op' a' b' c' imm' := by simp at he; omega
  exact hne (word_inj h h' this)
theorem sameB_ne {op a b c imm op' a' b' c' imm' : Nat} (hne : ¬ (op = op' ∧ a = a' ∧ b = b' ∧ c = c' ∧ imm = imm')) : sameB ⟨op, a, b, c, imm⟩ ⟨op', a', b', c', imm'⟩ = false := by
  rw [Bool.eq_false_iff]
  intro he
  simp only [sameB, Bool.and_eq_true, beq_iff_eq] at he
  omega

set_option maxRecDepth 100000 in
set_option maxHeartbeats 6400000 in
theorem back_bad {K : List Nat} {B : Nat} {E : Nat → Addr} (w : World) (op a b c imm op' a' b' c' imm' : Int) (hb : validI ⟨op, a, b, c, imm⟩ ≠ 0) (x : Nat) (hx : x < 4294967296) (he : Errs K B E w) (h3 : 3 ∈ K) (h11 : 11 ∈ K) (ht : Tabs w) :
    Calls Tryd.prog 4 #[Ins.val ⟨op, a, b, c, imm⟩, Ins.val ⟨op', a', b', c', imm'⟩, .int .u32 x] w fun e w' => e = .returned (.bool true) ∧ Ext [] w w' := by
  have hbi := ((box5 w (.int .i64 op) (.int .i64 a) (.int .i64 b) (.int .i64 c) (.int .i64 imm) (T := 23)).alloc (.cells #[.int .i64 op', .int .i64 a', .int .i64 b', .int .i64 c', .int .i64 imm'] 23))
  have hbj : Blk ((w.alloc (.cells #[.int .i64 op, .int .i64 a, .int .i64 b, .int .i64 c, .int .i64 imm] 23)).alloc (.cells #[.int .i64 op', .int .i64 a', .int .i64 b', .int .i64 c', .int .i64 imm'] 23)) (w.heap.size + 1) [.int .i64 op', .int .i64 a', .int .i64 b', .int .i64 c', .int .i64 imm'] := by simpa using box5 (w.alloc (.cells #[.int .i64 op, .int .i64 a, .int .i64 b, .int .i64 c, .int .i64 imm] 23)) (.int .i64 op') (.int .i64 a') (.int .i64 b') (.int .i64 c') (.int .i64 imm') (T := 23)
  have hX0 : Ext [] w ((w.alloc (.cells #[.int .i64 op, .int .i64 a, .int .i64 b, .int .i64 c, .int .i64 imm] 23)).alloc (.cells #[.int .i64 op', .int .i64 a', .int .i64 b', .int .i64 c', .int .i64 imm'] 23)) := ((Ext.refl _ _).alloc _).alloc _
  have HBI := Lib.hid hbi
  have HBJ := Lib.hid hbj
  have HX0 := Lib.hid hX0
  have HE := Lib.hid he
  have HT := Lib.hid ht
  clear hbi hbj hX0 he ht
  go_enter Tryd.func4, Tryd.ntmps4
  go_wp2_with fail
  refine (first14_calls _ (HE.out.ext HX0.out (by simp)) h3 h11 (HT.out.ext HX0.out)).mono ?_
  rintro e w1 ⟨rfl, hx1⟩
  have hX1 := HX0.out.trans hx1
  have i0 := (hx1.blk HBI.out (by simp)).cell 0 _ rfl
  have j0 := (hx1.blk HBJ.out (by simp)).cell 0 _ rfl
  have i1 := (hx1.blk HBI.out (by simp)).cell 1 _ rfl
  have j1 := (hx1.blk HBJ.out (by simp)).cell 1 _ rfl
  have i2 := (hx1.blk HBI.out (by simp)).cell 2 _ rfl
  have j2 := (hx1.blk HBJ.out (by simp)).cell 2 _ rfl
  have i3 := (hx1.blk HBI.out (by simp)).cell 3 _ rfl
  have j3 := (hx1.blk HBJ.out (by simp)).cell 3 _ rfl
  have i4 := (hx1.blk HBI.out (by simp)).cell 4 _ rfl
  have j4 := (hx1.blk HBJ.out (by simp)).cell 4 _ rfl
  go_wp2_with fail
  refine (word_bad _ ⟨op, a, b, c, imm⟩ hb (HE.out.ext hX1 (by simp)) h3 h11).mono ?_
  rintro e w2 ⟨rfl, hx2⟩
  rw [errO_pos E hb]
  have hX2 := hX1.trans hx2
  have k0 := hx2.cell j0 (by simp)
  have k1 := hx2.cell j1 (by simp)
  have k2 := hx2.cell j2 (by simp)
  have k3 := hx2.cell j3 (by simp)
  have k4 := hx2.cell j4 (by simp)
  have HW2 : Hid (∃ u v, Calls Tryd.prog 9 #[Ins.val ⟨op', a', b', c', imm'⟩] w2 fun e w' => e = .returned (.tuple #[.int .u32 u, errO E v]) ∧ Ext [] w2 w') := Lib.hid (word_some w2 ⟨op', a', b', c', imm'⟩ (HE.out.ext hX2 (by simp)) h3 h11)
  obtain ⟨u, v, hw2⟩ := HW2.out
  have hvv : errO E v = .nilIface ∨ errO E v = errV E v := by
    by_cases h : v = 0
    · left
      rw [h]
      rfl
    · right
      exact errO_pos E h
  have HWW := Lib.hid hw2
  clear HW2 hw2 k0 k1 k2 k3 k4 i0 i1 i2 i3 i4
  have k0 := hx2.cell j0 (by simp)
  have k1 := hx2.cell j1 (by simp)
  have k2 := hx2.cell j2 (by simp)
  have k3 := hx2.cell j3 (by simp)
  have k4 := hx2.cell j4 (by simp)
  go_wp2_with fail
  refine HWW.out.mono ?_
  rintro e w3 ⟨rfl, hx3⟩
  have hX3 := hX2.trans hx3
  clear j0 j1 j2 j3 j4 k0 k1 k2 k3 k4
  go_wp2_with fail
  go_quiet (fail)
  go_wp2_with fail
  have hXz := hX3
  have hR := fun w' (hx' : Ext [] w w') => read_calls w' x hx (HE.out.ext hx' (by simp)) h3 h11
  by_cases hz : validI (readI x) = 0
  · rw [if_pos hz, decide_eq_true hz] at hR
    have HR := Lib.hid hR
    have hkz : OkN (x / 16777216) (x / 1048576 % 16) (x / 65536 % 16) (x / 4096 % 16) (x % 4096) := ((valid_ok_iff _).1 hz).2.2.2.2.2
    have hW := fun w' (hx' : Ext [] w w') => word_ok w' _ _ _ _ _ hkz (HE.out.ext hx' (by simp)) h3 h11
    rw [word_read] at hW
    have HW := Lib.hid hW
    have HZ := Lib.hid hXz
    clear hR hkz hW hz hXz
    go_wp2_with fail
    refine (HR.out _ (HZ.out.drewN _)).mono ?_
    rintro e wa ⟨rfl, hxa⟩
    unfold readI
    generalize ((x / 16777216 : Nat) : Int) = p0 at *
    generalize ((x / 1048576 % 16 : Nat) : Int) = p1 at *
    generalize ((x / 65536 % 16 : Nat) : Int) = p2 at *
    generalize ((x / 4096 % 16 : Nat) : Int) = p3 at *
    generalize ((x % 4096 : Nat) : Int) = p4 at *
    go_wp2_with (go_at_call 9; refine (HW.out _ (((HZ.out.drewN _).trans hxa).alloc _)).mono ?_; rintro e wb ⟨rfl, hxb⟩)
    go_ret
    exact ⟨rfl, (((HZ.out.drewN _).trans hxa).alloc _).trans hxb⟩
  · rw [if_neg hz, decide_eq_false hz] at hR
    have HR := Lib.hid hR
    have HZ := Lib.hid hXz
    clear hR hz hXz
    go_wp2_with fail
    refine (HR.out _ (HZ.out.drewN _)).mono ?_
    rintro e wa ⟨rfl, hxa⟩
    unfold zeroI
    go_wp2_with (go_at_call 14; refine (same14_calls _ zeroI zeroI).mono ?_; rintro e wb ⟨rfl, hxb⟩; rw [sameB_refl])
    go_ret
    exact ⟨rfl, (((HZ.out.drewN _).trans hxa).alloc _).trans hxb⟩
end Go.Proofs.YtgpmhfbkgcljbaaDoor
