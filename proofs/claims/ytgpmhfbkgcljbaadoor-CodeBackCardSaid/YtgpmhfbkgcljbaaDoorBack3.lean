/-
  CodeBack's walk, way 3 (printed by our gen_back.py).
-/
import Derived.Test.YtgpmhfbkgcljbaaDoorBack
namespace Go.Proofs.YtgpmhfbkgcljbaaDoor
open Go Go.RowKit

set_option maxRecDepth 100000 in
set_option maxHeartbeats 6400000 in
theorem back_ok_same {K : List Nat} {B : Nat} {E : Nat → Addr} (w : World) (op a b c imm : Nat) (hk : OkN op a b c imm) (x : Nat) (hx : x < 4294967296) (he : Errs K B E w) (h3 : 3 ∈ K) (h11 : 11 ∈ K) (ht : Tabs w) :
    Calls Tryd.prog 4 #[Ins.val ⟨op, a, b, c, imm⟩, Ins.val ⟨op, a, b, c, imm⟩, .int .u32 x] w fun e w' => e = .returned (.bool true) ∧ Ext [] w w' := by
  have hbi := ((box5 w (.int .i64 (op : Int)) (.int .i64 (a : Int)) (.int .i64 (b : Int)) (.int .i64 (c : Int)) (.int .i64 (imm : Int)) (T := 23)).alloc (.cells #[.int .i64 (op : Int), .int .i64 (a : Int), .int .i64 (b : Int), .int .i64 (c : Int), .int .i64 (imm : Int)] 23))
  have hbj : Blk ((w.alloc (.cells #[.int .i64 (op : Int), .int .i64 (a : Int), .int .i64 (b : Int), .int .i64 (c : Int), .int .i64 (imm : Int)] 23)).alloc (.cells #[.int .i64 (op : Int), .int .i64 (a : Int), .int .i64 (b : Int), .int .i64 (c : Int), .int .i64 (imm : Int)] 23)) (w.heap.size + 1) [.int .i64 (op : Int), .int .i64 (a : Int), .int .i64 (b : Int), .int .i64 (c : Int), .int .i64 (imm : Int)] := by simpa using box5 (w.alloc (.cells #[.int .i64 (op : Int), .int .i64 (a : Int), .int .i64 (b : Int), .int .i64 (c : Int), .int .i64 (imm : Int)] 23)) (.int .i64 (op : Int)) (.int .i64 (a : Int)) (.int .i64 (b : Int)) (.int .i64 (c : Int)) (.int .i64 (imm : Int)) (T := 23)
  have hX0 : Ext [] w ((w.alloc (.cells #[.int .i64 (op : Int), .int .i64 (a : Int), .int .i64 (b : Int), .int .i64 (c : Int), .int .i64 (imm : Int)] 23)).alloc (.cells #[.int .i64 (op : Int), .int .i64 (a : Int), .int .i64 (b : Int), .int .i64 (c : Int), .int .i64 (imm : Int)] 23)) := ((Ext.refl _ _).alloc _).alloc _
  have HBI := Lib.hid hbi
  have HBJ := Lib.hid hbj
  have HX0 := Lib.hid hX0
  have HE := Lib.hid he
  have HT := Lib.hid ht
  clear hbi hbj hX0 he ht
  go_enter Tryd.func4, Tryd.ntmps4
  go_wp2_with fail
  refine (first14_calls _ (HE.out.ext HX0.out (by simp)) h3 h11 (HT.out.ext HX0.out)).mono ?_
  rintro e w1 ⟨rfl, hx1⟩
  have hX1 := HX0.out.trans hx1
  have i0 := (hx1.blk HBI.out (by simp)).cell 0 _ rfl
  have j0 := (hx1.blk HBJ.out (by simp)).cell 0 _ rfl
  have i1 := (hx1.blk HBI.out (by simp)).cell 1 _ rfl
  have j1 := (hx1.blk HBJ.out (by simp)).cell 1 _ rfl
  have i2 := (hx1.blk HBI.out (by simp)).cell 2 _ rfl
  have j2 := (hx1.blk HBJ.out (by simp)).cell 2 _ rfl
  have i3 := (hx1.blk HBI.out (by simp)).cell 3 _ rfl
  have j3 := (hx1.blk HBJ.out (by simp)).cell 3 _ rfl
  have i4 := (hx1.blk HBI.out (by simp)).cell 4 _ rfl
  have j4 := (hx1.blk HBJ.out (by simp)).cell 4 _ rfl
  go_wp2_with fail
  refine (word_ok _ op a b c imm hk (HE.out.ext hX1 (by simp)) h3 h11).mono ?_
  rintro e w2 ⟨rfl, hx2⟩
  have hX2 := hX1.trans hx2
  replace i0 := hx2.cell i0 (by simp)
  replace j0 := hx2.cell j0 (by simp)
  replace i1 := hx2.cell i1 (by simp)
  replace j1 := hx2.cell j1 (by simp)
  replace i2 := hx2.cell i2 (by simp)
  replace j2 := hx2.cell j2 (by simp)
  replace i3 := hx2.cell i3 (by simp)
  replace j3 := hx2.cell j3 (by simp)
  replace i4 := hx2.cell i4 (by simp)
  replace j4 := hx2.cell j4 (by simp)
  go_wp2_with fail
  refine (word_ok _ op a b c imm hk (HE.out.ext hX2 (by simp)) h3 h11).mono ?_
  rintro e w3 ⟨rfl, hx3⟩
  have hX3 := hX2.trans hx3
  replace i0 := hx3.cell i0 (by simp)
  replace j0 := hx3.cell j0 (by simp)
  replace i1 := hx3.cell i1 (by simp)
  replace j1 := hx3.cell j1 (by simp)
  replace i2 := hx3.cell i2 (by simp)
  replace j2 := hx3.cell j2 (by simp)
  replace i3 := hx3.cell i3 (by simp)
  replace j3 := hx3.cell j3 (by simp)
  replace i4 := hx3.cell i4 (by simp)
  replace j4 := hx3.cell j4 (by simp)
  obtain ⟨hrv, hri⟩ := read_back hk
  have hwl := (read_word hk).2.2.2.2.2
  have hR := read_calls w3 (wordN op a b c imm) hwl (HE.out.ext hX3 (by simp)) h3 h11
  rw [if_pos hrv, decide_eq_true hrv, hri] at hR
  have HR := Lib.hid hR
  clear hR hrv hri hwl
  go_wp2_with fail
  refine HR.out.mono ?_
  rintro e w4 ⟨rfl, hx4⟩
  have hX4 : Ext [] w (w4.alloc (.cells #[.int .i64 (op : Int), .int .i64 (a : Int), .int .i64 (b : Int), .int .i64 (c : Int), .int .i64 (imm : Int)] 23)) := (hX3.trans hx4).alloc _
  have hx4a : Ext [] w3 (w4.alloc (.cells #[.int .i64 (op : Int), .int .i64 (a : Int), .int .i64 (b : Int), .int .i64 (c : Int), .int .i64 (imm : Int)] 23)) := hx4.alloc _
  replace i0 := hx4a.cell i0 (by simp)
  replace j0 := hx4a.cell j0 (by simp)
  replace i1 := hx4a.cell i1 (by simp)
  replace j1 := hx4a.cell j1 (by simp)
  replace i2 := hx4a.cell i2 (by simp)
  replace j2 := hx4a.cell j2 (by simp)
  replace i3 := hx4a.cell i3 (by simp)
  replace j3 := hx4a.cell j3 (by simp)
  replace i4 := hx4a.cell i4 (by simp)
  replace j4 := hx4a.cell j4 (by simp)
  have hbz := box5 w4 (.int .i64 (op : Int)) (.int .i64 (a : Int)) (.int .i64 (b : Int)) (.int .i64 (c : Int)) (.int .i64 (imm : Int)) (T := 23)
  have z0 := hbz.cell 0 _ rfl
  have z1 := hbz.cell 1 _ rfl
  have z2 := hbz.cell 2 _ rfl
  have z3 := hbz.cell 3 _ rfl
  have z4 := hbz.cell 4 _ rfl
  clear hbz hx4a
  go_wp2_with fail
  have hcur : Ext [] (w4.alloc (.cells #[.int .i64 (op : Int), .int .i64 (a : Int), .int .i64 (b : Int), .int .i64 (c : Int), .int .i64 (imm : Int)] 23)) (w4.alloc (.cells #[.int .i64 (op : Int), .int .i64 (a : Int), .int .i64 (b : Int), .int .i64 (c : Int), .int .i64 (imm : Int)] 23)).drew := (Ext.refl [] (w4.alloc (.cells #[.int .i64 (op : Int), .int .i64 (a : Int), .int .i64 (b : Int), .int .i64 (c : Int), .int .i64 (imm : Int)] 23))).drew
  go_region_held3 (fun w' => w'.cell? ⟨w4.heap.size, 0, none⟩ = some (.int .i64 (op : Int)) ∧ w'.cell? ⟨w4.heap.size, 1, none⟩ = some (.int .i64 (a : Int)) ∧ w'.cell? ⟨w4.heap.size, 2, none⟩ = some (.int .i64 (b : Int)) ∧ w'.cell? ⟨w4.heap.size, 3, none⟩ = some (.int .i64 (c : Int)) ∧ w'.cell? ⟨w4.heap.size, 4, none⟩ = some (.int .i64 (imm : Int)) ∧ w'.cell? ⟨w.heap.size, 0, none⟩ = some (.int .i64 (op : Int)) ∧ w'.cell? ⟨w.heap.size, 1, none⟩ = some (.int .i64 (a : Int)) ∧ w'.cell? ⟨w.heap.size, 2, none⟩ = some (.int .i64 (b : Int)) ∧ w'.cell? ⟨w.heap.size, 3, none⟩ = some (.int .i64 (c : Int)) ∧ w'.cell? ⟨w.heap.size, 4, none⟩ = some (.int .i64 (imm : Int)))
    (first
      | exact ⟨hcur.cell z0 (by simp), hcur.cell z1 (by simp), hcur.cell z2 (by simp), hcur.cell z3 (by simp), hcur.cell z4 (by simp), hcur.cell i0 (by simp), hcur.cell i1 (by simp), hcur.cell i2 (by simp), hcur.cell i3 (by simp), hcur.cell i4 (by simp)⟩)
    ((first
      | (go_at_call 8; refine (plain_calls _ ⟨op, a, b, c, imm⟩).mono ?_; rintro e w6 ⟨rfl, hx6⟩; replace hcur := hcur.trans hx6)
      | (go_at_call 14; refine (same14_calls _ ⟨op, a, b, c, imm⟩ ⟨op, a, b, c, imm⟩).mono ?_; rintro e w7 ⟨rfl, hx7⟩; rw [sameB_refl]; replace hcur := hcur.trans hx7)))
  have hX7 : Ext [] w w7 := hX4.trans hcur
  replace i0 := hcur.cell i0 (by simp)
  replace j0 := hcur.cell j0 (by simp)
  replace i1 := hcur.cell i1 (by simp)
  replace j1 := hcur.cell j1 (by simp)
  replace i2 := hcur.cell i2 (by simp)
  replace j2 := hcur.cell j2 (by simp)
  replace i3 := hcur.cell i3 (by simp)
  replace j3 := hcur.cell j3 (by simp)
  replace i4 := hcur.cell i4 (by simp)
  replace j4 := hcur.cell j4 (by simp)
  clear hcur z0 z1 z2 z3 z4
  go_wp2_with fail
  have hcur : Ext [] w7 w7.drew := (Ext.refl [] w7).drew
  go_region_held3 (fun w' => w'.cell? ⟨w.heap.size, 0, none⟩ = some (.int .i64 (op : Int)) ∧ w'.cell? ⟨w.heap.size, 1, none⟩ = some (.int .i64 (a : Int)) ∧ w'.cell? ⟨w.heap.size, 2, none⟩ = some (.int .i64 (b : Int)) ∧ w'.cell? ⟨w.heap.size, 3, none⟩ = some (.int .i64 (c : Int)) ∧ w'.cell? ⟨w.heap.size, 4, none⟩ = some (.int .i64 (imm : Int)) ∧ w'.cell? ⟨(w.heap.size + 1), 0, none⟩ = some (.int .i64 (op : Int)) ∧ w'.cell? ⟨(w.heap.size + 1), 1, none⟩ = some (.int .i64 (a : Int)) ∧ w'.cell? ⟨(w.heap.size + 1), 2, none⟩ = some (.int .i64 (b : Int)) ∧ w'.cell? ⟨(w.heap.size + 1), 3, none⟩ = some (.int .i64 (c : Int)) ∧ w'.cell? ⟨(w.heap.size + 1), 4, none⟩ = some (.int .i64 (imm : Int)))
    (first
      | exact ⟨hcur.cell i0 (by simp), hcur.cell i1 (by simp), hcur.cell i2 (by simp), hcur.cell i3 (by simp), hcur.cell i4 (by simp), hcur.cell j0 (by simp), hcur.cell j1 (by simp), hcur.cell j2 (by simp), hcur.cell j3 (by simp), hcur.cell j4 (by simp)⟩)
    ((first
      | (go_at_call 8; refine (plain_calls _ ⟨op, a, b, c, imm⟩).mono ?_; rintro e w8 ⟨rfl, hx8⟩; replace hcur := hcur.trans hx8)
      | (go_at_call 14; refine (same14_calls _ ⟨op, a, b, c, imm⟩ ⟨op, a, b, c, imm⟩).mono ?_; rintro e w8 ⟨rfl, hx8⟩; rw [sameB_refl]; replace hcur := hcur.trans hx8)
      | (go_at_call 16; refine (text_calls _ op a b c imm hk (HE.out.ext (hX7.trans hcur) (by simp)) h3 h11 (HT.out.ext (hX7.trans hcur))).mono ?_; rintro e w8 ⟨rfl, hx8⟩; replace hcur := hcur.trans hx8)))
  all_goals have hXz := hX7.trans hcur
  all_goals
    have hR := fun w' (hx' : Ext [] w w') => read_calls w' x hx (HE.out.ext hx' (by simp)) h3 h11
    by_cases hz : validI (readI x) = 0
    · rw [if_pos hz, decide_eq_true hz] at hR
      have HR := Lib.hid hR
      have hkz : OkN (x / 16777216) (x / 1048576 % 16) (x / 65536 % 16) (x / 4096 % 16) (x % 4096) := ((valid_ok_iff _).1 hz).2.2.2.2.2
      have hW := fun w' (hx' : Ext [] w w') => word_ok w' _ _ _ _ _ hkz (HE.out.ext hx' (by simp)) h3 h11
      rw [word_read] at hW
      have HW := Lib.hid hW
      have HZ := Lib.hid hXz
      clear hR hkz hW hz hXz
      go_wp2_with fail
      refine (HR.out _ HZ.out).mono ?_
      rintro e wa ⟨rfl, hxa⟩
      unfold readI
      generalize ((x / 16777216 : Nat) : Int) = p0 at *
      generalize ((x / 1048576 % 16 : Nat) : Int) = p1 at *
      generalize ((x / 65536 % 16 : Nat) : Int) = p2 at *
      generalize ((x / 4096 % 16 : Nat) : Int) = p3 at *
      generalize ((x % 4096 : Nat) : Int) = p4 at *
      go_wp2_with (go_at_call 9; refine (HW.out _ ((HZ.out.trans hxa).alloc _)).mono ?_; rintro e wb ⟨rfl, hxb⟩)
      go_ret
      exact ⟨rfl, ((HZ.out.trans hxa).alloc _).trans hxb⟩
    · rw [if_neg hz, decide_eq_false hz] at hR
      have HR := Lib.hid hR
      have HZ := Lib.hid hXz
      clear hR hz hXz
      go_wp2_with fail
      refine (HR.out _ HZ.out).mono ?_
      rintro e wa ⟨rfl, hxa⟩
      unfold zeroI
      go_wp2_with (go_at_call 14; refine (same14_calls _ zeroI zeroI).mono ?_; rintro e wb ⟨rfl, hxb⟩; rw [sameB_refl])
      go_ret
      exact ⟨rfl, ((HZ.out.trans hxa).alloc _).trans hxb⟩
end Go.Proofs.YtgpmhfbkgcljbaaDoor
