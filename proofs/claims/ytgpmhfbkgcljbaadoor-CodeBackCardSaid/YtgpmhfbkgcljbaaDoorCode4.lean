/-
  Package code: Valid, Word, Read.
-/
import Derived.Test.YtgpmhfbkgcljbaaDoorCode3
import Derived.Test.YtgpmhfbkgcljbaaDoorErrs
import Derived.Laws.BitsLemmas
import Derived.IntWalk
namespace Go.Proofs.YtgpmhfbkgcljbaaDoor
open Go Go.RowKit

def validI (i : Ins) : Nat := if i.op < 1 ∨ 13 < i.op then 11 else if fitsB i = true then 0 else 3
theorem valid_ok_iff (i : Ins) : validI i = 0 ↔ i.Ok := by
  unfold validI
  by_cases h : i.op < 1 ∨ 13 < i.op
  · rw [if_pos h]
    refine ⟨fun h => by omega, fun hk => ?_⟩
    have := hk.2.2.2.2.2.op
    have := hk.1
    omega
  · rw [if_neg h, ← fits_ok_iff i (by omega) (by omega)]
    cases fitsB i <;> simp
theorem validI_le (i : Ins) : validI i ≤ 12 := by unfold validI; split <;> (try split) <;> omega

set_option maxHeartbeats 800000 in
theorem valid_calls {K : List Nat} {B : Nat} {E : Nat → Addr} (w : World) (i : Ins) (he : Errs K B E w) (h3 : 3 ∈ K) (h11 : 11 ∈ K) :
    Calls Tryd.prog 13 #[i.val] w fun e w' => e = .returned (errO E (validI i)) ∧ Ext [] w w' := by
  obtain ⟨op, a, b, c, imm⟩ := i
  have e11 := fun w' (hx : Ext [] w w') => (he.ext hx (by simp)).glob 11 h11
  have e3 := fun w' (hx : Ext [] w w') => (he.ext hx (by simp)).glob 3 h3
  simp only [glob] at e11 e3
  have hX0 : Ext [] w (w.alloc (.cells #[.int .i64 op, .int .i64 a, .int .i64 b, .int .i64 c, .int .i64 imm] 23)) := (Ext.refl _ _).alloc _
  have HX0 := Lib.hid hX0
  have HE3 := Lib.hid e3
  have d11 := e11 _ hX0
  clear e3 e11 he hX0
  by_cases h1 : op < 1
  · have hv : validI ⟨op, a, b, c, imm⟩ = 11 := if_pos (.inl h1)
    rw [hv, errO_pos E (by omega)]
    clear hv
    go_enter Tryd.func13, Tryd.ntmps13
    go_wp2
    go_ret
    exact ⟨rfl, HX0.out⟩
  · by_cases h2 : 13 < op
    · have hv : validI ⟨op, a, b, c, imm⟩ = 11 := if_pos (.inr h2)
      rw [hv, errO_pos E (by omega)]
      clear hv
      go_enter Tryd.func13, Tryd.ntmps13
      go_wp2
      go_ret
      exact ⟨rfl, HX0.out⟩
    · cases hf : fitsB ⟨op, a, b, c, imm⟩ with
      | true =>
        have hv : validI ⟨op, a, b, c, imm⟩ = 0 := by unfold validI; rw [if_neg (by simp only; omega), if_pos hf]
        rw [hv, errO_zero]
        clear hv
        have HF := Lib.hid hf
        clear hf
        go_enter Tryd.func13, Tryd.ntmps13
        go_wp2_with (go_at_call 25; refine (fits_calls _ ⟨op, a, b, c, imm⟩ (by simp only; omega) (by simp only; omega)).mono ?_; rintro e w2 ⟨rfl, hx2⟩; rw [HF.out])
        go_ret
        exact ⟨rfl, HX0.out.trans hx2⟩
      | false =>
        have hv : validI ⟨op, a, b, c, imm⟩ = 3 := by unfold validI; rw [if_neg (by simp only; omega), if_neg (by rw [hf]; simp)]
        rw [hv, errO_pos E (by omega)]
        clear hv
        have HF := Lib.hid hf
        clear hf
        go_enter Tryd.func13, Tryd.ntmps13
        go_wp2_with (go_at_call 25; refine (fits_calls _ ⟨op, a, b, c, imm⟩ (by simp only; omega) (by simp only; omega)).mono ?_; rintro e w2 ⟨rfl, hx2⟩; rw [HF.out]; have d3 := HE3.out _ (HX0.out.trans hx2))
        go_ret
        exact ⟨rfl, HX0.out.trans hx2⟩

theorem wraps64 (n : Int) (h0 : 0 ≤ n) (h1 : n < 2 ^ 32) : IntKind.i64.wrap n = n := IntWalk.i64_in _ (by omega)
theorem wraps32 (n : Int) (h0 : 0 ≤ n) (h1 : n < 2 ^ 32) : IntKind.u32.wrap n = n := by
  simp [IntKind.wrap, IntKind.bits, IntKind.signed]; omega
theorem or64 (i : Nat) (x y : Int) (hx0 : 0 ≤ x) (hx : x % 2 ^ i = 0) (hx1 : x < 4294967296) (hy0 : 0 ≤ y) (hy : y < 2 ^ i) (hy1 : y < 4294967296) : bits .or .i64 x y = x + y :=
  bits_join .i64 32 (by decide) wraps64 i x y hx0 hx (by simpa using hx1) hy0 hy (by simpa using hy1)
theorem or32 (i : Nat) (x y : Int) (hx0 : 0 ≤ x) (hx : x % 2 ^ i = 0) (hx1 : x < 4294967296) (hy0 : 0 ≤ y) (hy : y < 2 ^ i) (hy1 : y < 4294967296) : bits .or .u32 x y = x + y :=
  bits_join .u32 32 (by decide) wraps32 i x y hx0 hx (by simpa using hx1) hy0 hy (by simpa using hy1)
theorem or_word64 (op a b c imm : Nat) (h1 : op < 14) (h2 : a < 16 ∧ b < 16 ∧ c < 16 ∧ imm < 4096) :
    bits .or .i64 (bits .or .i64 (bits .or .i64 (bits .or .i64 ((op : Int) * 16777216) ((a : Int) * 1048576)) ((b : Int) * 65536)) ((c : Int) * 4096)) (imm : Int) % 4294967296 = (wordN op a b c imm : Nat) := by
  rw [or64 24 ((op : Int) * 16777216) ((a : Int) * 1048576) (by omega) (by omega) (by omega) (by omega) (by omega) (by omega),
    or64 20 _ ((b : Int) * 65536) (by omega) (by omega) (by omega) (by omega) (by omega) (by omega),
    or64 16 _ ((c : Int) * 4096) (by omega) (by omega) (by omega) (by omega) (by omega) (by omega),
    or64 12 _ (imm : Int) (by omega) (by omega) (by omega) (by omega) (by omega) (by omega)]
  unfold wordN
  omega
theorem or_word32 (op a b c imm : Nat) (h1 : op < 14) (h2 : a < 16 ∧ b < 16 ∧ c < 16 ∧ imm < 4096) :
    bits .or .u32 (bits .or .u32 (bits .or .u32 (bits .or .u32 ((op : Int) * 16777216) ((a : Int) * 1048576)) ((b : Int) * 65536)) ((c : Int) * 4096)) (imm : Int) = (wordN op a b c imm : Nat) := by
  rw [or32 24 ((op : Int) * 16777216) ((a : Int) * 1048576) (by omega) (by omega) (by omega) (by omega) (by omega) (by omega),
    or32 20 _ ((b : Int) * 65536) (by omega) (by omega) (by omega) (by omega) (by omega) (by omega),
    or32 16 _ ((c : Int) * 4096) (by omega) (by omega) (by omega) (by omega) (by omega) (by omega),
    or32 12 _ (imm : Int) (by omega) (by omega) (by omega) (by omega) (by omega) (by omega)]
  unfold wordN
  omega
theorem and64 (i : Nat) (hi : i ≤ 32) (x : Int) (h0 : 0 ≤ x) (h1 : x < 4294967296) : bits .and .i64 x (2 ^ i - 1) = x % 2 ^ i := bits_mask .i64 32 (by decide) wraps64 i hi x h0 (by simpa using h1)
theorem and32 (i : Nat) (hi : i ≤ 32) (x : Int) (h0 : 0 ≤ x) (h1 : x < 4294967296) : bits .and .u32 x (2 ^ i - 1) = x % 2 ^ i := bits_mask .u32 32 (by decide) wraps32 i hi x h0 (by simpa using h1)
theorem word_ret {x y : Int} {v : Value} (h : x = y) : Ending.returned (.tuple #[.int .u32 x, v]) = Ending.returned (.tuple #[.int .u32 y, v]) := by rw [h]

set_option maxHeartbeats 1600000 in
theorem word_ok {K : List Nat} {B : Nat} {E : Nat → Addr} (w : World) (op a b c imm : Nat) (hk : OkN op a b c imm) (he : Errs K B E w) (h3 : 3 ∈ K) (h11 : 11 ∈ K) :
    Calls Tryd.prog 9 #[Ins.val ⟨op, a, b, c, imm⟩] w fun e w' => e = .returned (.tuple #[.int .u32 (wordN op a b c imm), .nilIface]) ∧ Ext [] w w' := by
  have hv : validI ⟨op, a, b, c, imm⟩ = 0 := (valid_ok_iff _).2 ⟨by simp, by simp, by simp, by simp, by simp, by simpa using hk⟩
  have HV := Lib.hid hv
  have hop := hk.op
  have hsm := hk.small
  have HK := Lib.hid hk
  have hB := box5 w (.int .i64 op) (.int .i64 a) (.int .i64 b) (.int .i64 c) (.int .i64 imm) (T := 23)
  have hX0 : Ext [] w (w.alloc (.cells #[.int .i64 op, .int .i64 a, .int .i64 b, .int .i64 c, .int .i64 imm] 23)) := (Ext.refl _ _).alloc _
  have HB := Lib.hid hB
  have HX0 := Lib.hid hX0
  clear hv hk hB hX0
  go_enter Tryd.func9, Tryd.ntmps9
  go_wp2_with (first
    | (go_at_call 13; refine (valid_calls _ ⟨op, a, b, c, imm⟩ (he.ext HX0.out (by simp)) h3 h11).mono ?_; rintro e w2 ⟨rfl, hx2⟩; rw [HV.out, errO_zero]
       have c0 := (hx2.blk HB.out (by simp)).cell 0 _ rfl
       have c1 := (hx2.blk HB.out (by simp)).cell 1 _ rfl
       have c2 := (hx2.blk HB.out (by simp)).cell 2 _ rfl
       have c3 := (hx2.blk HB.out (by simp)).cell 3 _ rfl
       have c4 := (hx2.blk HB.out (by simp)).cell 4 _ rfl))
  go_ret2
  exact ⟨word_ret (or_word64 op a b c imm hop.2 hsm), HX0.out.trans hx2⟩

set_option maxHeartbeats 1600000 in
theorem word_bad {K : List Nat} {B : Nat} {E : Nat → Addr} (w : World) (i : Ins) (hv : validI i ≠ 0) (he : Errs K B E w) (h3 : 3 ∈ K) (h11 : 11 ∈ K) :
    Calls Tryd.prog 9 #[i.val] w fun e w' => e = .returned (.tuple #[.int .u32 0, errO E (validI i)]) ∧ Ext [] w w' := by
  obtain ⟨op, a, b, c, imm⟩ := i
  have hX0 : Ext [] w (w.alloc (.cells #[.int .i64 op, .int .i64 a, .int .i64 b, .int .i64 c, .int .i64 imm] 23)) := (Ext.refl _ _).alloc _
  have HX0 := Lib.hid hX0
  have HE := Lib.hid he
  obtain ⟨n, hn⟩ : ∃ n, n = validI ⟨op, a, b, c, imm⟩ := ⟨_, rfl⟩
  rw [← hn] at hv ⊢
  rw [errO_pos E hv]
  have HN := Lib.hid hn
  have HV := Lib.hid hv
  clear hX0 hn hv he
  go_enter Tryd.func9, Tryd.ntmps9
  go_wp2_with (go_at_call 13; refine (valid_calls _ ⟨op, a, b, c, imm⟩ (HE.out.ext HX0.out (by simp)) h3 h11).mono ?_; rintro e w2 ⟨rfl, hx2⟩; rw [← HN.out, errO_pos E HV.out])
  go_ret2
  exact ⟨rfl, HX0.out.trans hx2⟩

/-- The instruction of a word. -/
def readI (x : Nat) : Ins := ⟨((x / 16777216 : Nat) : Int), ((x / 1048576 % 16 : Nat) : Int), ((x / 65536 % 16 : Nat) : Int), ((x / 4096 % 16 : Nat) : Int), ((x % 4096 : Nat) : Int)⟩
def zeroI : Ins := ⟨0, 0, 0, 0, 0⟩
set_option maxHeartbeats 1600000 in
theorem read_calls {K : List Nat} {B : Nat} {E : Nat → Addr} (w : World) (x : Nat) (hx : x < 4294967296) (he : Errs K B E w) (h3 : 3 ∈ K) (h11 : 11 ∈ K) :
    Calls Tryd.prog 10 #[.int .u32 x] w fun e w' => e = .returned (.tuple #[Ins.val (if validI (readI x) = 0 then readI x else zeroI), .bool (decide (validI (readI x) = 0))]) ∧ Ext [] w w' := by
  have e0 : (x : Int) / 16777216 = ((x / 16777216 : Nat) : Int) := by omega
  have e1 : bits .and .i64 ((x : Int) / 1048576) 15 = ((x / 1048576 % 16 : Nat) : Int) := by have := and64 4 (by omega) ((x : Int) / 1048576) (by omega) (by omega); simp at this; rw [this]; omega
  have e2 : bits .and .i64 ((x : Int) / 65536) 15 = ((x / 65536 % 16 : Nat) : Int) := by have := and64 4 (by omega) ((x : Int) / 65536) (by omega) (by omega); simp at this; rw [this]; omega
  have e3 : bits .and .i64 ((x : Int) / 4096) 15 = ((x / 4096 % 16 : Nat) : Int) := by have := and64 4 (by omega) ((x : Int) / 4096) (by omega) (by omega); simp at this; rw [this]; omega
  have e4 : bits .and .i64 (x : Int) 4095 = ((x % 4096 : Nat) : Int) := by have := and64 12 (by omega) (x : Int) (by omega) (by omega); simp at this; rw [this]; omega
  have hI : readI x = ⟨((x / 16777216 : Nat) : Int), ((x / 1048576 % 16 : Nat) : Int), ((x / 65536 % 16 : Nat) : Int), ((x / 4096 % 16 : Nat) : Int), ((x % 4096 : Nat) : Int)⟩ := rfl
  rw [hI]
  clear hI
  generalize ((x / 16777216 : Nat) : Int) = p0 at *
  generalize ((x / 1048576 % 16 : Nat) : Int) = p1 at *
  generalize ((x / 65536 % 16 : Nat) : Int) = p2 at *
  generalize ((x / 4096 % 16 : Nat) : Int) = p3 at *
  generalize ((x % 4096 : Nat) : Int) = p4 at *
  have hX0 : Ext [] w ((w.alloc (.cells #[.int .i64 0, .int .i64 0, .int .i64 0, .int .i64 0, .int .i64 0] 23)).alloc (.cells #[.int .i64 p0, .int .i64 p1, .int .i64 p2, .int .i64 p3, .int .i64 p4] 23)) := ((Ext.refl _ _).alloc _).alloc _
  have hB0 := (box5 w (.int .i64 0) (.int .i64 0) (.int .i64 0) (.int .i64 0) (.int .i64 0) (T := 23)).alloc (.cells #[.int .i64 p0, .int .i64 p1, .int .i64 p2, .int .i64 p3, .int .i64 p4] 23)
  have hB1 := box5 (w.alloc (.cells #[.int .i64 0, .int .i64 0, .int .i64 0, .int .i64 0, .int .i64 0] 23)) (.int .i64 p0) (.int .i64 p1) (.int .i64 p2) (.int .i64 p3) (.int .i64 p4) (T := 23)
  have HX0 := Lib.hid hX0
  have HB0 := Lib.hid hB0
  have HB1 := Lib.hid hB1
  have HE := Lib.hid he
  clear hX0 hB0 hB1 he
  by_cases hv : validI ⟨p0, p1, p2, p3, p4⟩ = 0
  · rw [if_pos hv, decide_eq_true hv]
    have HV := Lib.hid hv
    clear hv
    go_enter Tryd.func10, Tryd.ntmps10
    go_wp2_with (first
      | (go_at_call 13; refine (valid_calls _ ⟨p0, p1, p2, p3, p4⟩ (HE.out.ext HX0.out (by simp)) h3 h11).mono ?_; rintro e w2 ⟨rfl, hx2⟩; rw [HV.out, errO_zero]
         have hb0 := hx2.blk HB0.out (by simp)
         have hb1 := hx2.blk HB1.out (by simp)
         have b0 := hb0.cell 0 _ rfl
         have b1 := hb0.cell 1 _ rfl
         have b2 := hb0.cell 2 _ rfl
         have b3 := hb0.cell 3 _ rfl
         have b4 := hb0.cell 4 _ rfl
         have c0 := hb1.cell 0 _ rfl
         have c1 := hb1.cell 1 _ rfl
         have c2 := hb1.cell 2 _ rfl
         have c3 := hb1.cell 3 _ rfl
         have c4 := hb1.cell 4 _ rfl
         have f0 := hb0.frozen 0
         have f1 := hb0.frozen 1
         have f2 := hb0.frozen 2
         have f3 := hb0.frozen 3
         have f4 := hb0.frozen 4
         simp at c0 c1 c2 c3 c4
         clear hb0 hb1))
    exact bodyPost_ret (v := .tuple #[Ins.val ⟨p0, p1, p2, p3, p4⟩, .bool true]) (by simp [results, Tryd.results10, go_sem, b0, b1, b2, b3, b4]) rfl ⟨rfl, by repeat (first | exact HX0.out.trans hx2 | apply Ext.setCell | (right; simp))⟩
  · rw [if_neg hv, decide_eq_false hv]
    have HV := Lib.hid hv
    clear hv
    go_enter Tryd.func10, Tryd.ntmps10
    go_wp2_with (first
      | (go_at_call 13; refine (valid_calls _ ⟨p0, p1, p2, p3, p4⟩ (HE.out.ext HX0.out (by simp)) h3 h11).mono ?_; rintro e w2 ⟨rfl, hx2⟩; rw [errO_pos E HV.out]
         have hb0 := hx2.blk HB0.out (by simp)
         have b0 := hb0.cell 0 _ rfl
         have b1 := hb0.cell 1 _ rfl
         have b2 := hb0.cell 2 _ rfl
         have b3 := hb0.cell 3 _ rfl
         have b4 := hb0.cell 4 _ rfl
         have f0 := hb0.frozen 0
         have f1 := hb0.frozen 1
         have f2 := hb0.frozen 2
         have f3 := hb0.frozen 3
         have f4 := hb0.frozen 4
         clear hb0))
    exact bodyPost_ret (v := .tuple #[Ins.val zeroI, .bool false]) (by simp [results, Tryd.results10, go_sem, b0, b1, b2, b3, b4, zeroI]) rfl ⟨rfl, by repeat (first | exact HX0.out.trans hx2 | apply Ext.setCell | (right; simp))⟩
end Go.Proofs.YtgpmhfbkgcljbaaDoor
