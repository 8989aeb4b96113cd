/-
  Instructions: what the code asks of them, what the chapter asks (plain).
-/
import Derived.Test.YtgpmhfbkgcljbaaDoorText1
import Derived.Test.YtgpmhfbkgcljbaaDoorBase
namespace Go.Proofs.YtgpmhfbkgcljbaaDoor
open Go Go.RowKit

structure Ins where
  op : Int
  a : Int
  b : Int
  c : Int
  imm : Int
  deriving DecidableEq
@[reducible] def Ins.val (i : Ins) : Value := .agg #[.int .i64 i.op, .int .i64 i.a, .int .i64 i.b, .int .i64 i.c, .int .i64 i.imm]
/-- Its numbers are Go's. -/
structure Ins.Wf (i : Ins) : Prop where
  op : -9223372036854775808 ≤ i.op ∧ i.op ≤ 9223372036854775807
  a : -9223372036854775808 ≤ i.a ∧ i.a ≤ 9223372036854775807
  b : -9223372036854775808 ≤ i.b ∧ i.b ≤ 9223372036854775807
  c : -9223372036854775808 ≤ i.c ∧ i.c ≤ 9223372036854775807
  imm : -9223372036854775808 ≤ i.imm ∧ i.imm ≤ 9223372036854775807

/-- The letters of an op's form. -/
def formL (op : Int) : List UInt8 :=
  if op = 1 then [114, 110] else if op = 2 then [114, 110] else if op = 3 then [111, 114, 114, 114] else if op = 4 then [110] else if op = 5 then [114, 110] else if op = 6 then [114, 114, 110] else if op = 7 then [114, 114, 110]
  else if op = 8 then [107, 107] else if op = 9 then [107, 114] else if op = 10 then [114, 107] else if op = 11 then [104, 107, 107] else []
def Ins.regs (i : Ins) : List Int := if i.op = 11 then [i.b, i.c] else [i.a, i.b, i.c]

/-- The letters gone over: the registers that are left, the bounds of imm and of the way; none: a register out of its bounds. -/
def fitsGo : List UInt8 → List Int → Int → Int → Option (List Int × Int × Int)
  | [], l, m, h => some (l, m, h)
  | ch :: cs, l, m, h =>
    if ch = 110 then fitsGo cs l 4095 h
    else if ch = 111 then fitsGo cs l 11 h
    else if ch = 104 then fitsGo cs l m 2
    else match l with
      | [] => none
      | x :: xs => if x < 0 ∨ (if ch = 107 then 16 else 8) ≤ x then none else fitsGo cs xs m h
/-- No more register letters than registers. -/
def enough : List UInt8 → Nat → Bool
  | [], _ => true
  | ch :: cs, n => if ch = 110 ∨ ch = 111 ∨ ch = 104 then enough cs n else match n with
    | 0 => false
    | k + 1 => enough cs k

def fitsB (i : Ins) : Bool :=
  match fitsGo (formL i.op) i.regs 0 0 with
  | none => false
  | some (l, m, h) => !(i.op == 11 && (decide (i.a < 0) || decide (h < i.a))) && (decide (0 ≤ i.imm) && (decide (i.imm ≤ m) && !(l.any (· != 0))))

/-- An instruction that may be. -/
def Ins.Ok (i : Ins) : Prop := 0 ≤ i.op ∧ 0 ≤ i.a ∧ 0 ≤ i.b ∧ 0 ≤ i.c ∧ 0 ≤ i.imm ∧ OkN i.op.toNat i.a.toNat i.b.toNat i.c.toNat i.imm.toNat

theorem enough_form (i : Ins) : enough (formL i.op) i.regs.length = true := by
  unfold formL Ins.regs
  by_cases h11 : i.op = 11
  · simp [h11, enough]
  · repeat' split
    all_goals first | contradiction | rfl

theorem go_r (cs : List UInt8) (x : Int) (l : List Int) (m h : Int) : fitsGo (114 :: cs) (x :: l) m h = if x < 0 ∨ 8 ≤ x then none else fitsGo cs l m h := by simp [fitsGo]
theorem go_k (cs : List UInt8) (x : Int) (l : List Int) (m h : Int) : fitsGo (107 :: cs) (x :: l) m h = if x < 0 ∨ 16 ≤ x then none else fitsGo cs l m h := by simp [fitsGo]
theorem go_n (cs : List UInt8) (l : List Int) (m h : Int) : fitsGo (110 :: cs) l m h = fitsGo cs l 4095 h := by simp [fitsGo]
theorem go_o (cs : List UInt8) (l : List Int) (m h : Int) : fitsGo (111 :: cs) l m h = fitsGo cs l 11 h := by simp [fitsGo]
theorem go_h (cs : List UInt8) (l : List Int) (m h : Int) : fitsGo (104 :: cs) l m h = fitsGo cs l m 2 := by simp [fitsGo]
theorem go_0 (l : List Int) (m h : Int) : fitsGo [] l m h = some (l, m, h) := rfl

set_option maxHeartbeats 6400000 in
theorem fits_ok_iff (i : Ins) (h1 : 1 ≤ i.op) (h2 : i.op ≤ 13) : fitsB i = true ↔ i.Ok := by
  obtain ⟨op, a, b, c, imm⟩ := i
  simp only at h1 h2
  have hop : op = 1 ∨ op = 2 ∨ op = 3 ∨ op = 4 ∨ op = 5 ∨ op = 6 ∨ op = 7 ∨ op = 8 ∨ op = 9 ∨ op = 10 ∨ op = 11 ∨ op = 12 ∨ op = 13 := by omega
  rcases hop with rfl | rfl | rfl | rfl | rfl | rfl | rfl | rfl | rfl | rfl | rfl | rfl | rfl <;>
    (simp [fitsB, formL, Ins.regs, Ins.Ok, OkN, go_r, go_k, go_n, go_o, go_h, go_0]
     first
       | omega
       | (by_cases ha : a < 0 ∨ 8 ≤ a <;> by_cases hb : b < 0 ∨ 8 ≤ b <;> by_cases hc : c < 0 ∨ 8 ≤ c <;> by_cases hA : a < 0 ∨ 16 ≤ a <;> by_cases hB : b < 0 ∨ 16 ≤ b <;> by_cases hC : c < 0 ∨ 16 ≤ c <;> (try simp only [ha, hb, hc, hA, hB, hC, if_true, if_false]) <;> (try simp) <;> omega))
end Go.Proofs.YtgpmhfbkgcljbaaDoor
