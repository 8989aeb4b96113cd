/-
  Package code: Text: what its rounds keep (plain).
-/
import Derived.Test.YtgpmhfbkgcljbaaDoorCode5
import Derived.Test.YtgpmhfbkgcljbaaDoorCode4
namespace Go.Proofs.YtgpmhfbkgcljbaaDoor
open Go Go.RowKit

/-- The words of the letters. -/
def textGo (a imm : Nat) : List UInt8 → List Nat → List (List UInt8)
  | [], _ => []
  | ch :: cs, l =>
    if ch = 110 then Lib.decDigits imm :: textGo a imm cs l
    else if ch = 111 then opW imm :: textGo a imm cs l
    else if ch = 104 then howW a :: textGo a imm cs l
    else match l with
      | [] => []
      | x :: xs => (ch :: Lib.decDigits x) :: textGo a imm cs xs
def regsN (op a b c : Nat) : List Nat := if op = 11 then [b, c] else [a, b, c]
theorem regsN_regs (op a b c imm : Nat) : Ins.regs ⟨op, a, b, c, imm⟩ = (regsN op a b c).map fun (x : Nat) => (x : Int) := by
  unfold Ins.regs regsN
  by_cases h : op = 11
  · subst h; simp
  · have : ¬ ((op : Int) = 11) := by omega
    simp [h, this]
theorem textGo_args {op a b c imm : Nat} (h : OkN op a b c imm) : textGo a imm (formL op) (regsN op a b c) = argsW op a b c imm := by
  rcases h.ops with rfl | rfl | rfl | rfl | rfl | rfl | rfl | rfl | rfl | rfl | rfl | rfl | rfl <;> simp [textGo, formL, regsN, argsW, regW, keyW]

theorem info_str : (Tryd.prog.info? 9).map (fun i => (i.zero, i.size, i.bytes)) = some (some (.string ByteArray.empty), 1, 16) := by kernel_rfl

/-- The slice v, in block b, holds the numbers l, and has no room behind them. -/
def RegsB (w : World) (b : Nat) (v : Value) (l : List Nat) : Prop :=
  ∃ o, v = .slice (some ⟨b, o, none⟩) l.length l.length ∧ ∀ j (h : j < l.length), w.cell? ⟨b, o + j, none⟩ = some (.int .i64 (l[j] : Int))
theorem RegsB.ext {D : List Nat} {w w' : World} {b : Nat} {v : Value} {l : List Nat} (h : RegsB w b v l) (hx : Ext D w w') (hd : b ∉ D) : RegsB w' b v l := by
  obtain ⟨o, rfl, h⟩ := h
  exact ⟨o, rfl, fun j hj => hx.cell (h j hj) hd⟩
theorem RegsB.tail {w : World} {b o : Nat} {x y : Nat} {ys : List Nat} (h : ∀ j (hj : j < (x :: y :: ys).length), w.cell? ⟨b, o + j, none⟩ = some (.int .i64 ((x :: y :: ys)[j] : Int))) :
    RegsB w b (.slice (some ⟨b, o + 1, none⟩) (ys.length + 1) (ys.length + 1)) (y :: ys) :=
  ⟨o + 1, rfl, fun j hj => by have := h (j + 1) (by simpa using hj); rw [Nat.add_assoc, Nat.add_comm 1 j]; simpa using this⟩

set_option maxHeartbeats 800000 in
theorem regsB_calls (w : World) (op a b c imm : Nat) :
    Calls Tryd.prog 27 #[Ins.val ⟨op, a, b, c, imm⟩] w fun e w' => ∃ v, e = .returned v ∧ RegsB w' (w.heap.size + 1) v (regsN op a b c) ∧ Ext [] w w' ∧ w.heap.size + 1 < w'.heap.size := by
  by_cases h : op = 11
  · subst h
    go_enter Tryd.func27, Tryd.ntmps27
    go_wp2
    go_ret
    refine ⟨_, rfl, ⟨0, rfl, ?_⟩, ((Ext.refl _ _).alloc _).alloc _, by simp⟩
    have hb := (Blk.new (w := w.alloc (.cells #[.int .i64 11, .int .i64 a, .int .i64 b, .int .i64 c, .int .i64 imm] 23)) (cs := [.int .i64 b, .int .i64 c]) (T := 3))
    intro j hj
    match j, hj with
    | 0, _ => simp [regsN]
    | 1, _ => simp [regsN]
  · have hb : ((op : Int) == 11) = false := by simp; omega
    have e1 : regsN op a b c = [a, b, c] := if_neg h
    rw [e1]
    clear h e1
    go_enter Tryd.func27, Tryd.ntmps27
    go_wp2
    go_ret
    refine ⟨_, rfl, ⟨0, rfl, ?_⟩, ((Ext.refl _ _).alloc _).alloc _, by simp⟩
    have hb := (Blk.new (w := w.alloc (.cells #[.int .i64 op, .int .i64 a, .int .i64 b, .int .i64 c, .int .i64 imm] 23)) (cs := [.int .i64 a, .int .i64 b, .int .i64 c]) (T := 3))
    intro j hj
    match j, hj with
    | 0, _ => simp
    | 1, _ => simp
    | 2, _ => simp

/-- What the rounds of Text keep. -/
structure TextRound (w wr : World) (N rb g0 : Nat) (s : ByteArray) (F : List Value) (k : Nat) (l : List Nat) (v rv : Value) (pre : List (List UInt8)) : Prop where
  regs : RegsB wr rb rv l
  own : wr.ownsRow w.heap.size 9 1 v pre.length (pre.map strV)
  apart : ∀ g, v.ownBlock = some g → g = g0 ∨ N < g
  it : wr.heap[N]? = some (.stringIter s k)
  ext : Ext [] w wr
  box : Blk wr w.heap.size F
  ord : w.heap.size < g0 ∧ g0 < rb ∧ rb < N

theorem TextRound.notN {w wr : World} {N rb g0 : Nat} {s : ByteArray} {F : List Value} {k : Nat} {l : List Nat} {v rv : Value} {pre : List (List UInt8)} (h : TextRound w wr N rb g0 s F k l v rv pre) {x : Nat} (hx : x = w.heap.size ∨ x = rb ∨ x = N) : x ∉ v.ownBlock.toList := by
  intro hm
  have := h.apart x (by simpa using hm)
  have := h.ord
  omega
/-- The iterator moved on, a callee returned. -/
theorem TextRound.next {w wr w2 : World} {N rb g0 : Nat} {s : ByteArray} {F : List Value} {k : Nat} {l : List Nat} {v rv : Value} {pre : List (List UInt8)} (h : TextRound w wr N rb g0 s F k l v rv pre) (hx : Ext [] (wr.iterAt N s (k + 1)) w2) :
    TextRound w w2 N rb g0 s F (k + 1) l v rv pre := by
  have hN : Ext [N] wr (wr.iterAt N s (k + 1)) := (Ext.refl _ _).iterAt (.inl (by simp)) s (k + 1)
  have hx1 : Ext [N] wr w2 := hN.trans hx.nil
  have ho := h.ord
  refine ⟨h.regs.ext hx1 (by simp; omega), hx1.own h.own (fun g hg => ?_), h.apart, hx.same (Lib.iterAt_heap wr N s k (k + 1) h.it) (by simp), ?_, hx1.blk h.box (by simp; omega), ho⟩
  · have := h.apart g hg; simp; omega
  · exact h.ext.then hx1 (fun x hm => .inr (by simp at hm; omega))
/-- An element appended. -/
theorem TextRound.put {w wr w3 : World} {N rb g0 : Nat} {s : ByteArray} {F : List Value} {k : Nat} {l : List Nat} {v rv : Value} {pre : List (List UInt8)} (h : TextRound w wr N rb g0 s F k l v rv pre) (hg : wr.grownBy w3 v.ownBlock) {g c : Nat} {x : List UInt8}
    (ho : w3.ownsRow w.heap.size 9 1 (.slice (some ⟨g, 0, none⟩) (pre.length + 1) c) (pre.length + 1) (pre.map strV ++ [strV x])) (hat : v.ownBlock = some g ∨ wr.heap.size ≤ g) :
    TextRound w w3 N rb g0 s F k l (.slice (some ⟨g, 0, none⟩) (pre.length + 1) c) rv (pre ++ [x]) := by
  have hx : Ext v.ownBlock.toList wr w3 := (Ext.refl _ _).grown hg (fun k hk => .inl (by simp [hk]))
  have hlt : N < wr.heap.size := (Array.getElem?_eq_some_iff.1 h.it).1
  refine ⟨h.regs.ext hx (h.notN (.inr (.inl rfl))), ?_, fun q hq => ?_, hx.same h.it (h.notN (.inr (.inr rfl))), ?_, hx.blk h.box (h.notN (.inl rfl)), h.ord⟩
  · simpa using ho
  · have : q = g := by simpa [Value.ownBlock] using hq.symm
    subst this
    rcases hat with hat | hat
    · exact h.apart _ hat
    · exact .inr (by omega)
  · refine h.ext.then hx (fun x hm => .inr ?_)
    have := h.apart x (by simpa using hm)
    have := h.ord
    omega
theorem TextRound.turn {w wr : World} {N rb g0 : Nat} {s : ByteArray} {F : List Value} {k : Nat} {l l' : List Nat} {v rv rv' : Value} {pre : List (List UInt8)} (h : TextRound w wr N rb g0 s F k l v rv pre) (hr : RegsB wr rb rv' l') : TextRound w wr N rb g0 s F k l' v rv' pre :=
  { h with regs := hr }
end Go.Proofs.YtgpmhfbkgcljbaaDoor
