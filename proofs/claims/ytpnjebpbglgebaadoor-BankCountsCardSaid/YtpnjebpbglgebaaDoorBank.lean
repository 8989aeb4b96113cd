/-
  Package bank: chains of banks, room, use.
-/
import Derived.Test.YtpnjebpbglgebaaDoorSysRep
namespace Go.Proofs.YtpnjebpbglgebaaDoor
open Go Go.RowKit

theorem info_int : (Tryd.prog.info? 3).map (fun i => (i.zero, i.size, i.bytes)) = some (some (.int .i64 0), 1, 8) := by kernel_rfl

def bankOf (bs : List BankS) (id : Int) : BankS := (bs[id.toNat]?).getD default
theorem bankOf_nat (bs : List BankS) (i : Nat) (hi : i < bs.length) : bankOf bs i = bs[i] := by simp [bankOf, List.getElem?_eq_getElem hi]

/-- l is the bank id, the one it is within, and so on. -/
def IsChain (bp : List Place) (bs : List BankS) : Int → List Int → Prop
  | id, [] => there bp id = false
  | id, x :: l => x = id ∧ there bp id = true ∧ IsChain bp bs (bankOf bs id).parent l

theorem banks_at {w : World} {lb : Nat} {l : List BankS} (h : Blk w lb (flat BankS.enc l)) (i : Nat) (hi : i < l.length) :
    w.cell? ⟨lb, i * 3, none⟩ = some (.int .i64 l[i].parent) ∧ w.cell? ⟨lb, i * 3 + 1, none⟩ = some (.int .i64 l[i].limit) ∧ w.cell? ⟨lb, i * 3 + 2, none⟩ = some (.int .i64 l[i].used) :=
  ⟨h.at0 BankS.len i hi (by omega) _ rfl, h.at_ BankS.len i 1 hi (by omega) _ rfl, h.at_ BankS.len i 2 hi (by omega) _ rfl⟩

def lenOf : Value → Nat
  | .slice _ n _ => n
  | _ => 0

theorem nums1 (xs : List Int) (x : Int) : nums .i64 (xs ++ [x]) = nums .i64 xs ++ [.int .i64 x] := by simp [nums]

set_option maxHeartbeats 800000 in
theorem chain_calls (w : World) (L : TabL) (bp : List Place) (bs : List BankS) (id : Int) (l : List Int) (h : TabRep BankS.enc w L bp bs) (hc : IsChain bp bs id l) (hl : l.length ≤ 256) :
    Calls Tryd.prog 42 #[ptr L.h, .int .i64 id] w fun e w' => ∃ v, e = .returned v ∧ w'.ownsRow w.heap.size 3 1 v l.length (nums .i64 l) ∧ Ext [] w w' := by
  go_enter Tryd.func42, Tryd.ntmps42
  go_wp2
  go_loopw [1, 5] (fun i v wr => ∃ (pre cur : List Int) (x : Int), i = .int .i64 x ∧ l = pre ++ cur ∧ IsChain bp bs x cur ∧ wr.ownsRow w.heap.size 3 1 v pre.length (nums .i64 pre) ∧ Ext [] w wr) (fun _ v _ => l.length - lenOf v)
  case atStart => exact ⟨[], l, id, rfl, rfl, hc, own_nil _ _ _ _, Ext.refl _ _⟩
  case round =>
    obtain ⟨pre, cur, x, rfl, hL, hC, hO, hX⟩ := hrel
    have hsz := hX.size
    have hT := h.ext hX (fun _ _ hb => by cases hb)
    obtain ⟨c, hH⟩ := hT.hdr
    have c0 := hH.cell 0 _ rfl
    have c1 := hH.cell 1 _ rfl
    have hA := hT.arena
    have HT := Lib.hid hT; clear hT
    have HL := Lib.hid hL; clear hL
    cases cur with
    | nil =>
      have ht : there bp x = false := hC
      clear hC
      go_wp2_with (go_at_call 21; refine (there_calls _ _ _ _ _ hA).mono ?_; rintro e w2 ⟨rfl, rfl⟩)
      go_ret
      have := HL.out
      simp at this
      subst this
      exact ⟨_, rfl, hO, hX⟩
    | cons y cur =>
      obtain ⟨rfl, ht, hC⟩ := hC
      have HC := Lib.hid hC; clear hC
      obtain ⟨hy0, hy1⟩ := there_lt ht
      obtain ⟨k, rfl⟩ := Int.eq_ofNat_of_zero_le hy0
      have hkl : k < bs.length := by have := h.len; omega
      have hlen : l.length = pre.length + (cur.length + 1) := by rw [HL.out]; simp
      go_wp2_with (first
        | (go_at_call 21; refine (there_calls _ _ _ _ _ hA).mono ?_; rintro e w2 ⟨rfl, rfl⟩)
        | (at_builtin; refine append_one w.heap.size rfl (.tmp 12) (.tmp 14) 22 3 _ 1 8 rfl Tryd.underlying22 info_int rfl (by decide) (by decide) u5 pre.length _ [.int .i64 (k : Int)] rfl rfl _ rfl rfl (by intro u hu; simp at hu; rcases hu with rfl; rfl) hO hsz (by omega) ?_; intro g c' w3 hown3 hg3 hat3
           have hX3 : Ext [] w w3 := hX.grown hg3 (fun j hj => .inr (own_lt hO j hj).1)
           have hT3 := h.ext hX3 (fun _ _ hb => by cases hb)
           obtain ⟨c3, hH3⟩ := hT3.hdr
           have d1 := hH3.cell 1 _ rfl
           obtain ⟨e0, -, -⟩ := banks_at hT3.rows k hkl
           clear hT3 hH3))
      go_roundw
      case rel =>
        have hC := HC.out
        rw [bankOf_nat bs k hkl] at hC
        refine ⟨pre ++ [(k : Int)], cur, _, rfl, by rw [HL.out]; simp, hC, ?_, hX3⟩
        rw [nums1]
        simpa using hown3
      case measure =>
        obtain ⟨A, c2, rfl⟩ := own_slice hO
        simp [lenOf]; omega
end Go.Proofs.YtpnjebpbglgebaaDoor
