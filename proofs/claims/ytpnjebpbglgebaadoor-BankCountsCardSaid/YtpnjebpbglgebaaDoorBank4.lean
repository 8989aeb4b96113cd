/-
  Package bank: Room, use.
-/
import Derived.Test.YtpnjebpbglgebaaDoorBank3
namespace Go.Proofs.YtpnjebpbglgebaaDoor
open Go Go.RowKit

@[reducible] def roomFn (bn bb : Nat) : Value := .func (.func 63) #[] #[ptr bn, ptr bb]

set_option maxHeartbeats 800000 in
theorem indexRoom_calls (w : World) (L : TabL) (bp : List Place) (bs : List BankS) (v : Value) (l : List Int) (n : Int) (bn bb : Nat) (h : TabRep BankS.enc w L bp bs) (hl : ∀ x ∈ l, there bp x = true) (hlen : l.length ≤ 256) (hM : Small 1000000000 bs)
    (hv : RowAt w v l) (hn : w.cell? ⟨bn, 0, none⟩ = some (.int .i64 n)) (hb : w.cell? ⟨bb, 0, none⟩ = some (ptr L.h)) :
    Calls Tryd.prog 72 #[v, roomFn bn bb] w fun e w' => (∃ k : Int, e = .returned (.int .i64 k) ∧ decide (0 ≤ k) = l.any (tight bs n)) ∧ Ext [] w w' := by
  obtain ⟨A, c, rfl, hv⟩ := hv
  go_enter Tryd.func72, Tryd.ntmps72
  go_wp2
  go_loopw [8] (fun i wr => ∃ k : Nat, k ≤ l.length ∧ i = .int .i64 k ∧ (l.take k).any (tight bs n) = false ∧ Ext [] w wr) (fun i _ => l.length - (intOf i).toNat)
  case atStart => exact ⟨0, by omega, rfl, rfl, Ext.refl _ _⟩
  case round =>
    obtain ⟨k, hk, rfl, hT, hX⟩ := hrel
    have HT := Lib.hid hT; clear hT
    by_cases hlt : k < l.length
    · obtain ⟨g, rfl, hc⟩ := hv k hlt
      have hc' := hX.cell hc (by simp)
      have hn' := hX.cell hn (by simp)
      have hb' := hX.cell hb (by simp)
      have hx : there bp l[k] = true := hl _ (List.getElem_mem hlt)
      have HS : Hid (l.take (k + 1) = l.take k ++ [l[k]]) := by
        show l.take (k + 1) = l.take k ++ [l[k]]
        simp
      cases hti : tight bs n l[k] with
      | true =>
        go_wp2_with (go_at_call 63; refine (room1_calls _ L bp bs _ n bn bb (h.ext hX (fun _ _ hb => by cases hb)) hx hM hn' hb').mono ?_; rintro e w2 ⟨rfl, hx2⟩; rw [hti])
        go_ret
        refine ⟨⟨k, rfl, ?_⟩, hX.trans hx2⟩
        have : l.any (tight bs n) = true := List.any_eq_true.2 ⟨_, List.getElem_mem hlt, hti⟩
        rw [this]; simp
      | false =>
        go_wp2_with (go_at_call 63; refine (room1_calls _ L bp bs _ n bn bb (h.ext hX (fun _ _ hb => by cases hb)) hx hM hn' hb').mono ?_; rintro e w2 ⟨rfl, hx2⟩; rw [hti])
        go_roundw
        case rel => exact ⟨k + 1, by omega, by go_num, by rw [HS.out, List.any_append, HT.out]; simp [hti], hX.trans hx2⟩
        case measure => simp [intOf]; omega
    · obtain rfl : k = l.length := by omega
      go_wp2
      go_ret
      refine ⟨⟨-1, rfl, ?_⟩, hX⟩
      have := HT.out
      rw [List.take_length] at this
      rw [this]; rfl

theorem containsRoom_calls (w : World) (L : TabL) (bp : List Place) (bs : List BankS) (v : Value) (l : List Int) (n : Int) (bn bb : Nat) (h : TabRep BankS.enc w L bp bs) (hl : ∀ x ∈ l, there bp x = true) (hlen : l.length ≤ 256) (hM : Small 1000000000 bs)
    (hv : RowAt w v l) (hn : w.cell? ⟨bn, 0, none⟩ = some (.int .i64 n)) (hb : w.cell? ⟨bb, 0, none⟩ = some (ptr L.h)) :
    Calls Tryd.prog 62 #[v, roomFn bn bb] w fun e w' => e = .returned (.bool (l.any (tight bs n))) ∧ Ext [] w w' := by
  go_enter Tryd.func62, Tryd.ntmps62
  go_wp2_with (go_at_call 72; refine (indexRoom_calls _ L bp bs v l n bn bb h hl hlen hM hv hn hb).mono ?_; rintro e w2 ⟨⟨k, rfl, hk⟩, hx2⟩)
  go_ret
  exact ⟨by rw [← hk]; rfl, hx2⟩


set_option maxRecDepth 100000 in
set_option maxHeartbeats 400000 in
theorem room_calls (w : World) (L : TabL) (bp : List Place) (bs : List BankS) (id n : Int) (l : List Int) (h : TabRep BankS.enc w L bp bs) (hc : IsChain bp bs id l) (hl : l.length ≤ 256) (hM : Small 1000000000 bs) :
    Calls Tryd.prog 51 #[ptr L.h, .int .i64 id, .int .i64 n] w fun e w' => e = .returned (.bool (!l.any (tight bs n))) ∧ Ext [] w w' := by
  have H := Lib.hid h
  have HC := Lib.hid hc
  have hmem := Lib.hid hc.mem
  clear h hc
  go_enter Tryd.func51, Tryd.ntmps51
  go_wp2_with (first
    | (go_at_call 42
       refine (chain_calls _ L bp bs _ l (H.out.ext (((Ext.refl [] w).alloc _).alloc _) (fun _ _ hb => by cases hb)) HC.out hl).mono ?_
       rintro e w1 ⟨v, rfl, hown, hx⟩
       have hrow := RowAt.of_own hown
       have hX := (((Ext.refl [] w).alloc _).alloc _).trans hx
       have hb0 := (hx.blk ((Blk.new (cs := [ptr L.h])).alloc _) (by simp)).cell 0 _ rfl
       have hb1 : w1.cell? ⟨w.heap.size + 1, 0, none⟩ = some (.int .i64 n) := by simpa using (hx.blk (Blk.new (cs := [.int .i64 n])) (by simp)).cell 0 _ rfl
       clear hown hx)
    | (go_at_call 62
       refine (containsRoom_calls _ L bp bs _ l n (w.heap.size + 1) w.heap.size (H.out.ext hX (fun _ _ hb => by cases hb)) hmem.out hl hM hrow hb1 hb0).mono ?_
       rintro e w2 ⟨rfl, hx2⟩))
  go_ret
  exact ⟨rfl, hX.trans hx2⟩
end Go.Proofs.YtpnjebpbglgebaaDoor
