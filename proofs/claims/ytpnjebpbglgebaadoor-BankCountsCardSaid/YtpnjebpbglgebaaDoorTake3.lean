/-
  Package bank: take.
-/
import Derived.Test.YtpnjebpbglgebaaDoorTake2
namespace Go.Proofs.YtpnjebpbglgebaaDoor
open Go Go.RowKit

/-- What forbids a take ahead of the making; 0: nothing. -/
def takeBar (B : BanksS) (id : Int) (l : List Int) (f : Nat) : Nat :=
  if there B.bp id = false then 5 else if f ≠ 0 then f else if l.any (tight B.bs 1) = true then 7 else 0

set_option maxRecDepth 100000 in
set_option maxHeartbeats 3200000 in
theorem take_bar {K : List Nat} {B0 : Nat} {E : Nat → Addr} (w : World) (L : TabL) (bp : List Place) (bs : List BankS) (B : BanksS) (id kind : Int) (l : List Int) (f : Nat) (fv : Value) (h : TabRep BankS.enc w L bp bs) (hbp : B.bp = bp) (hbs : B.bs = bs)
    (hc : IsChain bp bs id l) (hl : l.length ≤ 256) (hM : Small 1000000000 bs) (he : Errs K B0 E w) (h5 : 5 ∈ K) (h7 : 7 ∈ K) (hbar : takeBar B id l f ≠ 0) :
    Calls Tryd.prog 29 #[ptr L.h, .int .i64 id, .int .i64 kind, errO E f, fv] w fun e w' => e = .returned (.tuple #[.int .i64 0, .int .i64 0, errO E (takeBar B id l f)]) ∧ Ext [] w w' := by
  obtain ⟨cap, hh⟩ := h.hdr
  have c0 := hh.cell 0 _ rfl
  have hA := h.arena
  have H := Lib.hid h
  have e5 := he.glob 5 h5
  have e7 := fun (w' : World) (hx : Ext [] w w') => (he.ext hx (by simp)).glob 7 h7
  simp only [glob] at e5 e7
  have HE := Lib.hid e7
  have HC := Lib.hid hc
  clear hh h e7 hc he
  unfold takeBar at *
  rw [hbp, hbs] at *
  cases ht : there bp id with
  | false =>
    rw [if_pos rfl, errO_pos E (k := 5) (by omega)]
    clear hbar
    go_enter Tryd.func29, Tryd.ntmps29
    go_wp2_with (go_at_call 21; refine (there_calls _ _ _ _ _ hA).mono ?_; rintro e w2 ⟨rfl, rfl⟩; rw [ht])
    go_quiet (fail)
    go_wp2
    go_ret3
    exact ⟨rfl, (Ext.refl _ _).drewN _⟩
  | true =>
    rw [ht] at hbar
    rw [if_neg (by simp)] at *
    by_cases hf : f = 0
    · subst hf
      rw [if_neg (by simp)] at *
      have htt : l.any (tight bs 1) = true := by
        cases hz : l.any (tight bs 1) with
        | true => rfl
        | false => rw [hz, if_neg (by simp)] at hbar; exact absurd rfl hbar
      rw [htt, if_pos rfl, errO_zero, errO_pos E (k := 7) (by omega)]
      clear hbar
      have HT := Lib.hid htt
      clear htt
      go_enter Tryd.func29, Tryd.ntmps29
      go_wp2_with (first
        | (go_at_call 21; refine (there_calls _ _ _ _ _ hA).mono ?_; rintro e w2 ⟨rfl, rfl⟩; rw [ht])
        | (go_at_call 51; refine (room_calls _ L bp bs _ _ l H.out HC.out hl hM).mono ?_; rintro e w2 ⟨rfl, hx2⟩; rw [HT.out]; have d7 := HE.out _ hx2))
      go_quiet (fail)
      go_wp2
      go_ret3
      exact ⟨rfl, hx2.drewN _⟩
    · rw [if_pos hf] at *
      rw [errO_pos E hf]
      clear hbar
      go_enter Tryd.func29, Tryd.ntmps29
      go_wp2_with (go_at_call 21; refine (there_calls _ _ _ _ _ hA).mono ?_; rintro e w2 ⟨rfl, rfl⟩; rw [ht])
      go_ret3
      exact ⟨rfl, Ext.refl _ _⟩
end Go.Proofs.YtpnjebpbglgebaaDoor
