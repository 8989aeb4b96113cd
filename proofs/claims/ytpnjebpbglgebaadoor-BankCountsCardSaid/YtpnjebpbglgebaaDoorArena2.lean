/-
  Package arena, the rest: Give, Live, Ver, Cap, Used, Left, New.
-/
import Derived.Test.YtpnjebpbglgebaaDoorArena
namespace Go.Proofs.YtpnjebpbglgebaaDoor
open Go Go.RowKit

theorem live_true {l : List Place} {i : Nat} (ht : there l i = true) (hi : i < l.length) (v : Int) : liveAt l i v = (l[i].ver == v) := by
  simp [liveAt, ht, verOf_nat l i hi]

set_option maxHeartbeats 400000 in
theorem live_calls (w : World) (a p : Nat) (l : List Place) (id v : Int) (h : ArenaRep w a p l) :
    Calls Tryd.prog 23 #[.pointer (some ⟨a, 0, none⟩), .int .i64 id, .int .i64 v] w fun e w' => e = .returned (.bool (liveAt l id v)) ∧ w = w' := by
  have HR := Lib.hid h
  obtain ⟨⟨c, hA⟩, hL, _, hf, _⟩ := h
  replace hA := hA.cell 0 _ rfl
  by_cases ht : there l id = true
  · obtain ⟨h0, h1⟩ := there_lt ht
    obtain ⟨i, rfl⟩ := Int.eq_ofNat_of_zero_le h0
    obtain ⟨c0, c1, c2⟩ := places_at hL i (by omega)
    rw [live_true ht (by omega)]
    clear hL c0 c2
    go_enter Tryd.func23, Tryd.ntmps23
    go_wp2_with (go_at_call 21; refine (there_calls _ _ _ _ _ HR.out).mono ?_; rintro e w' ⟨rfl, rfl⟩)
    go_ret
    exact ⟨rfl, rfl⟩
  · have ht' : there l id = false := by simpa using ht
    have e : liveAt l id v = false := by simp [liveAt, ht']
    rw [e]
    clear hL ht e
    go_enter Tryd.func23, Tryd.ntmps23
    go_wp2_with (go_at_call 21; refine (there_calls _ _ _ _ _ HR.out).mono ?_; rintro e w' ⟨rfl, rfl⟩)
    go_ret
    exact ⟨rfl, rfl⟩

theorem verOf_neg (l : List Place) (id : Int) (h : ¬ 0 ≤ id) : verOf l id = 0 := by simp [verOf, h]
theorem verOf_big (l : List Place) (id : Int) (h : ¬ id < l.length) : verOf l id = 0 := by
  simp only [verOf]
  split
  · rw [List.getElem?_eq_none (by omega)]; rfl
  · rfl

theorem cap_calls (w : World) (a p : Nat) (l : List Place) (h : ArenaRep w a p l) :
    Calls Tryd.prog 39 #[.pointer (some ⟨a, 0, none⟩)] w fun e w' => e = .returned (.int .i64 l.length) ∧ w = w' := by
  obtain ⟨⟨c, hA⟩, hL, _, hf, _⟩ := h
  replace hA := hA.cell 0 _ rfl
  clear hL
  go_enter Tryd.func39, Tryd.ntmps39
  go_wp2
  go_ret
  exact ⟨rfl, rfl⟩

/-- a place is free again -/
def givenP (p : Place) : Place := if p.ver = 1048575 then { there := false, ver := p.ver, gone := true } else { p with there := false, ver := p.ver + 1 }
def given (l : List Place) (i : Nat) : List Place := l.set i (givenP (l[i]?.getD default))
theorem given_length (l : List Place) (i : Nat) : (given l i).length = l.length := by simp [given]

def GivePost (E : Nat → Addr) (w : World) (a p : Nat) (l : List Place) (id : Int) (e : Ending) (w' : World) : Prop :=
  Ext [p] w w' ∧
  match there l id with
  | false => e = .returned (errV E 5) ∧ ArenaRep w' a p l
  | true => e = .returned .nilIface ∧ ArenaRep w' a p (given l id.toNat)

set_option maxHeartbeats 800000 in
theorem give_calls {K : List Nat} {B : Nat} {E : Nat → Addr} (w : World) (a p : Nat) (l : List Place) (id : Int) (h : ArenaRep w a p l) (he : Errs K B E w) (hK : 5 ∈ K) :
    Calls Tryd.prog 45 #[.pointer (some ⟨a, 0, none⟩), .int .i64 id] w (GivePost E w a p l id) := by
  have hE := he.glob 5 hK
  simp only [glob] at hE
  clear he hK
  have HR := Lib.hid h
  obtain ⟨⟨c, hA⟩, hL, hne, hf, hv⟩ := h
  replace hA := hA.cell 0 _ rfl
  by_cases ht : there l id = true
  · obtain ⟨h0, h1⟩ := there_lt ht
    obtain ⟨i, rfl⟩ := Int.eq_ofNat_of_zero_le h0
    have hi : i < l.length := by omega
    obtain ⟨c0, c1, c2⟩ := places_at hL i hi
    have f0 := hL.frozen (i * 3)
    have f1 := hL.frozen (i * 3 + 1)
    have f2 := hL.frozen (i * 3 + 2)
    obtain ⟨v0, v1⟩ := hv.at_ i hi
    have HL := Lib.hid hL
    clear hL hv
    have hgd : l[i]?.getD default = l[i] := by simp [List.getElem?_eq_getElem hi]
    by_cases hm : l[i].ver = 1048575
    · have hmb : (l[i].ver == 1048575) = true := by simpa using hm
      have HM := Lib.hid hm; clear hm
      have HGD := Lib.hid hgd; clear hgd
      go_enter Tryd.func45, Tryd.ntmps45
      go_wp2_with (go_at_call 21; refine (there_calls _ _ _ _ _ HR.out).mono ?_; rintro e w' ⟨rfl, rfl⟩)
      go_ret
      refine ⟨((Ext.refl _ _).setCell (.inl (by simp)) _).setCell (.inl (by simp)) _, ?_⟩
      rw [ht]
      refine ⟨rfl, ?_⟩
      have hset : given l i = l.set i { there := false, ver := l[i].ver, gone := true } := by simp [given, HGD.out, givenP, HM.out]
      have hs1 := HL.out.put Place.len i 0 hi (by omega) (.bool false) { l[i] with there := false } rfl
      have hs2 := hs1.put Place.len i 2 (by simpa using hi) (by omega) (.bool true) { there := false, ver := l[i].ver, gone := true } (by simp [Place.enc])
      refine ⟨?_, ?_, hne, by rw [Int.toNat_natCast, given_length]; exact hf, ?_⟩
      · obtain ⟨c, hc⟩ := HR.out.hdr
        exact ⟨c, by rw [Int.toNat_natCast, given_length]; exact (hc.setCell_other hne _ _).setCell_other hne _ _⟩
      · rw [Int.toNat_natCast, hset]; simpa using hs2
      · rw [Int.toNat_natCast, hset]; exact HR.out.vers.set _ _ ⟨v0, v1⟩
    · have hmb : (l[i].ver == 1048575) = false := by simpa using hm
      have HM := Lib.hid hm; clear hm
      have HGD := Lib.hid hgd; clear hgd
      have hlt : l[i].ver < 1048575 := by have := HM.out; omega
      go_enter Tryd.func45, Tryd.ntmps45
      go_wp2_with (go_at_call 21; refine (there_calls _ _ _ _ _ HR.out).mono ?_; rintro e w' ⟨rfl, rfl⟩)
      go_ret
      refine ⟨((Ext.refl _ _).setCell (.inl (by simp)) _).setCell (.inl (by simp)) _, ?_⟩
      rw [ht]
      refine ⟨rfl, ?_⟩
      have hset : given l i = l.set i { l[i] with there := false, ver := l[i].ver + 1 } := by simp [given, HGD.out, givenP, HM.out]
      have hs1 := HL.out.put Place.len i 0 hi (by omega) (.bool false) { l[i] with there := false } rfl
      have hs2 := hs1.put Place.len i 1 (by simpa using hi) (by omega) (.int .i64 (l[i].ver + 1)) { l[i] with there := false, ver := l[i].ver + 1 } (by simp [Place.enc])
      refine ⟨?_, ?_, hne, by rw [Int.toNat_natCast, given_length]; exact hf, ?_⟩
      · obtain ⟨c, hc⟩ := HR.out.hdr
        exact ⟨c, by rw [Int.toNat_natCast, given_length]; exact (hc.setCell_other hne _ _).setCell_other hne _ _⟩
      · rw [Int.toNat_natCast, hset]; simpa using hs2
      · rw [Int.toNat_natCast, hset]; exact HR.out.vers.set _ _ (by constructor <;> simp <;> omega)
  · have ht' : there l id = false := by simpa using ht
    clear hL ht hv
    go_enter Tryd.func45, Tryd.ntmps45
    go_wp2_with (go_at_call 21; refine (there_calls _ _ _ _ _ HR.out).mono ?_; rintro e w' ⟨rfl, rfl⟩)
    go_ret
    refine ⟨Ext.refl _ _, ?_⟩
    rw [ht']
    exact ⟨rfl, HR.out⟩

/-! ### How many are taken, may be taken -/
def usedN (l : List Place) : Nat := l.countP (·.there)
def leftN (l : List Place) : Nat := l.countP fun p => !p.there && !p.gone

theorem take_snoc {α : Type} (l : List α) (k : Nat) (h : k < l.length) : l.take (k + 1) = l.take k ++ [l[k]] := by
  rw [List.take_succ_eq_append_getElem h]
theorem countP_snoc {α : Type} (q : α → Bool) (l : List α) (k : Nat) (h : k < l.length) : (l.take (k + 1)).countP q = (l.take k).countP q + if q l[k] then 1 else 0 := by
  rw [take_snoc l k h, List.countP_append]
  simp [List.countP_cons]

set_option maxHeartbeats 800000 in
theorem left_calls (w : World) (a p : Nat) (l : List Place) (h : ArenaRep w a p l) :
    Calls Tryd.prog 19 #[.pointer (some ⟨a, 0, none⟩)] w fun e w' => e = .returned (.int .i64 (leftN l)) ∧ Ext [] w w' := by
  have HR := Lib.hid h
  obtain ⟨⟨c, hA⟩, hL, _, hf, _⟩ := h
  replace hA := hA.cell 0 _ rfl
  go_enter Tryd.func19, Tryd.ntmps19
  go_wp2
  go_loopw [3, 11] (fun n i wr => ∃ k : Nat, k ≤ l.length ∧ i = .int .i64 k ∧ n = .int .i64 ((l.take k).countP (fun p => !p.there && !p.gone) : Nat) ∧ Ext [] w wr) (fun _ i _ => l.length - (intOf i).toNat)
  case atStart => exact ⟨0, by omega, rfl, rfl, Ext.refl _ _⟩
  case round =>
    obtain ⟨k, hk, rfl, rfl, hx⟩ := hrel
    have hc : (l.take k).countP (fun p => !p.there && !p.gone) ≤ k := Nat.le_trans List.countP_le_length (List.length_take_le _ _)
    by_cases hlt : k < l.length
    · have hs := countP_snoc (fun p : Place => !p.there && !p.gone) l k hlt
      obtain ⟨c0, c1, c2⟩ := places_at (hx.blk hL (by simp)) k hlt
      have HS := Lib.hid hs; clear hs hL hA
      cases hb : l[k].there <;> cases hg : l[k].gone
      all_goals
        have HS2 := HS.out
        rw [hb, hg] at HS2
        clear HS
        have HS := Lib.hid HS2; clear HS2
        go_wp2
        go_roundw
        case rel => exact ⟨k + 1, by omega, by go_num, by rw [HS.out]; first | rfl | go_num, by repeat (first | exact hx | apply Ext.setCell | apply Ext.alloc | (right; exact hx.size))⟩
        case measure => simp [intOf]; omega
    · obtain rfl : k = l.length := by omega
      clear hL
      go_wp2
      go_ret
      exact ⟨by rw [List.take_length]; rfl, hx⟩

end Go.Proofs.YtpnjebpbglgebaaDoor
