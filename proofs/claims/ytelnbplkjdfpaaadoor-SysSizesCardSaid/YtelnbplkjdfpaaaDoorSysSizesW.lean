/-
  The walk of the statement SysSizes.
-/
import Derived.Test.YtelnbplkjdfpaaaDoorSysFirst
import Derived.Test.YtelnbplkjdfpaaaDoorSee2
import Derived.Test.YtelnbplkjdfpaaaDoorQuiet
namespace Go.Proofs.YtelnbplkjdfpaaaDoor
open Go Go.RowKit

theorem cap_calls' (w : World) (a p : Nat) (l : List Place) (n : Nat) (h : ArenaRep w a p l) (hn : l.length = n) :
    Calls Tryd.prog 14 #[.pointer (some ⟨a, 0, none⟩)] w fun e w' => e = .returned (.int .i64 n) ∧ w = w' := by
  subst hn; exact cap_calls w a p l h

theorem queueLen_calls (w : World) (q : Nat) (A : Option Addr) (n c : Nat) (h : Blk w q [.slice A n c]) : Calls Tryd.prog 15 #[ptr q] w fun e w' => e = .returned (.int .i64 n) ∧ w = w' := by
  have c := h.cell 0 _ rfl
  go_enter Tryd.func15, Tryd.ntmps15
  go_wp2
  go_ret
  exact ⟨rfl, rfl⟩

/-- Six numbers in a row. -/
def Six (w : World) (b o : Nat) (x0 x1 x2 x3 x4 x5 : Int) : Prop :=
  w.cell? ⟨b, o, none⟩ = some (.int .i64 x0) ∧ w.cell? ⟨b, o + 1, none⟩ = some (.int .i64 x1) ∧ w.cell? ⟨b, o + 2, none⟩ = some (.int .i64 x2) ∧ w.cell? ⟨b, o + 3, none⟩ = some (.int .i64 x3) ∧
  w.cell? ⟨b, o + 4, none⟩ = some (.int .i64 x4) ∧ w.cell? ⟨b, o + 5, none⟩ = some (.int .i64 x5)
theorem Six.ext {w w' : World} {b o : Nat} {x0 x1 x2 x3 x4 x5 : Int} (h : Six w b o x0 x1 x2 x3 x4 x5) (hx : Ext [] w w') : Six w' b o x0 x1 x2 x3 x4 x5 :=
  ⟨hx.cell h.1 (by simp), hx.cell h.2.1 (by simp), hx.cell h.2.2.1 (by simp), hx.cell h.2.2.2.1 (by simp), hx.cell h.2.2.2.2.1 (by simp), hx.cell h.2.2.2.2.2 (by simp)⟩

theorem six_at {w : World} {b o : Nat} {x0 x1 x2 x3 x4 x5 : Int} {p : Int → Prop} (h : Six w b o x0 x1 x2 x3 x4 x5) (k : Nat) (hk : k < 6) (h0 : p x0) (h1 : p x1) (h2 : p x2) (h3 : p x3) (h4 : p x4) (h5 : p x5) :
    ∃ x, w.cell? ⟨b, o + k, none⟩ = some (.int .i64 x) ∧ p x := by
  match k, hk with
  | 0, _ => exact ⟨x0, h.1, h0⟩
  | 1, _ => exact ⟨x1, h.2.1, h1⟩
  | 2, _ => exact ⟨x2, h.2.2.1, h2⟩
  | 3, _ => exact ⟨x3, h.2.2.2.1, h3⟩
  | 4, _ => exact ⟨x4, h.2.2.2.2.1, h4⟩
  | 5, _ => exact ⟨x5, h.2.2.2.2.2, h5⟩
set_option maxRecDepth 100000 in
/-- Not six: nothing is asked. -/
theorem sysSizes_other (w : World) (A : Option Addr) (n c : Nat) (hn : n ≠ 6) :
    Calls Tryd.prog 3 #[.slice A n c] w fun e w' => e = .returned (.bool true) ∧ Ext [] w w' := by
  have hb : (((n : Nat) : Int) != 6) = true := by rw [bne_iff_ne]; omega
  go_enter Tryd.func3, Tryd.ntmps3
  go_wp2_with fail
  refine (first21_calls _).mono ?_
  rintro e w1 ⟨rfl, hx⟩
  go_wp2
  go_ret
  exact ⟨rfl, hx⟩

def Good (x : Int) : Prop := 1 ≤ x ∧ x ≤ 256

set_option maxHeartbeats 8000000 in
set_option maxRecDepth 100000 in
theorem sysSizes_good {K : List Nat} {B : Nat} {E : Nat → Addr} (w : World) (b o c : Nat) (n0 n1 n2 n3 n4 n5 : Nat) (h : Six w b o n0 n1 n2 n3 n4 n5) (_he : Errs K B E w) (_hK : All12 K)
    (a0 : 1 ≤ n0) (b0 : n0 ≤ 256) (a1 : 1 ≤ n1) (b1 : n1 ≤ 256) (a2 : 1 ≤ n2) (b2 : n2 ≤ 256) (a3 : 1 ≤ n3) (b3 : n3 ≤ 256) (a4 : 1 ≤ n4) (b4 : n4 ≤ 256) (a5 : 1 ≤ n5) (b5 : n5 ≤ 256) :
    Calls Tryd.prog 3 #[.slice (some ⟨b, o, none⟩) 6 c] w fun e w' => e = .returned (.bool true) ∧ Ext [] w w' := by
  go_enter Tryd.func3, Tryd.ntmps3
  go_wp2_with fail
  refine (first21_calls _).mono ?_
  rintro e w1 ⟨rfl, hx⟩
  have h1 := h.ext hx
  obtain ⟨e0, e1, e2, e3, e4, e5⟩ := h1
  go_wp2_with fail
  go_region_held3 (fun w' => w'.cell? ⟨b, o, none⟩ = some (.int .i64 n0) ∧ w'.cell? ⟨b, o + 1, none⟩ = some (.int .i64 n1) ∧ w'.cell? ⟨b, o + 2, none⟩ = some (.int .i64 n2) ∧ w'.cell? ⟨b, o + 3, none⟩ = some (.int .i64 n3) ∧
  w'.cell? ⟨b, o + 4, none⟩ = some (.int .i64 n4) ∧ w'.cell? ⟨b, o + 5, none⟩ = some (.int .i64 n5))
    (first | go_keep | exact Six.ext (Six.ext h hx) (((Ext.refl [] w1).drew).trans hxs))
    ((go_at_call 12; refine (sysNew_ok _ _ _ _ _ _ _ a0 b0 a1 b1 a2 b2 a3 b3 a4 b4 a5 b5).mono ?_; rintro e w2 ⟨L, rfl, hS, hxs, hf⟩))
  go_wp2_with fail
  have hX2 : Ext [] w w2 := hx.trans (((Ext.refl [] w1).drew).trans hxs)
  go_loop [6, 7] (fun g i => ∃ k : Nat, k ≤ 6 ∧ i = .int .i64 k ∧ g = .bool true) (fun _ i => 6 - (intOf i).toNat)
  case atStart => exact ⟨0, by omega, rfl, rfl⟩
  case round =>
    obtain ⟨k, hk, rfl, rfl⟩ := hrel
    by_cases hlt : k < 6
    · obtain ⟨x, hc, x1, x2⟩ := six_at (p := Good) (h.ext hX2) k hlt ⟨by omega, by omega⟩ ⟨by omega, by omega⟩ ⟨by omega, by omega⟩ ⟨by omega, by omega⟩ ⟨by omega, by omega⟩ ⟨by omega, by omega⟩
      go_wp2
      go_round
      case rel => exact ⟨k + 1, by omega, by go_num, rfl⟩
      case measure => simp [intOf]; omega
    · obtain rfl : k = 6 := by omega
      obtain ⟨e0, e1, e2, e3, e4, e5⟩ := h.ext hX2
      have s0 := hS.hs.cell 0 _ rfl
      have s1 := hS.hs.cell 1 _ rfl
      have s2 := hS.hs.cell 2 _ rfl
      have s3 := hS.hs.cell 3 _ rfl
      have s4 := hS.hs.cell 4 _ rfl
      have s5 := hS.hs.cell 5 _ rfl
      have s8 : w2.cell? ⟨L.s, 8, none⟩ = some (.int .i64 0) := hS.hs.cell 8 _ rfl
      have q0 := hS.mem.hm.cell 0 _ rfl
      have q1 := hS.mem.hs.cell 0 _ rfl
      have q2 := hS.mem.hs.cell 1 _ rfl
      obtain ⟨d0, hd0⟩ := hS.mem.nod.hdr
      obtain ⟨d1, hd1⟩ := hS.mem.pag.hdr
      obtain ⟨d2, hd2⟩ := hS.dom.tab.hdr
      obtain ⟨d3, hd3⟩ := hS.met.hdr
      obtain ⟨d4, hd4⟩ := hS.ban.tab.hdr
      obtain ⟨d5, hd5⟩ := hS.mak.hdr
      have t0 := hd0.cell 0 _ rfl
      have t1 := hd1.cell 0 _ rfl
      have t2 := hd2.cell 0 _ rfl
      have t3 := hd3.cell 0 _ rfl
      have t4 := hd4.cell 0 _ rfl
      have t5 := hd5.cell 0 _ rfl
      obtain ⟨Ar, cr, rv⟩ := own_slice hS.rdy
      have hq : Blk w2 L.q [.slice Ar 0 cr] := by
        have := hS.hq
        rw [rv] at this
        exact this
      clear hd0 hd1 hd2 hd3 hd4 hd5 rv a0 a1 a2 a3 a4 a5 b0 b1 b2 b3 b4 b5 h hx hxs hf hk hlt
      go_wp2
      refine quiet_fast (by kernel_rfl) (by kernel_rfl) (by kernel_rfl) ?_
      repeat (go_big_quiet_step ((first
        | (go_at_call_of 14 (Value.pointer (some ⟨L.mem.nod.a, 0, none⟩)); exact quietS (cap_calls' _ _ _ _ n0 (hS.mem.nod.arena.drewN _) (List.length_replicate ..)))
        | (go_at_call_of 14 (Value.pointer (some ⟨L.mem.pag.a, 0, none⟩)); exact quietS (cap_calls' _ _ _ _ n1 (hS.mem.pag.arena.drewN _) (List.length_replicate ..)))
        | (go_at_call_of 14 (Value.pointer (some ⟨L.dom.t.a, 0, none⟩)); exact quietS (cap_calls' _ _ _ _ n2 (hS.dom.tab.arena.drewN _) (List.length_replicate ..)))
        | (go_at_call_of 14 (Value.pointer (some ⟨L.met.a, 0, none⟩)); exact quietS (cap_calls' _ _ _ _ n3 (hS.met.arena.drewN _) (List.length_replicate ..)))
        | (go_at_call_of 14 (Value.pointer (some ⟨L.ban.t.a, 0, none⟩)); exact quietS (cap_calls' _ _ _ _ n4 (hS.ban.tab.arena.drewN _) (List.length_replicate ..)))
        | (go_at_call_of 14 (Value.pointer (some ⟨L.mak.a, 0, none⟩)); exact quietS (cap_calls' _ _ _ _ n5 (hS.mak.arena.drewN _) (List.length_replicate ..)))
        | (go_at_call 15; exact quietS (queueLen_calls _ _ _ _ _ (hq.drewN _))))))
      refine wpQuiet_nil ?_
      intro _ hw'
      obtain ⟨nq, hw''⟩ := hw'
      subst hw''
      go_wp2
      go_ret
      exact ⟨rfl, hX2.drewN _⟩

def goodB (x : Int) : Bool := decide (1 ≤ x) && decide (x ≤ 256)
def goodTo (xs : List Int) (k : Nat) : Bool := (xs.take k).all goodB
theorem goodTo_succ (xs : List Int) (k : Nat) (h : k < xs.length) : goodTo xs (k + 1) = (goodTo xs k && goodB xs[k]) := by
  unfold goodTo
  rw [take_snoc xs k h, List.all_append]
  simp
theorem six_get {w : World} {b o : Nat} {x0 x1 x2 x3 x4 x5 : Int} (h : Six w b o x0 x1 x2 x3 x4 x5) (k : Nat) (hk : k < 6) :
    w.cell? ⟨b, o + k, none⟩ = some (.int .i64 ([x0, x1, x2, x3, x4, x5][k]'hk)) := by
  match k, hk with
  | 0, _ => exact h.1
  | 1, _ => exact h.2.1
  | 2, _ => exact h.2.2.1
  | 3, _ => exact h.2.2.2.1
  | 4, _ => exact h.2.2.2.2.1
  | 5, _ => exact h.2.2.2.2.2

set_option maxHeartbeats 4000000 in
set_option maxRecDepth 100000 in
theorem sysSizes_bad {K : List Nat} {B : Nat} {E : Nat → Addr} (w : World) (b o c : Nat) (x0 x1 x2 x3 x4 x5 : Int) (h : Six w b o x0 x1 x2 x3 x4 x5) (he : Errs K B E w) (hK : All12 K)
    (hb : ¬ ((1 ≤ x0 ∧ x0 ≤ 256) ∧ (1 ≤ x1 ∧ x1 ≤ 256) ∧ (1 ≤ x2 ∧ x2 ≤ 256) ∧ (1 ≤ x3 ∧ x3 ≤ 256) ∧ (1 ≤ x4 ∧ x4 ≤ 256) ∧ (1 ≤ x5 ∧ x5 ≤ 256))) :
    Calls Tryd.prog 3 #[.slice (some ⟨b, o, none⟩) 6 c] w fun e w' => e = .returned (.bool true) ∧ Ext [] w w' := by
  go_enter Tryd.func3, Tryd.ntmps3
  go_wp2_with fail
  refine (first21_calls _).mono ?_
  rintro e w1 ⟨rfl, hx⟩
  have h1 := h.ext hx
  obtain ⟨e0, e1, e2, e3, e4, e5⟩ := h1
  go_wp2_with fail
  have hed : Errs K B E w1.drew := he.ext hx.drew (by simp)
  go_region_held3 (fun w' => w'.cell? ⟨b, o, none⟩ = some (.int .i64 x0) ∧ w'.cell? ⟨b, o + 1, none⟩ = some (.int .i64 x1) ∧ w'.cell? ⟨b, o + 2, none⟩ = some (.int .i64 x2) ∧ w'.cell? ⟨b, o + 3, none⟩ = some (.int .i64 x3) ∧
  w'.cell? ⟨b, o + 4, none⟩ = some (.int .i64 x4) ∧ w'.cell? ⟨b, o + 5, none⟩ = some (.int .i64 x5))
    (first | go_keep | exact Six.ext (Six.ext h hx) (((Ext.refl [] w1).drew).trans hxs))
    ((go_at_call 12; refine (sysNew_bad _ _ _ _ _ _ _ hb hed (hK 3 (by omega) (by omega))).mono ?_; rintro e w2 ⟨rfl, hxs⟩))
  go_wp2_with fail
  have hX2 : Ext [] w w2 := hx.trans (((Ext.refl [] w1).drew).trans hxs)
  have hbad : goodTo [x0, x1, x2, x3, x4, x5] 6 = false := by
    simp only [goodTo, List.take, List.all, goodB, Bool.and_true]
    rw [Bool.eq_false_iff]
    intro ht
    simp only [Bool.and_eq_true, decide_eq_true_eq] at ht
    exact hb (by omega)
  have HB := Lib.hid hbad
  clear hbad hb e0 e1 e2 e3 e4 e5
  go_loop [6, 7] (fun g i => ∃ k : Nat, k ≤ 6 ∧ i = .int .i64 k ∧ g = .bool (goodTo [x0, x1, x2, x3, x4, x5] k)) (fun _ i => 6 - (intOf i).toNat)
  case atStart => exact ⟨0, by omega, rfl, rfl⟩
  case round =>
    obtain ⟨k, hk, rfl, rfl⟩ := hrel
    by_cases hlt : k < 6
    · have hc := six_get (h.ext hX2) k hlt
      have hs := goodTo_succ [x0, x1, x2, x3, x4, x5] k hlt
      generalize hy : ([x0, x1, x2, x3, x4, x5][k]'hlt) = y at *
      clear hy h
      have HS := Lib.hid hs; clear hs
      by_cases hg : goodTo [x0, x1, x2, x3, x4, x5] k = true
      · have HG := Lib.hid hg
        rw [hg]
        clear hg
        by_cases y1 : 1 ≤ y
        · by_cases y2 : y ≤ 256
          · go_wp2
            go_round
            case rel => exact ⟨k + 1, by omega, by go_num, by rw [HS.out, HG.out]; simp [goodB, y1, y2]⟩
            case measure => simp [intOf]; omega
          · have y2' : decide (y ≤ 256) = false := by simpa using y2
            go_wp2
            go_round
            case rel => exact ⟨k + 1, by omega, by go_num, by rw [HS.out, HG.out]; simp [goodB]; omega⟩
            case measure => simp [intOf]; omega
        · have y1' : decide (1 ≤ y) = false := by simpa using y1
          go_wp2
          go_round
          case rel => exact ⟨k + 1, by omega, by go_num, by rw [HS.out, HG.out]; simp [goodB]; omega⟩
          case measure => simp [intOf]; omega
      · have hg' : goodTo [x0, x1, x2, x3, x4, x5] k = false := by simpa using hg
        have HG := Lib.hid hg'
        rw [hg']
        clear hg hg'
        go_wp2
        go_round
        case rel => exact ⟨k + 1, by omega, by go_num, by rw [HS.out, HG.out]; rfl⟩
        case measure => simp [intOf]; omega
    · obtain rfl : k = 6 := by omega
      rw [HB.out]
      have he2 := he.ext hX2 (by simp)
      clear h
      go_wp2_with (go_at_call 13; refine (is_calls _ he2 hK 3 (by omega) 103).mono ?_; rintro e w3 ⟨rfl, hx3⟩)
      go_ret
      exact ⟨rfl, hX2.trans hx3⟩

/-- What the row's reading of the argument gives. -/
def SizesArg (w : World) (v : Value) : Prop :=
  ∃ A n c, v = .slice A n c ∧ (n = 6 → ∃ b o x0 x1 x2 x3 x4 x5, A = some ⟨b, o, none⟩ ∧ Six w b o x0 x1 x2 x3 x4 x5)

theorem sysSizes_calls {K : List Nat} {B : Nat} {E : Nat → Addr} (w : World) (v : Value) (hv : SizesArg w v) (he : Errs K B E w) (hK : All12 K) :
    Calls Tryd.prog 3 #[v] w fun e w' => e = .returned (.bool true) ∧ Ext [] w w' := by
  obtain ⟨A, n, c, rfl, h6⟩ := hv
  by_cases hn : n = 6
  · obtain ⟨b, o, x0, x1, x2, x3, x4, x5, rfl, h⟩ := h6 hn
    subst hn
    by_cases hg : ((1 ≤ x0 ∧ x0 ≤ 256) ∧ (1 ≤ x1 ∧ x1 ≤ 256) ∧ (1 ≤ x2 ∧ x2 ≤ 256) ∧ (1 ≤ x3 ∧ x3 ≤ 256) ∧ (1 ≤ x4 ∧ x4 ≤ 256) ∧ (1 ≤ x5 ∧ x5 ≤ 256))
    · obtain ⟨⟨a0, b0⟩, ⟨a1, b1⟩, ⟨a2, b2⟩, ⟨a3, b3⟩, ⟨a4, b4⟩, ⟨a5, b5⟩⟩ := hg
      obtain ⟨n0, rfl⟩ := Int.eq_ofNat_of_zero_le (show 0 ≤ x0 by omega)
      obtain ⟨n1, rfl⟩ := Int.eq_ofNat_of_zero_le (show 0 ≤ x1 by omega)
      obtain ⟨n2, rfl⟩ := Int.eq_ofNat_of_zero_le (show 0 ≤ x2 by omega)
      obtain ⟨n3, rfl⟩ := Int.eq_ofNat_of_zero_le (show 0 ≤ x3 by omega)
      obtain ⟨n4, rfl⟩ := Int.eq_ofNat_of_zero_le (show 0 ≤ x4 by omega)
      obtain ⟨n5, rfl⟩ := Int.eq_ofNat_of_zero_le (show 0 ≤ x5 by omega)
      exact sysSizes_good w b o c n0 n1 n2 n3 n4 n5 h he hK (by omega) (by omega) (by omega) (by omega) (by omega) (by omega) (by omega) (by omega) (by omega) (by omega) (by omega) (by omega)
    · exact sysSizes_bad w b o c x0 x1 x2 x3 x4 x5 h he hK hg
  · exact sysSizes_other w A n c hn
end Go.Proofs.YtelnbplkjdfpaaaDoor
