/-
  Errors as plain data: package turnkeysee.
-/
import Derived.Test.YtpnjebpbglgebaaDoorErrs
import Derived.LaidEql
namespace Go.Proofs.YtpnjebpbglgebaaDoor
open Go Go.RowKit

theorem comp_errPtr : (Tryd.prog.info? 158).map (·.comparable) = some true := by kernel_rfl
theorem size_errStr : (Tryd.prog.info? 179).map (·.size) = some 1 := by kernel_rfl

theorem eql_errs {K : List Nat} {B : Nat} {E : Nat → Addr} {w : World} (he : Errs K B E w) {j k : Nat} (hj : j ∈ K) (hk : k ∈ K) :
    (binOp .eql 31 (errV E j) (errV E k)).run Tryd.prog w = .ok (.bool (decide (j = k))) w := by
  obtain ⟨i1, hi1, hc⟩ := Option.map_eq_some_iff.1 comp_errPtr
  obtain ⟨i2, hi2, hs⟩ := Option.map_eq_some_iff.1 size_errStr
  by_cases h : j = k
  · subst h
    rw [run_eql_iface_ptr_same w _ Tryd.underlying31 Tryd.underlying158 hi1 hc hi2]
    simp
  · obtain ⟨s1, T1, b1⟩ := he.blk j hj
    obtain ⟨s2, T2, b2⟩ := he.blk k hk
    rw [run_eql_iface_ptr_other w Tryd.underlying31 Tryd.underlying158 hi1 hc hi2 (by omega) (fun e => h (he.inj j hj k hk (by simpa using e))) b1 b2]
    simp [h]

set_option maxHeartbeats 400000 in
theorem alike_calls {K : List Nat} {B : Nat} {E : Nat → Addr} (w : World) (he : Errs K B E w) (j k : Nat) (hj : j ∈ K) (hk : k ∈ K) :
    Calls Tryd.prog 74 #[errV E j, errV E k] w fun e w' => e = .returned (.bool (decide (j = k))) ∧ w = w' := by
  have hq := eql_errs he hj hk
  go_enter Tryd.func74, Tryd.ntmps74
  go_wp2
  go_ret
  exact ⟨rfl, rfl⟩

def allErrs (E : Nat → Addr) : List Value := [errV E 1, errV E 2, errV E 3, errV E 4, errV E 5, errV E 6, errV E 7, errV E 8, errV E 9, errV E 10, errV E 11, errV E 12]
theorem allErrs_at (E : Nat → Addr) (i : Nat) (h : i < 12) : (allErrs E)[i]? = some (errV E (i + 1)) := by
  match i, h with
  | 0, _ => rfl
  | 1, _ => rfl
  | 2, _ => rfl
  | 3, _ => rfl
  | 4, _ => rfl
  | 5, _ => rfl
  | 6, _ => rfl
  | 7, _ => rfl
  | 8, _ => rfl
  | 9, _ => rfl
  | 10, _ => rfl
  | 11, _ => rfl

def All12 (K : List Nat) : Prop := ∀ k, 1 ≤ k → k ≤ 12 → k ∈ K

set_option maxHeartbeats 400000 in
theorem sentinels_calls {K : List Nat} {B : Nat} {E : Nat → Addr} (w : World) (he : Errs K B E w) (hK : All12 K) :
    Calls Tryd.prog 73 #[] w fun e w' => ∃ b, e = .returned (.slice (some ⟨b, 0, none⟩) 12 12) ∧ Blk w' b (allErrs E) ∧ Ext [] w w' := by
  have g1 := he.glob 1 (hK 1 (by omega) (by omega))
  have g2 := he.glob 2 (hK 2 (by omega) (by omega))
  have g3 := he.glob 3 (hK 3 (by omega) (by omega))
  have g4 := he.glob 4 (hK 4 (by omega) (by omega))
  have g5 := he.glob 5 (hK 5 (by omega) (by omega))
  have g6 := he.glob 6 (hK 6 (by omega) (by omega))
  have g7 := he.glob 7 (hK 7 (by omega) (by omega))
  have g8 := he.glob 8 (hK 8 (by omega) (by omega))
  have g9 := he.glob 9 (hK 9 (by omega) (by omega))
  have g10 := he.glob 10 (hK 10 (by omega) (by omega))
  have g11 := he.glob 11 (hK 11 (by omega) (by omega))
  have g12 := he.glob 12 (hK 12 (by omega) (by omega))
  simp only [glob] at g1 g2 g3 g4 g5 g6 g7 g8 g9 g10 g11 g12
  clear he hK
  go_enter Tryd.func73, Tryd.ntmps73
  go_wp2
  go_ret
  exact ⟨w.heap.size, rfl, Blk.new (cs := allErrs E), (Ext.refl _ _).alloc _⟩

set_option maxHeartbeats 800000 in
theorem sentinel_calls {K : List Nat} {B : Nat} {E : Nat → Addr} (w : World) (he : Errs K B E w) (hK : All12 K) (k : Nat) (h1 : 1 ≤ k) (h2 : k ≤ 12) :
    Calls Tryd.prog 67 #[errV E k] w fun e w' => e = .returned (.int .i64 (100 + k : Nat)) ∧ Ext [] w w' := by
  go_enter Tryd.func67, Tryd.ntmps67
  go_wp2_with (go_at_call 73; refine (sentinels_calls _ he hK).mono ?_; rintro e w1 ⟨b, rfl, hb, hx⟩)
  go_loop [4] (fun i => ∃ j : Nat, j < k ∧ i = .int .i64 j) (fun i => 12 - (intOf i).toNat)
  case atStart => exact ⟨0, by omega, rfl⟩
  case round =>
    obtain ⟨j, hj, rfl⟩ := hrel
    have hc := hb.cell j _ (allErrs_at E j (by omega))
    have he1 := he.ext hx (by simp)
    by_cases hjk : j + 1 = k
    · have hd : decide (k = j + 1) = true := by simp; omega
      have HJ := Lib.hid hjk; clear hjk
      go_wp2_with (go_at_call 74; refine (alike_calls _ he1 k (j + 1) (hK k h1 h2) (hK _ (by omega) (by omega))).mono ?_; rintro e w2 ⟨rfl, rfl⟩; simp only [hd])
      go_ret
      exact ⟨by have := HJ.out; subst this; go_num, hx⟩
    · have hd : decide (k = j + 1) = false := by simp; omega
      go_wp2_with (go_at_call 74; refine (alike_calls _ he1 k (j + 1) (hK k h1 h2) (hK _ (by omega) (by omega))).mono ?_; rintro e w2 ⟨rfl, rfl⟩; simp only [hd])
      go_round
      case rel => exact ⟨j + 1, by omega, by go_num⟩
      case measure => simp [intOf]; omega

@[reducible] def faultVal (code : Int) (placed : Bool) (pos : Int) : Value := .agg #[.int .i64 code, .bool placed, .int .i64 pos]
/-- The number of an error as the statements have it. -/
def codeOf (k : Nat) : Int := if k = 0 then 0 else (100 + k : Nat)

theorem none_calls (w : World) : Calls Tryd.prog 66 #[] w fun e w' => e = .returned (faultVal 0 false 0) ∧ Ext [] w w' := by
  go_enter Tryd.func66, Tryd.ntmps66
  go_wp2
  exact bodyPost_ret (v := faultVal 0 false 0) (by simp [results, Tryd.results66, go_sem]) rfl ⟨rfl, by repeat (first | exact Ext.refl _ _ | apply Ext.setCell | apply Ext.alloc | (right; simp))⟩
theorem bare_calls (w : World) (n : Int) : Calls Tryd.prog 36 #[.int .i64 n] w fun e w' => e = .returned (faultVal n false 0) ∧ Ext [] w w' := by
  go_enter Tryd.func36, Tryd.ntmps36
  go_wp2
  exact bodyPost_ret (v := faultVal n false 0) (by simp [results, Tryd.results36, go_sem]) rfl ⟨rfl, by repeat (first | exact Ext.refl _ _ | apply Ext.setCell | apply Ext.alloc | (right; simp))⟩

set_option maxHeartbeats 400000 in
theorem sameFault_calls (w : World) (a b : Int) (p q : Bool) (m n : Int) :
    Calls Tryd.prog 53 #[faultVal a p m, faultVal b q n] w fun e w' => e = .returned (.bool (a == b && p == q && m == n)) ∧ Ext [] w w' := by
  cases h1 : a == b <;> cases h2 : p == q <;> cases h3 : m == n
  all_goals
    go_enter Tryd.func53, Tryd.ntmps53
    go_wp2
    go_ret
    exact ⟨rfl, by repeat (first | exact Ext.refl _ _ | apply Ext.setCell | apply Ext.alloc | (right; simp))⟩

end Go.Proofs.YtpnjebpbglgebaaDoor
