/-
  Package node: Fits, of keys that may be.
-/
import Derived.Test.YtpnjebpbglgebaaDoorSysRep
import Derived.Test.YtpnjebpbglgebaaDoorKey
import Derived.Deep.MidRow
import Derived.Test.YtpnjebpbglgebaaDoorCopyRow
namespace Go.Proofs.YtpnjebpbglgebaaDoor
open Go Go.RowKit

/-- The slice v holds the keys ks. -/
def KeysAt (w : World) (v : Value) (ks : List Key) : Prop :=
  ∃ A c, v = .slice A ks.length c ∧ (0 < ks.length → ∃ b o, A = some ⟨b, o, none⟩ ∧ ∀ (j : Nat) (u : Value), (flat Key.enc ks)[j]? = some u → w.cell? ⟨b, o + j, none⟩ = some u)
theorem KeysAt.nil (w : World) : KeysAt w (.slice none 0 0) [] := ⟨none, 0, rfl, fun h => by simp at h⟩
theorem KeysAt.ext {w w' : World} {v : Value} {ks : List Key} (h : KeysAt w v ks) (hx : Ext [] w w') : KeysAt w' v ks := by
  obtain ⟨A, c, rfl, h⟩ := h
  refine ⟨A, c, rfl, fun hp => ?_⟩
  obtain ⟨b, o, rfl, hc⟩ := h hp
  exact ⟨b, o, rfl, fun j u hu => hx.cell (hc j u hu) (by simp)⟩

/-- key.Valid finds nothing amiss. -/
def ValidOk (k : Key) : Prop := ∀ w : World, Calls Tryd.prog 52 #[k.val] w fun e w' => e = .returned .nilIface ∧ Ext [] w w'

set_option maxHeartbeats 800000 in
theorem fits_ok (w : World) (v : Value) (ks : List Key) (h : KeysAt w v ks) (hl : ks.length ≤ 16) (hv : ∀ k ∈ ks, ValidOk k) :
    Calls Tryd.prog 30 #[v] w fun e w' => e = .returned .nilIface ∧ Ext [] w w' := by
  obtain ⟨A, c, rfl, h⟩ := h
  have HV := Lib.hid hv
  have HC := Lib.hid h
  clear hv h
  go_enter Tryd.func30, Tryd.ntmps30
  go_wp2
  go_loopw [12] (fun i wr => ∃ k : Nat, k ≤ ks.length ∧ i = .int .i64 k ∧ Ext [] w wr) (fun i _ => ks.length - (intOf i).toNat)
  case atStart => exact ⟨0, by omega, rfl, Ext.refl _ _⟩
  case round =>
    obtain ⟨k, hk, rfl, hX⟩ := hrel
    by_cases hlt : k < ks.length
    · obtain ⟨b, o, rfl, hc⟩ := HC.out (by omega)
      have cc : ∀ j, j < 5 → ∀ u, (Key.enc ks[k])[j]? = some u → w.cell? ⟨b, o + (k * 5 + j), none⟩ = some u := fun j hj u hu => hc _ u (by rw [flat_get Key.len ks k j hj hlt]; exact hu)
      have c0 := hX.cell (cc 0 (by omega) _ rfl) (by simp)
      have c1 := hX.cell (cc 1 (by omega) _ rfl) (by simp)
      have c2 := hX.cell (cc 2 (by omega) _ rfl) (by simp)
      have c3 := hX.cell (cc 3 (by omega) _ rfl) (by simp)
      have c4 := hX.cell (cc 4 (by omega) _ rfl) (by simp)
      simp only [Nat.add_zero, ← Nat.add_assoc] at c0 c1 c2 c3 c4
      have HK := Lib.hid (HV.out _ (List.getElem_mem hlt))
      clear cc hc
      go_wp2_with (go_at_call 52; refine (HK.out _).mono ?_; rintro e w2 ⟨rfl, hx2⟩)
      go_roundw
      case rel => exact ⟨k + 1, by omega, by go_num, hX.trans (Ext.trans (by repeat (first | exact Ext.refl _ _ | apply Ext.setCell | apply Ext.alloc | (right; simp))) hx2)⟩
      case measure => simp [intOf]; omega
    · obtain rfl : k = ks.length := by omega
      go_wp2
      go_ret
      exact ⟨rfl, hX⟩

/-! ### Make -/
/-- The keys of a node that is made with some. -/
def padK (ks : List Key) : Vector Key 16 := Vector.ofFn fun i => ks[i.val]?.getD void
theorem padK_list (ks : List Key) (h : ks.length ≤ 16) : (padK ks).toList = ks ++ List.replicate (16 - ks.length) void := by
  apply List.ext_getElem?
  intro i
  by_cases hi : i < 16
  · simp only [padK, Vector.toList_ofFn]
    rw [List.getElem?_eq_getElem (by simpa using hi), List.getElem_ofFn]
    by_cases h2 : i < ks.length
    · rw [List.getElem?_append_left h2]; simp [List.getElem?_eq_getElem h2]
    · have hn : ks[i]? = none := List.getElem?_eq_none (by omega)
      rw [List.getElem?_append_right (by omega)]
      simp [hn, List.getElem?_replicate]; omega
  · rw [List.getElem?_eq_none (by simp; omega), List.getElem?_eq_none (by simp; omega)]

theorem Blk.setCells {w : World} {b : Nat} {cs : List Value} (h : Blk w b cs) : ∀ (vs : List Value) (o : Nat), o + vs.length ≤ cs.length → Blk (w.setCells b o vs) b (cs.take o ++ vs ++ cs.drop (o + vs.length)) := by
  intro vs
  induction vs generalizing w cs with
  | nil => intro o _; simpa [World.setCells] using h
  | cons v vs ih =>
    intro o ho
    simp only [List.length_cons] at ho
    have h1 := ih (h.setCell o v (by omega)) (o + 1) (by simp; omega)
    rw [World.setCells]
    have e := Go.list_seg_step cs o v vs (by omega)
    simp only [List.length_cons]
    rw [← e]
    exact h1
theorem Blk.setCells_other {w : World} {b c : Nat} {cs : List Value} (h : Blk w b cs) (hb : b ≠ c) : ∀ (vs : List Value) (o : Nat), Blk (w.setCells c o vs) b cs := by
  intro vs
  induction vs generalizing w with
  | nil => intro o; exact h
  | cons v vs ih => intro o; rw [World.setCells]; exact ih (h.setCell_other hb o v) (o + 1)
theorem Ext.setCells {D : List Nat} {w w' : World} (h : Ext D w w') {b : Nat} (hb : b ∈ D ∨ w.heap.size ≤ b) : ∀ (vs : List Value) (o : Nat), Ext D w (w'.setCells b o vs) := by
  intro vs
  induction vs generalizing w' with
  | nil => intro o; exact h
  | cons v vs ih => intro o; rw [World.setCells]; exact ih (h.setCell hb v) (o + 1)
theorem flat_take_drop {α : Type} {enc : α → List Value} {k : Nat} (hk : ∀ x, (enc x).length = k) (l : List α) (i : Nat) (hi : i < l.length) (y : α) :
    (flat enc l).take (i * k) ++ enc y ++ (flat enc l).drop (i * k + (enc y).length) = flat enc (l.set i y) := by
  induction l generalizing i with
  | nil => simp at hi
  | cons x l ih =>
    cases i with
    | zero => simp [flat, List.drop_append, hk]
    | succ i =>
      have h2 := ih i (by simpa using hi)
      have e : (i + 1) * k = k + i * k := by rw [Nat.succ_mul]; omega
      simp only [flat, List.flatMap_cons, List.set_cons_succ] at *
      rw [e, List.take_append, List.drop_append, hk, hk] at *
      rw [List.take_of_length_le (by rw [hk]; omega), List.drop_eq_nil_of_le (by rw [hk]; omega)]
      rw [Nat.add_sub_cancel_left, show k + i * k + k - k = i * k + k by omega, ← h2]
      simp
/-- A whole element put. -/
theorem Blk.putAll {α : Type} {enc : α → List Value} {k : Nat} (hk : ∀ x, (enc x).length = k) {w : World} {b : Nat} {l : List α} (h : Blk w b (flat enc l)) (i : Nat) (hi : i < l.length) (y : α) :
    Blk (w.setCells b (i * k) (enc y)) b (flat enc (l.set i y)) := by
  have hlt : i * k + (enc y).length ≤ (flat enc l).length := by
    rw [flat_length hk, hk]
    have : (i + 1) * k ≤ l.length * k := Nat.mul_le_mul_right _ hi
    rwa [Nat.succ_mul] at this
  have := h.setCells (enc y) (i * k) hlt
  rwa [flat_take_drop hk l i hi y] at this
theorem Blk.thereW {w : World} {b : Nat} {cs : List Value} (h : Blk w b cs) (o n : Nat) (hn : o + n ≤ cs.length) : w.there b o n := fun j hj =>
  ⟨by rw [h.cell (o + j) cs[o + j] (List.getElem?_eq_getElem (by omega))]; rfl, h.frozen _⟩
end Go.Proofs.YtpnjebpbglgebaaDoor
