/-
  Package bank: room along a chain.
-/
import Derived.Test.YtpnjebpbglgebaaDoorBank2
namespace Go.Proofs.YtpnjebpbglgebaaDoor
open Go Go.RowKit

/-- The slice v holds the numbers l. -/
def RowAt (w : World) (v : Value) (l : List Int) : Prop := ∃ A c, v = .slice A l.length c ∧ ∀ i (h : i < l.length), ∃ g, A = some ⟨g, 0, none⟩ ∧ w.cell? ⟨g, i, none⟩ = some (.int .i64 l[i])
theorem RowAt.of_own {w : World} {base : Nat} {e : TypeId} {v : Value} {l : List Int} (h : w.ownsRow base e 1 v l.length (nums .i64 l)) : RowAt w v l := by
  obtain ⟨A, c, rfl⟩ := own_slice h
  refine ⟨A, c, rfl, fun i hi => ?_⟩
  obtain ⟨g, c', hv, _, _⟩ := h.form (by omega)
  simp only [Value.slice.injEq] at hv
  obtain ⟨rfl, -, rfl⟩ := hv
  exact ⟨g, rfl, (own_blk h).cell i _ (by simp [nums, hi])⟩
theorem RowAt.ext {w w' : World} {v : Value} {l : List Int} (h : RowAt w v l) (hx : Ext [] w w') : RowAt w' v l := by
  obtain ⟨A, c, rfl, h⟩ := h
  refine ⟨A, c, rfl, fun i hi => ?_⟩
  obtain ⟨g, rfl, hc⟩ := h i hi
  exact ⟨g, rfl, hx.cell hc (by simp)⟩

theorem IsChain.mem {bp : List Place} {bs : List BankS} : ∀ {l : List Int} {id : Int}, IsChain bp bs id l → ∀ x ∈ l, there bp x = true
  | [], _, _, _, hx => by cases hx
  | y :: l, id, h, x, hx => by
    obtain ⟨rfl, ht, hc⟩ := h
    rcases List.mem_cons.1 hx with rfl | hx
    · exact ht
    · exact IsChain.mem hc x hx

/-- Numbers of banks are small. -/
def Small (M : Int) (bs : List BankS) : Prop := ∀ b ∈ bs, 0 ≤ b.limit ∧ b.limit ≤ 512 ∧ -M ≤ b.used ∧ b.used ≤ M
theorem Small.at_ {M : Int} {bs : List BankS} (h : Small M bs) (i : Nat) (hi : i < bs.length) : 0 ≤ bs[i].limit ∧ bs[i].limit ≤ 512 ∧ -M ≤ bs[i].used ∧ bs[i].used ≤ M := h _ (List.getElem_mem hi)

/-- No room for n more in bank i. -/
def tight (bs : List BankS) (n i : Int) : Bool := decide (n > (bankOf bs i).limit - (bankOf bs i).used)

set_option maxHeartbeats 800000 in
theorem room1_calls (w : World) (L : TabL) (bp : List Place) (bs : List BankS) (i n : Int) (bn bb : Nat) (h : TabRep BankS.enc w L bp bs) (hi : there bp i = true) (hM : Small 1000000000 bs)
    (hn : w.cell? ⟨bn, 0, none⟩ = some (.int .i64 n)) (hb : w.cell? ⟨bb, 0, none⟩ = some (ptr L.h)) :
    Calls Tryd.prog 63 #[.int .i64 i, ptr bn, ptr bb] w fun e w' => e = .returned (.bool (tight bs n i)) ∧ Ext [] w w' := by
  obtain ⟨cap, hh⟩ := h.hdr
  have c1 := hh.cell 1 _ rfl
  obtain ⟨hy0, hy1⟩ := there_lt hi
  obtain ⟨k, rfl⟩ := Int.eq_ofNat_of_zero_le hy0
  have hkl : k < bs.length := by have := h.len; omega
  obtain ⟨r0, r1, r2⟩ := banks_at h.rows k hkl
  have hs := hM.at_ k hkl
  have HT : Hid (tight bs n k = decide (n > bs[k].limit - bs[k].used)) := by
    show tight bs n k = _
    unfold tight; rw [bankOf_nat bs k hkl]
  clear h hM
  by_cases ht : n > bs[k].limit - bs[k].used
  · have ht' : decide (n > bs[k].limit - bs[k].used) = true := by simpa using ht
    go_enter Tryd.func63, Tryd.ntmps63
    go_wp2
    go_quiet (fail)
    go_wp2
    go_ret
    exact ⟨by rw [HT.out, ht']; first | rfl | simp [*], (Ext.refl _ _).drewN _⟩
  · have ht' : decide (n > bs[k].limit - bs[k].used) = false := by simpa using ht
    go_enter Tryd.func63, Tryd.ntmps63
    go_wp2
    go_quiet (fail)
    go_wp2
    go_ret
    exact ⟨by rw [HT.out, ht']; first | rfl | simp [*], (Ext.refl _ _).drewN _⟩
end Go.Proofs.YtpnjebpbglgebaaDoor
