/-
  Banks that only grow: what is kept true (plain).
-/
import Derived.Test.YtpnjebpbglgebaaDoorCnt1
import Derived.Test.YtpnjebpbglgebaaDoorBankPage
namespace Go.Proofs.YtpnjebpbglgebaaDoor
open Go Go.RowKit

structure Cnt (n : Nat) (B : BanksS) (M : MemS) (dp : List Place) : Prop where
  g : Grown n B.bp B.bs
  lim : ∀ x ∈ B.bs, 0 ≤ x.limit ∧ x.limit ≤ 512 ∧ 0 ≤ x.used ∧ x.used ≤ x.limit
  sum : ∀ k : Nat, k < n → (bankOf B.bs k).used = ((ownedK B M dp k).length : Nat) + kidSum B.bs k n
  freeN : ∀ i : Int, there M.np i = false → ownAt B.own 2 i = none
  freeP : ∀ i : Int, there M.pp i = false → ownAt B.own 3 i = none

theorem Cnt.small {n : Nat} {B : BanksS} {M : MemS} {dp : List Place} (h : Cnt n B M dp) : Small 100000 B.bs := fun b hb => by have := h.lim b hb; omega
theorem Cnt.bankLim {n : Nat} {B : BanksS} {M : MemS} {dp : List Place} (h : Cnt n B M dp) (j : Nat) (hj : j < 8) : 0 ≤ (bankOf B.bs j).limit ∧ (bankOf B.bs j).limit ≤ 512 ∧ 0 ≤ (bankOf B.bs j).used ∧ (bankOf B.bs j).used ≤ (bankOf B.bs j).limit := by
  have hl : j < B.bs.length := by rw [h.g.len2]; exact hj
  rw [bankOf_nat _ j hl]
  exact h.lim _ (List.getElem_mem hl)

theorem ownKeys_nil (lv : Int → Int → Int → Bool) (id kind : Int) : ∀ n, ownKeys [] lv id kind n = []
  | 0 => rfl
  | n + 1 => by rw [ownKeys_succ, ownKeys_nil lv id kind n]; rfl
theorem ownKeys_congr {es es' : List OwnE} {lv lv' : Int → Int → Int → Bool} {id kind : Int} : ∀ n, (∀ j, j < n → ownKey es' lv' id kind j = ownKey es lv id kind j) → ownKeys es' lv' id kind n = ownKeys es lv id kind n
  | 0, _ => rfl
  | n + 1, h => by rw [ownKeys_succ, ownKeys_succ, ownKeys_congr n (fun j hj => h j (by omega)), h n (by omega)]
theorem ownKeys_set {es es' : List OwnE} {lv lv' : Int → Int → Int → Bool} {id kind : Int} {i : Nat} (h0 : ownKey es lv id kind i = []) : ∀ n, (∀ j, j < n → j ≠ i → ownKey es' lv' id kind j = ownKey es lv id kind j) →
    (ownKeys es' lv' id kind n).length = (ownKeys es lv id kind n).length + if i < n then (ownKey es' lv' id kind i).length else 0
  | 0, _ => by simp [ownKeys]
  | n + 1, h => by
    have ih := ownKeys_set h0 n (fun j hj => h j (by omega))
    rw [ownKeys_succ, ownKeys_succ, List.length_append, List.length_append, ih]
    by_cases hn : n = i
    · subst hn
      simp [h0]
    · rw [h n (by omega) hn]
      have : (i < n + 1) = (i < n) := by simp; omega
      simp only [this]
      omega

/-! ### A bank made -/
theorem kidSum_set (bs : List BankS) (x : BankS) (m : Nat) (k : Int) : ∀ n, n ≤ m → m < bs.length → kidSum (bs.set m x) k n = kidSum bs k n
  | 0, _, _ => rfl
  | n + 1, h, hl => by
    have e : bankOf (bs.set m x) n = bankOf bs n := by
      rw [bankOf_nat _ n (by simp; omega), bankOf_nat _ n (by omega), List.getElem_set_ne (by omega)]
    simp only [kidSum, kidSum_set bs x m k n (by omega) hl, e]
theorem kidSum_zero (bs : List BankS) (k : Int) : ∀ n : Nat, (∀ j : Nat, j < n → (bankOf bs j).parent ≠ k) → kidSum bs k n = 0
  | 0, _ => rfl
  | n + 1, h => by simp [kidSum, kidSum_zero bs k n (fun j hj => h j (by omega)), h n (by omega)]
theorem bankOf_set_same (bs : List BankS) (x : BankS) (m : Nat) (h : m < bs.length) : bankOf (bs.set m x) m = x := by rw [bankOf_nat _ m (by simpa using h)]; simp
theorem bankOf_set_ne (bs : List BankS) (x : BankS) (m j : Nat) (h : j ≠ m) : bankOf (bs.set m x) j = bankOf bs j := by simp [bankOf, List.getElem?_set_ne (Ne.symm h)]

theorem Cnt.made {n : Nat} {B : BanksS} {M : MemS} {dp : List Place} (h : Cnt n B M dp) (h0 : B.own = []) (hn : n < 8) (parent limit : Int) (hp : -1 ≤ parent ∧ parent < n) (hl : 0 ≤ limit ∧ limit ≤ 512) : Cnt (n + 1) (B.made n parent limit) M dp := by
  have hb : n < B.bs.length := by rw [h.g.len2]; exact hn
  refine ⟨⟨?_, by simpa [BanksS.made] using h.g.len2, hn, fun i hi => ?_⟩, ?_, ?_, fun i _ => by simp [BanksS.made, h0, ownAt], fun i _ => by simp [BanksS.made, h0, ownAt]⟩
  · show taken B.bp n = _
    rw [h.g.pl]; exact taken_places n hn
  · show -1 ≤ (bankOf (B.bs.set n ⟨parent, limit, 0⟩) i).parent ∧ (bankOf (B.bs.set n ⟨parent, limit, 0⟩) i).parent < i
    by_cases e : i = n
    · subst e; rw [bankOf_set_same _ _ _ hb]; exact hp
    · rw [bankOf_set_ne _ _ _ _ e]; exact h.g.par i (by omega)
  · intro x hx
    rcases List.mem_or_eq_of_mem_set hx with hx | hx
    · exact h.lim x hx
    · subst hx; exact ⟨hl.1, hl.2, by simp, hl.1⟩
  · intro k hk
    show (bankOf (B.bs.set n ⟨parent, limit, 0⟩) k).used = _ + kidSum (B.bs.set n ⟨parent, limit, 0⟩) k (n + 1)
    have ho : ∀ id : Int, (ownedK (B.made n parent limit) M dp id).length = 0 := fun id => by simp [ownedK, BanksS.made, h0, ownKeys_nil]
    have ho' : ∀ id : Int, (ownedK B M dp id).length = 0 := fun id => by simp [ownedK, h0, ownKeys_nil]
    rw [ho]
    by_cases e : k = n
    · subst e
      rw [bankOf_set_same _ _ _ hb, kidSum_zero]
      · rfl
      · intro j hj
        by_cases e : j = k
        · subst e; rw [bankOf_set_same _ _ _ hb]; simp only; omega
        · rw [bankOf_set_ne _ _ _ _ e]; have := (h.g.par j (by omega)).2; omega
    · rw [bankOf_set_ne _ _ _ _ e, h.sum k (by omega), ho']
      simp only [kidSum, kidSum_set B.bs _ n k n (by omega) hb, bankOf_set_same _ _ _ hb]
      simp

theorem cnt_new : Cnt 0 (BanksS.new 8) (MemS.new 30 30 4) (List.replicate 8 default) :=
  ⟨⟨rfl, rfl, by omega, fun i hi => by omega⟩, by intro x hx; obtain ⟨-, rfl⟩ := List.mem_replicate.1 hx; decide, fun k hk => by omega, fun i _ => rfl, fun i _ => rfl⟩
end Go.Proofs.YtpnjebpbglgebaaDoor
