/-
  Banks that only grow: chains, sums (plain).
-/
import Derived.Test.YtpnjebpbglgebaaDoorBank5
namespace Go.Proofs.YtpnjebpbglgebaaDoor
open Go Go.RowKit

/-- What those within bank k use, of the first n. -/
def kidSum (bs : List BankS) (k : Int) : Nat → Int
  | 0 => 0
  | j + 1 => kidSum bs k j + if (bankOf bs j).parent = k then (bankOf bs j).used else 0
/-- How many of the first n are within k and in a list. -/
def kidsIn (bs : List BankS) (k : Int) (l : List Int) : Nat → Int
  | 0 => 0
  | j + 1 => kidsIn bs k l j + if (bankOf bs j).parent = k ∧ (j : Int) ∈ l then 1 else 0

/-- Eight places, the first n taken for the first time. -/
def places (n : Nat) : List Place := List.replicate n ⟨true, 0, false⟩ ++ List.replicate (8 - n) default
theorem places_len (n : Nat) (h : n ≤ 8) : (places n).length = 8 := by simp [places]; omega
theorem there_places (n : Nat) (h : n ≤ 8) (i : Int) : there (places n) i = (decide (0 ≤ i) && decide (i < n)) := by
  by_cases h0 : 0 ≤ i
  · obtain ⟨k, rfl⟩ := Int.eq_ofNat_of_zero_le h0
    by_cases hk : k < 8
    · rw [there_nat _ k (by rw [places_len n h]; exact hk)]
      by_cases hn : k < n
      · simp [places, List.getElem_append, hn]
      · simp [places, List.getElem_append, hn, default]
    · rw [there_big _ _ (by rw [places_len n h]; omega)]
      simp; omega
  · rw [there_neg _ _ h0]; simp [h0]
theorem free_places (n : Nat) (h : n < 8) : freeAt (places n) = some n :=
  match n, h with | 0, _ => rfl | 1, _ => rfl | 2, _ => rfl | 3, _ => rfl | 4, _ => rfl | 5, _ => rfl | 6, _ => rfl | 7, _ => rfl
theorem taken_places (n : Nat) (h : n < 8) : taken (places n) n = places (n + 1) :=
  match n, h with | 0, _ => rfl | 1, _ => rfl | 2, _ => rfl | 3, _ => rfl | 4, _ => rfl | 5, _ => rfl | 6, _ => rfl | 7, _ => rfl

/-- The first n banks are there, each within an earlier one or none. -/
structure Grown (n : Nat) (bp : List Place) (bs : List BankS) : Prop where
  pl : bp = places n
  len2 : bs.length = 8
  few : n ≤ 8
  par : ∀ i : Nat, i < n → -1 ≤ (bankOf bs i).parent ∧ (bankOf bs i).parent < i
theorem Grown.thr {n : Nat} {bp : List Place} {bs : List BankS} (h : Grown n bp bs) (i : Int) : there bp i = (decide (0 ≤ i) && decide (i < n)) := by rw [h.pl]; exact there_places n h.few i

structure ChainOf (bp : List Place) (bs : List BankS) (n : Nat) (id : Int) (l : List Int) : Prop where
  is : IsChain bp bs id l
  nd : l.Nodup
  mem : ∀ x ∈ l, 0 ≤ x ∧ x ≤ id ∧ x < n

theorem Grown.chain {n : Nat} {bp : List Place} {bs : List BankS} (h : Grown n bp bs) : ∀ (m : Nat) (id : Int), id < m → m ≤ n → -1 ≤ id → ∃ l, ChainOf bp bs n id l ∧ l.length ≤ m
  | 0, id, h1, _, h2 => ⟨[], ⟨by show there bp id = false; rw [h.thr]; simp; omega, by simp, by simp⟩, by simp⟩
  | m + 1, id, h1, hm, h2 => by
    by_cases h0 : 0 ≤ id
    · obtain ⟨i, rfl⟩ := Int.eq_ofNat_of_zero_le h0
      obtain ⟨p1, p2⟩ := h.par i (by omega)
      obtain ⟨l, ⟨hc, hn, hx⟩, hl⟩ := Grown.chain h m (bankOf bs i).parent (by omega) (by omega) p1
      refine ⟨(i : Int) :: l, ⟨⟨rfl, by rw [h.thr]; simp; omega, hc⟩, List.nodup_cons.2 ⟨fun hm => ?_, hn⟩, fun x hm => ?_⟩, by simpa using hl⟩
      · have := (hx _ hm).2.1; omega
      · rcases List.mem_cons.1 hm with rfl | hm
        · exact ⟨by omega, by omega, by omega⟩
        · have := hx _ hm; exact ⟨this.1, by omega, this.2.2⟩
    · exact ⟨[], ⟨by show there bp id = false; rw [h.thr]; simp; omega, by simp, by simp⟩, by simp⟩

theorem bankOf_useOne (n : Int) (bs : List BankS) (i j : Nat) (hj : j < bs.length) :
    bankOf (useOne n bs i) j = { bankOf bs j with used := (bankOf bs j).used + if i = j then n else 0 } := by
  have hj' : j < (useOne n bs i).length := by rw [useOne_length]; exact hj
  rw [bankOf_nat _ j hj', bankOf_nat _ j hj]
  by_cases h : i = j
  · subst h
    simp [useOne, bankOf_nat _ i hj]
  · simp [useOne, h, List.getElem_set_ne]

theorem bankOf_useAll (n : Int) : ∀ (l : List Int) (bs : List BankS), l.Nodup → (∀ x ∈ l, 0 ≤ x) → ∀ j : Nat, j < bs.length →
    bankOf (useAll n bs l) j = { bankOf bs j with used := (bankOf bs j).used + if (j : Int) ∈ l then n else 0 }
  | [], bs, _, _, j, _ => by simp [useAll]
  | x :: l, bs, hn, hx, j, hj => by
    obtain ⟨i, rfl⟩ := Int.eq_ofNat_of_zero_le (hx x (by simp))
    obtain ⟨h1, h2⟩ := List.nodup_cons.1 hn
    have ih := bankOf_useAll n l (useOne n bs i) h2 (fun y hy => hx y (List.mem_cons_of_mem _ hy)) j (by rw [useOne_length]; exact hj)
    have e : useAll n bs ((i : Int) :: l) = useAll n (useOne n bs i) l := rfl
    rw [e, ih, bankOf_useOne n bs i j hj]
    by_cases h : i = j
    · subst h
      simp [h1]
    · have : ¬ ((j : Int) = (i : Int)) := by omega
      simp [h, this]

theorem kidsIn_nil (bs : List BankS) (k : Int) : ∀ n, kidsIn bs k [] n = 0
  | 0 => rfl
  | n + 1 => by simp [kidsIn, kidsIn_nil bs k n]
theorem kidsIn_cons (bs : List BankS) (k : Int) (l : List Int) (i : Nat) (hi : (i : Int) ∉ l) : ∀ n, kidsIn bs k ((i : Int) :: l) n = kidsIn bs k l n + if i < n ∧ (bankOf bs i).parent = k then 1 else 0
  | 0 => by simp [kidsIn]
  | n + 1 => by
    have ih := kidsIn_cons bs k l i hi n
    simp only [kidsIn]
    rw [ih]
    by_cases h : n = i
    · subst h
      by_cases hp : (bankOf bs n).parent = k <;> simp [hi, hp]
    · have h1 : ¬ ((n : Int) = (i : Int)) := by omega
      have h2 : (i < n + 1) = (i < n) := by simp; omega
      simp only [List.mem_cons, h1, false_or, h2]
      omega

theorem chain_le {n : Nat} {bp : List Place} {bs : List BankS} (h : Grown n bp bs) : ∀ {l : List Int} {id : Int}, IsChain bp bs id l → ∀ x ∈ l, x ≤ id
  | [], _, _, _, hx => by cases hx
  | y :: l, id, hc, x, hx => by
    obtain ⟨rfl, ht, hi⟩ := hc
    rcases List.mem_cons.1 hx with rfl | hx
    · omega
    · have h3 := chain_le h hi x hx
      rw [h.thr] at ht
      simp at ht
      obtain ⟨i, rfl⟩ := Int.eq_ofNat_of_zero_le ht.1
      have := (h.par i (by omega)).2
      omega
theorem kidsIn_chain {n : Nat} {bp : List Place} {bs : List BankS} (h : Grown n bp bs) (k : Int) (h0 : 0 ≤ k) (hk : k < n) : ∀ (l : List Int) (id : Int), ChainOf bp bs n id l →
    kidsIn bs k l n = (if k ∈ l then 1 else 0) - (if k = id then 1 else 0)
  | [], id, hc => by
    have ht : there bp id = false := hc.is
    rw [h.thr] at ht
    have : ¬ k = id := by rintro rfl; simp at ht; omega
    simp [kidsIn_nil, this]
  | x :: l, id, hc => by
    obtain ⟨rfl, ht, hi⟩ := hc.is
    obtain ⟨hx0, -, hxn⟩ := hc.mem x (by simp)
    obtain ⟨i, rfl⟩ := Int.eq_ofNat_of_zero_le hx0
    obtain ⟨h1, h2⟩ := List.nodup_cons.1 hc.nd
    have hin : i < n := by omega
    have hpar := h.par i hin
    have hc' : ChainOf bp bs n (bankOf bs i).parent l := by
      refine ⟨hi, h2, fun x hx => ?_⟩
      have hm := hc.mem x (by simp [hx])
      refine ⟨hm.1, ?_, hm.2.2⟩
      exact chain_le h hi x hx
    have ih := kidsIn_chain h k h0 hk l _ hc'
    rw [kidsIn_cons bs k l i h1 n, ih]
    by_cases hki : k = (i : Int)
    · have hp : ¬ ((bankOf bs i).parent = k) := by omega
      have hp' : ¬ (k = (bankOf bs i).parent) := by omega
      subst hki
      simp [h1, hp, hp']
    · by_cases hp : (bankOf bs i).parent = k
      · simp [hki, hp, hin]
      · have hp' : ¬ (k = (bankOf bs i).parent) := fun e => hp e.symm
        simp [hki, hp, hp']
theorem kidSum_use (bs : List BankS) (k : Int) (l : List Int) (hn : l.Nodup) (h0 : ∀ x ∈ l, 0 ≤ x) : ∀ n, n ≤ bs.length → kidSum (useAll 1 bs l) k n = kidSum bs k n + kidsIn bs k l n
  | 0, _ => by simp [kidSum, kidsIn]
  | n + 1, hl => by
    have ih := kidSum_use bs k l hn h0 n (by omega)
    simp only [kidSum, kidsIn]
    rw [ih, bankOf_useAll 1 l bs hn h0 n (by omega)]
    by_cases hp : (bankOf bs n).parent = k <;> by_cases hm : (n : Int) ∈ l <;> simp [hp, hm] <;> omega
end Go.Proofs.YtpnjebpbglgebaaDoor
