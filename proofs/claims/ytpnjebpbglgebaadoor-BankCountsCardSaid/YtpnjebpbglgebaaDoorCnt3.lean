/-
  Banks that only grow: an object taken (plain).
-/
import Derived.Test.YtpnjebpbglgebaaDoorCnt2
namespace Go.Proofs.YtpnjebpbglgebaaDoor
open Go Go.RowKit

theorem there_taken (ps : List Place) (i : Nat) (hi : i < ps.length) (j : Int) : there (taken ps i) j = (decide (j = i) || there ps j) := by
  by_cases h0 : 0 ≤ j
  · obtain ⟨k, rfl⟩ := Int.eq_ofNat_of_zero_le h0
    by_cases hk : k < ps.length
    · rw [there_nat _ k (by rw [taken_length]; exact hk), there_nat _ k hk]
      by_cases e : k = i
      · subst e; simp [taken]
      · have : ¬ ((k : Int) = (i : Int)) := by omega
        simp [taken, List.getElem_set_ne (Ne.symm e), this]
    · rw [there_big _ _ (by rw [taken_length]; omega), there_big _ _ (by omega)]
      simp; omega
  · rw [there_neg _ _ h0, there_neg _ _ h0]; simp; omega
theorem verOf_taken (ps : List Place) (i : Nat) (hi : i < ps.length) (j : Int) : verOf (taken ps i) j = verOf ps j := by
  by_cases h0 : 0 ≤ j
  · obtain ⟨k, rfl⟩ := Int.eq_ofNat_of_zero_le h0
    by_cases hk : k < ps.length
    · rw [verOf_nat _ k (by rw [taken_length]; exact hk), verOf_nat _ k hk]
      by_cases e : k = i
      · subst e; simp [taken, hi]
      · simp [taken, List.getElem_set_ne (Ne.symm e)]
    · unfold verOf
      rw [if_pos h0, if_pos h0, List.getElem?_eq_none (by rw [taken_length]; omega), List.getElem?_eq_none (by omega)]
  · unfold verOf; rw [if_neg h0, if_neg h0]
theorem liveAt_taken_ne (ps : List Place) (i : Nat) (hi : i < ps.length) (j v : Int) (hj : j ≠ i) : liveAt (taken ps i) j v = liveAt ps j v := by
  unfold liveAt
  rw [there_taken ps i hi, verOf_taken ps i hi]
  simp [hj]
theorem liveAt_taken_same (ps : List Place) (i : Nat) (hi : i < ps.length) : liveAt (taken ps i) i (verOf ps i) = true := by
  unfold liveAt
  rw [there_taken ps i hi, verOf_taken ps i hi]
  simp

/-- Used by a bank and those it is within: the limits and the parents stay, the sums hold. -/
theorem Grown.use {n : Nat} {bp : List Place} {bs : List BankS} (h : Grown n bp bs) {l : List Int} (hn : l.Nodup) (h0 : ∀ x ∈ l, 0 ≤ x) : Grown n bp (useAll 1 bs l) :=
  ⟨h.pl, by rw [useAll_length]; exact h.len2, h.few, fun i hi => by rw [bankOf_useAll 1 l bs hn h0 i (by rw [h.len2]; have := h.few; omega)]; exact h.par i hi⟩

theorem lim_use {n : Nat} {B : BanksS} {M : MemS} {dp : List Place} (h : Cnt n B M dp) {id : Int} {l : List Int} (hc : ChainOf B.bp B.bs n id l) (hr : l.any (tight B.bs 1) = false) :
    ∀ x ∈ useAll 1 B.bs l, 0 ≤ x.limit ∧ x.limit ≤ 512 ∧ 0 ≤ x.used ∧ x.used ≤ x.limit := by
  intro x hx
  obtain ⟨j, hj, rfl⟩ := List.mem_iff_getElem.1 hx
  have hj8 : j < 8 := by rw [useAll_length, h.g.len2] at hj; exact hj
  have hj' : j < B.bs.length := by rw [h.g.len2]; exact hj8
  rw [← bankOf_nat _ j hj, bankOf_useAll 1 l B.bs hc.nd (fun y hy => (hc.mem y hy).1) j hj']
  have hb := h.bankLim j hj8
  by_cases hm : (j : Int) ∈ l
  · have ht : tight B.bs 1 (j : Int) = false := by
      cases ht : tight B.bs 1 (j : Int) with
      | false => rfl
      | true => rw [List.any_eq_true.2 ⟨_, hm, ht⟩] at hr; cases hr
    simp only [tight, decide_eq_false_iff_not] at ht
    simp only [hm, if_true]
    omega
  · simp only [hm, if_false]
    omega

theorem owned_tookNode {B : BanksS} {M : MemS} {dp : List Place} {i : Nat} {id : Int} {l : List Int} (ks : List Key) (hf : freeAt M.np = some i) (hfree : ∀ i : Int, there M.np i = false → ownAt B.own 2 i = none) (k : Int) :
    (ownedK (B.took 2 i id (verOf M.np i) l) (M.tookNode ks) dp k).length = (ownedK B M dp k).length + if id = k then 1 else 0 := by
  obtain ⟨hi, hi1, -⟩ := freeAt_lt hf
  have e1 : M.tookNode ks = { M with np := taken M.np i, ns := M.ns.set i (padK ks) } := by simp only [MemS.tookNode, hf]
  have ho : ∀ k' i', ownAt (B.took 2 i id (verOf M.np i) l).own k' i' = if k' = 2 ∧ i' = i then some (id, verOf M.np i) else ownAt B.own k' i' := fun k' i' => ownAt_put B.own B.clock 2 i id (verOf M.np i) k' i'
  have hnone : ownAt B.own 2 (i : Int) = none := hfree i (by rw [there_nat _ i hi]; exact hi1)
  have l2 : ∀ j v, j ≠ (i : Int) → liveK (M.tookNode ks) dp 2 j v = liveK M dp 2 j v := fun j v hj => by rw [e1]; simp only [liveK, if_true]; exact liveAt_taken_ne M.np i hi j v hj
  have l2i : liveK (M.tookNode ks) dp 2 i (verOf M.np i) = true := by rw [e1]; simp only [liveK, if_true]; exact liveAt_taken_same M.np i hi
  have l3 : ∀ q, q ≠ 2 → ∀ j v, liveK (M.tookNode ks) dp q j v = liveK M dp q j v := fun q hq j v => by rw [e1]; simp [liveK, hq]
  have hk : ∀ q, q ≠ 2 → ∀ m, ownKeys (B.took 2 i id (verOf M.np i) l).own (liveK (M.tookNode ks) dp) k q m = ownKeys B.own (liveK M dp) k q m := fun q hq m =>
    ownKeys_congr m (fun j _ => by unfold ownKey; rw [ho, if_neg (by simp [hq])]; simp only [l3 q hq])
  have h2 := ownKeys_set (es := B.own) (es' := (B.took 2 i id (verOf M.np i) l).own) (lv := liveK M dp) (lv' := liveK (M.tookNode ks) dp) (id := k) (kind := 2) (i := i) (by unfold ownKey; rw [hnone]) M.np.length
    (fun j _ hj => by
      have hji : ¬ ((j : Int) = (i : Int)) := by omega
      unfold ownKey
      rw [ho, if_neg (by simp [hji])]
      simp only [l2 j _ hji])
  have h3 : (ownKey (B.took 2 i id (verOf M.np i) l).own (liveK (M.tookNode ks) dp) k 2 i).length = if id = k then 1 else 0 := by
    unfold ownKey
    rw [ho, if_pos ⟨rfl, rfl⟩]
    simp only [l2i, and_true]
    split <;> rfl
  have ln : (M.tookNode ks).np.length = M.np.length := by rw [e1]; exact taken_length _ _
  have lp : (M.tookNode ks).pp.length = M.pp.length := by rw [e1]
  unfold ownedK
  rw [ln, lp, hk 3 (by omega), hk 4 (by omega), List.length_append, List.length_append, List.length_append, List.length_append, h2, if_pos hi, h3]
  omega

theorem Cnt.tookNode {n : Nat} {B : BanksS} {M : MemS} {dp : List Place} (h : Cnt n B M dp) {i : Nat} {id : Nat} {l : List Int} (ks : List Key) (hf : freeAt M.np = some i) (hid : id < n) (hc : ChainOf B.bp B.bs n id l) (hr : l.any (tight B.bs 1) = false) :
    Cnt n (B.took 2 i id (verOf M.np i) l) (M.tookNode ks) dp := by
  obtain ⟨hi, hi1, -⟩ := freeAt_lt hf
  have e1 : M.tookNode ks = { M with np := taken M.np i, ns := M.ns.set i (padK ks) } := by simp only [MemS.tookNode, hf]
  have h0 : ∀ x ∈ l, 0 ≤ x := fun y hy => (hc.mem y hy).1
  have ho : ∀ k' i', ownAt (B.took 2 i id (verOf M.np i) l).own k' i' = if k' = 2 ∧ i' = i then some ((id : Int), verOf M.np i) else ownAt B.own k' i' := fun k' i' => ownAt_put B.own B.clock 2 i id (verOf M.np i) k' i'
  have hlen := h.g.len2
  have hfew := h.g.few
  refine ⟨h.g.use hc.nd h0, lim_use h hc hr, fun k hk => ?_, fun j hj => ?_, fun j hj => ?_⟩
  · show (bankOf (useAll 1 B.bs l) k).used = _ + kidSum (useAll 1 B.bs l) k n
    rw [owned_tookNode ks hf h.freeN, kidSum_use B.bs k l hc.nd h0 n (by omega), kidsIn_chain h.g k (by omega) (by omega) l id hc, bankOf_useAll 1 l B.bs hc.nd h0 k (by omega)]
    have := h.sum k hk
    simp only
    rw [this]
    by_cases e : k = id
    · subst e; simp; omega
    · have e1 : ¬ ((k : Int) = (id : Int)) := by omega
      have e2 : ¬ ((id : Int) = (k : Int)) := by omega
      simp [e1, e2]; omega
  · rw [e1] at hj
    rw [there_taken M.np i hi] at hj
    simp only [Bool.or_eq_false_iff, decide_eq_false_iff_not] at hj
    rw [ho, if_neg (by simp [hj.1])]
    exact h.freeN j hj.2
  · rw [e1] at hj
    rw [ho, if_neg (by simp)]
    exact h.freeP j hj

theorem owned_tookPage {B : BanksS} {M : MemS} {dp : List Place} {i : Nat} {id : Int} {l : List Int} (ks : List Int) (hf : freeAt M.pp = some i) (hfree : ∀ i : Int, there M.pp i = false → ownAt B.own 3 i = none) (k : Int) :
    (ownedK (B.took 3 i id (verOf M.pp i) l) (M.tookPage ks) dp k).length = (ownedK B M dp k).length + if id = k then 1 else 0 := by
  obtain ⟨hi, hi1, -⟩ := freeAt_lt hf
  have e1 : M.tookPage ks = { M with pp := taken M.pp i, ps := M.ps.set i (padW ks) } := by simp only [MemS.tookPage, hf]
  have ho : ∀ k' i', ownAt (B.took 3 i id (verOf M.pp i) l).own k' i' = if k' = 3 ∧ i' = i then some (id, verOf M.pp i) else ownAt B.own k' i' := fun k' i' => ownAt_put B.own B.clock 3 i id (verOf M.pp i) k' i'
  have hnone : ownAt B.own 3 (i : Int) = none := hfree i (by rw [there_nat _ i hi]; exact hi1)
  have l2 : ∀ j v, j ≠ (i : Int) → liveK (M.tookPage ks) dp 3 j v = liveK M dp 3 j v := fun j v hj => by rw [e1]; simp only [liveK]; exact liveAt_taken_ne M.pp i hi j v hj
  have l2i : liveK (M.tookPage ks) dp 3 i (verOf M.pp i) = true := by rw [e1]; simp only [liveK]; exact liveAt_taken_same M.pp i hi
  have l3 : ∀ q, q ≠ 3 → ∀ j v, liveK (M.tookPage ks) dp q j v = liveK M dp q j v := fun q hq j v => by rw [e1]; simp [liveK, hq]
  have hk : ∀ q, q ≠ 3 → ∀ m, ownKeys (B.took 3 i id (verOf M.pp i) l).own (liveK (M.tookPage ks) dp) k q m = ownKeys B.own (liveK M dp) k q m := fun q hq m =>
    ownKeys_congr m (fun j _ => by unfold ownKey; rw [ho, if_neg (by simp [hq])]; simp only [l3 q hq])
  have h2 := ownKeys_set (es := B.own) (es' := (B.took 3 i id (verOf M.pp i) l).own) (lv := liveK M dp) (lv' := liveK (M.tookPage ks) dp) (id := k) (kind := 3) (i := i) (by unfold ownKey; rw [hnone]) M.pp.length
    (fun j _ hj => by
      have hji : ¬ ((j : Int) = (i : Int)) := by omega
      unfold ownKey
      rw [ho, if_neg (by simp [hji])]
      simp only [l2 j _ hji])
  have h3 : (ownKey (B.took 3 i id (verOf M.pp i) l).own (liveK (M.tookPage ks) dp) k 3 i).length = if id = k then 1 else 0 := by
    unfold ownKey
    rw [ho, if_pos ⟨rfl, rfl⟩]
    simp only [l2i, and_true]
    split <;> rfl
  have ln : (M.tookPage ks).pp.length = M.pp.length := by rw [e1]; exact taken_length _ _
  have lp : (M.tookPage ks).np.length = M.np.length := by rw [e1]
  unfold ownedK
  rw [ln, lp, hk 2 (by omega), hk 4 (by omega), List.length_append, List.length_append, List.length_append, List.length_append, h2, if_pos hi, h3]
  omega

theorem Cnt.tookPage {n : Nat} {B : BanksS} {M : MemS} {dp : List Place} (h : Cnt n B M dp) {i : Nat} {id : Nat} {l : List Int} (ks : List Int) (hf : freeAt M.pp = some i) (hid : id < n) (hc : ChainOf B.bp B.bs n id l) (hr : l.any (tight B.bs 1) = false) :
    Cnt n (B.took 3 i id (verOf M.pp i) l) (M.tookPage ks) dp := by
  obtain ⟨hi, hi1, -⟩ := freeAt_lt hf
  have e1 : M.tookPage ks = { M with pp := taken M.pp i, ps := M.ps.set i (padW ks) } := by simp only [MemS.tookPage, hf]
  have h0 : ∀ x ∈ l, 0 ≤ x := fun y hy => (hc.mem y hy).1
  have ho : ∀ k' i', ownAt (B.took 3 i id (verOf M.pp i) l).own k' i' = if k' = 3 ∧ i' = i then some ((id : Int), verOf M.pp i) else ownAt B.own k' i' := fun k' i' => ownAt_put B.own B.clock 3 i id (verOf M.pp i) k' i'
  have hlen := h.g.len2
  have hfew := h.g.few
  refine ⟨h.g.use hc.nd h0, lim_use h hc hr, fun k hk => ?_, fun j hj => ?_, fun j hj => ?_⟩
  · show (bankOf (useAll 1 B.bs l) k).used = _ + kidSum (useAll 1 B.bs l) k n
    rw [owned_tookPage ks hf h.freeP, kidSum_use B.bs k l hc.nd h0 n (by omega), kidsIn_chain h.g k (by omega) (by omega) l id hc, bankOf_useAll 1 l B.bs hc.nd h0 k (by omega)]
    have := h.sum k hk
    simp only
    rw [this]
    by_cases e : k = id
    · subst e; simp; omega
    · have e1 : ¬ ((k : Int) = (id : Int)) := by omega
      have e2 : ¬ ((id : Int) = (k : Int)) := by omega
      simp [e1, e2]; omega
  · rw [e1] at hj
    rw [ho, if_neg (by simp)]
    exact h.freeN j hj
  · rw [e1] at hj
    rw [there_taken M.pp i hi] at hj
    simp only [Bool.or_eq_false_iff, decide_eq_false_iff_not] at hj
    rw [ho, if_neg (by simp [hj.1])]
    exact h.freeP j hj.2
end Go.Proofs.YtpnjebpbglgebaaDoor
