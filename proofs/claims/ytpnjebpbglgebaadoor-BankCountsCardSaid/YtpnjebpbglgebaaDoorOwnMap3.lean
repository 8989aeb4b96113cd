/-
  The map 'own': what an entry set leaves (plain).
-/
import Derived.Test.YtpnjebpbglgebaaDoorBank7
namespace Go.Proofs.YtpnjebpbglgebaaDoor
open Go Go.RowKit

theorem ownIx_none {k i : Int} : ∀ {es : List OwnE} {n : Nat}, ownIx k i es n = none → ∀ e ∈ es, ¬ (e.kind = k ∧ e.id = i)
  | [], _, _, e, he => by cases he
  | x :: es, n, h, e, he => by
    simp only [ownIx] at h
    split at h
    · cases h
    · rename_i hx
      rcases List.mem_cons.1 he with rfl | he
      · intro hh
        exact hx (by simp [hh.1, hh.2])
      · exact ownIx_none h e he

theorem ownAt_cons (e : OwnE) (es : List OwnE) (k i : Int) : ownAt (e :: es) k i = if k = e.kind ∧ i = e.id then some (e.bank, e.ver) else ownAt es k i := by
  unfold ownAt
  by_cases h : k = e.kind ∧ i = e.id
  · rw [List.find?_cons_of_pos (by simp [h.1, h.2])]; simp [h]
  · rw [List.find?_cons_of_neg (by simpa using h), if_neg h]

theorem ownAt_append (es : List OwnE) (x : OwnE) (k i : Int) (h : ∀ e ∈ es, ¬ (e.kind = x.kind ∧ e.id = x.id)) : ownAt (es ++ [x]) k i = if k = x.kind ∧ i = x.id then some (x.bank, x.ver) else ownAt es k i := by
  induction es with
  | nil => rw [List.nil_append, ownAt_cons]
  | cons e es ih =>
    rw [List.cons_append, ownAt_cons, ownAt_cons, ih (fun y hy => h y (List.mem_cons_of_mem _ hy))]
    by_cases h1 : k = e.kind ∧ i = e.id
    · have h2 : ¬ (k = x.kind ∧ i = x.id) := fun h2 => h e (by simp) ⟨h1.1.symm.trans h2.1, h1.2.symm.trans h2.2⟩
      rw [if_pos h1, if_neg h2, if_pos h1]
    · rw [if_neg h1, if_neg h1]

theorem ownAt_modify {k i b v : Int} : ∀ {es : List OwnE} {n j : Nat} {u : Value}, ownIx k i es n = some (n + j, u) → ∀ k' i', ownAt (es.modify j fun e => { e with bank := b, ver := v }) k' i' = if k' = k ∧ i' = i then some (b, v) else ownAt es k' i'
  | [], n, j, u, h, _, _ => by simp [ownIx] at h
  | e :: es, n, j, u, h, k', i' => by
    simp only [ownIx] at h
    split at h
    · rename_i hx
      simp only [Option.some.injEq, Prod.mk.injEq] at h
      obtain rfl : j = 0 := by omega
      simp only [Bool.and_eq_true, beq_iff_eq] at hx
      rw [List.modify_zero_cons, ownAt_cons, ownAt_cons, ← hx.1, ← hx.2]
      split <;> rfl
    · rename_i hx
      obtain ⟨q, hq, -⟩ := ownIx_some h
      obtain ⟨j', rfl⟩ : ∃ j', j = j' + 1 := ⟨q, by omega⟩
      have ih := ownAt_modify (es := es) (n := n + 1) (j := j') (u := u) (b := b) (v := v) (by rw [h]; congr 2; omega) k' i'
      rw [List.modify_succ_cons, ownAt_cons, ownAt_cons, ih]
      by_cases h1 : k' = e.kind ∧ i' = e.id
      · have h2 : ¬ (k' = k ∧ i' = i) := fun h2 => hx (by simp [← h2.1, ← h2.2, h1.1, h1.2])
        rw [if_pos h1, if_neg h2, if_pos h1]
      · rw [if_neg h1, if_neg h1]

theorem ownAt_put (es : List OwnE) (clock : Nat) (k i b v k' i' : Int) : ownAt (ownPut es clock k i b v).1 k' i' = if k' = k ∧ i' = i then some (b, v) else ownAt es k' i' := by
  cases hx : ownIx k i es 0 with
  | none =>
    simp only [ownPut, hx]
    exact ownAt_append es ⟨k, i, b, v, clock⟩ k' i' (ownIx_none hx)
  | some p =>
    obtain ⟨n, u⟩ := p
    simp only [ownPut, hx]
    exact ownAt_modify (by rw [hx]; congr 2; omega) k' i'

theorem pairwise_modify {α : Type} {R : α → α → Prop} {f : α → α} (hf : ∀ a b, (R (f a) b ↔ R a b) ∧ (R a (f b) ↔ R a b)) : ∀ (l : List α) (n : Nat), l.Pairwise R → (l.modify n f).Pairwise R
  | [], n, _ => by cases n <;> simp
  | a :: l, 0, h => by
    rw [List.modify_zero_cons]
    obtain ⟨h1, h2⟩ := List.pairwise_cons.1 h
    exact List.pairwise_cons.2 ⟨fun b hb => (hf a b).1.2 (h1 b hb), h2⟩
  | a :: l, n + 1, h => by
    rw [List.modify_succ_cons]
    obtain ⟨h1, h2⟩ := List.pairwise_cons.1 h
    refine List.pairwise_cons.2 ⟨fun b hb => ?_, pairwise_modify hf l n h2⟩
    obtain ⟨q, hq, he⟩ := List.mem_iff_getElem.1 hb
    rw [List.getElem_modify] at he
    have hq' : q < l.length := by simpa using hq
    split at he
    · rw [← he]; exact (hf a _).2.2 (h1 _ (List.getElem_mem hq'))
    · rw [← he]; exact h1 _ (List.getElem_mem hq')

theorem OwnOk.put {es : List OwnE} {clock : Nat} (h : OwnOk es clock) (k i b v : Int) : OwnOk (ownPut es clock k i b v).1 (ownPut es clock k i b v).2 := by
  cases hx : ownIx k i es 0 with
  | none =>
    simp only [ownPut, hx]
    refine ⟨?_, ?_, ?_⟩
    · refine List.pairwise_append.2 ⟨h.keys, List.pairwise_singleton _ _, fun a ha c hc => ?_⟩
      simp at hc; subst hc
      exact ownIx_none hx a ha
    · refine List.pairwise_append.2 ⟨h.births, List.pairwise_singleton _ _, fun a ha c hc => ?_⟩
      simp at hc; subst hc
      have := h.before a ha
      simp only; omega
    · intro e he
      rcases List.mem_append.1 he with he | he
      · have := h.before e he; omega
      · simp at he; subst he; simp
  | some p =>
    obtain ⟨n, u⟩ := p
    simp only [ownPut, hx]
    refine ⟨pairwise_modify (fun a b => by simp) _ _ h.keys, pairwise_modify (fun a b => by simp) _ _ h.births, fun e he => ?_⟩
    obtain ⟨q, hq, he⟩ := List.mem_iff_getElem.1 he
    rw [List.getElem_modify] at he
    have hq' : q < es.length := by simpa using hq
    have := h.before _ (List.getElem_mem hq')
    split at he
    · rw [← he]; exact this
    · rw [← he]; exact this
end Go.Proofs.YtpnjebpbglgebaaDoor
