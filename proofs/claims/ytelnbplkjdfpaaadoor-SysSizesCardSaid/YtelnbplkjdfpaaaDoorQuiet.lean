/-
  A region that draws its order and only reads: the kit's theorem behind a test that costs less where the region is great.
-/
import Derived.Test.YtelnbplkjdfpaaaDoorBase
namespace Go.Proofs.YtelnbplkjdfpaaaDoor
open Go Go.RowKit

/-- Each operation waits for earlier ones alone; each later one waits for it or is apart from it. -/
def qlexFrom (ops : Array Oper) : List Oper → Nat → Bool
  | [], _ => true
  | o :: l, k => o.after.all (fun e => !Region.binds .any e || Nat.blt e.on k) && l.all (fun oj => oj.after.any (fun e => Region.binds .any e && e.on == k) || o.apart ops oj) && qlexFrom ops l (k + 1)

theorem wpAnyQ_fast {P : Program} {ops : Array Oper} {C : World → Prop} {Q : Act → Prop} (hs : Region.noSelect ops = true) : ∀ (l : List Oper) (k : Nat) (listed : Array Bool) (a : Act), (∀ j, l[j]? = ops[k + j]?) → k + l.length = ops.size →
    listed.size = ops.size → (∀ j, j < ops.size → listed.getD j true = decide (j < k)) → qlexFrom ops l k = true → wpQuiet P ops C Q l a → wpAnyQ P .any ops C Q l.length listed a
  | [], k, listed, a, _, hlen, hsz, hli, _, h => by
    refine ⟨?_, h⟩
    simp only [List.length_nil, Nat.add_zero] at hlen
    unfold Region.ready
    rw [List.filter_eq_nil_iff]
    intro j hj
    have hj' := List.mem_range.1 hj
    rw [hli j hj']
    simp; intro h'; omega
  | o :: l, k, listed, a, hl, hlen, hsz, hli, hB, h => by
    have h0 : ops[k]? = some o := by simpa using (hl 0).symm
    have hk : k < ops.size := (Array.getElem?_eq_some_iff.1 h0).1
    simp only [qlexFrom, Bool.and_eq_true] at hB
    obtain ⟨⟨hr, hf⟩, hB'⟩ := hB
    have hst : qOp P ops C k (wpQuiet P ops C Q l) a := by unfold qOp; simp only [h0]; exact h
    obtain ⟨v, hy, hK⟩ := yieldsIn_of_qOp h0 hst
    have hready : k ∈ Region.ready .any ops listed := by
      unfold Region.ready
      rw [List.mem_filter]
      refine ⟨List.mem_range.2 hk, ?_⟩
      rw [hli k hk, h0]
      simp only [Nat.lt_irrefl, decide_false, Bool.not_false, Bool.true_and, Option.map_some, Option.getD_some]
      rw [Array.all_eq_true'] at hr ⊢
      intro e he
      have := hr e he
      simp only [Bool.or_eq_true, Bool.not_eq_true'] at this ⊢
      rcases this with h1 | h1
      · exact .inl h1
      · right
        have hlt : e.on < k := by simpa [Nat.blt_eq] using h1
        have := hli e.on (by omega)
        rw [show decide (e.on < k) = true by simpa using hlt] at this
        simp only [Array.getD_eq_getD_getElem?] at this ⊢
        rw [Array.getElem?_eq_getElem (by omega)] at this ⊢
        simpa using this
    refine wpAnyQ_first h0 (Region.noSelect_spec hs) l.length listed a ?_ hready hy (wpAnyQ_fast hs l (k + 1) _ _ (fun j => by have := hl (j + 1); simpa [Nat.add_assoc, Nat.add_comm 1 j] using this) (by simp at hlen; omega) (by simpa using hsz) ?_ hB' hK)
    · intro j oj hj hne hun hno
      have hj' : j < ops.size := (Array.getElem?_eq_some_iff.1 hj).1
      rw [hli j hj'] at hun
      have hkj : k < j := by simp at hun; omega
      rw [List.all_eq_true] at hf
      have hm : l[j - (k + 1)]? = some oj := by
        have := hl (j - (k + 1) + 1)
        rw [show k + (j - (k + 1) + 1) = j by omega, hj] at this
        simpa using this
      have := hf oj (List.mem_of_getElem? hm)
      simp only [Bool.or_eq_true] at this
      rcases this with h1 | h1
      · obtain ⟨e, he, hb⟩ := Array.any_eq_true'.1 h1
        simp only [Bool.and_eq_true, beq_iff_eq] at hb
        exact absurd hb.2 (hno e he hb.1)
      · exact h1
    · intro j hj
      by_cases hjk : j = k
      · subst hjk
        simp [Array.getD_eq_getD_getElem?, hsz, hj]
      · have := hli j hj
        simp only [Array.getD_eq_getD_getElem?] at this ⊢
        rw [Array.getElem?_setIfInBounds_ne (fun e => hjk e.symm), this]
        by_cases h1 : j < k
        · simp [h1]; omega
        · have : ¬ j < k + 1 := by omega
          simp [h1, this]

theorem quiet_fast {P : Program} {id : Nat} {Q : Exit → Act → World → Prop} {a : Act} {w : World} {l : List Oper} (hm : P.follows .mixedOrders = true) (hn : Region.noSelect l.toArray = true) (hB : qlexFrom l.toArray l 0 = true)
    (h : wpQuiet P l.toArray (fun w' => ∃ n, w' = w.drewN n) (fun a' => ∀ w', (∃ n, w' = w.drewN n) → Q .normal a' w') l a) : (Code.region id l.toArray true).wp P Q a w := by
  refine wp_region_any hm (wpAny_of_quiet (C := fun w' => ∃ n, w' = w.drewN n) (Q := fun a' => ∀ w', (∃ n, w' = w.drewN n) → Q .normal a' w') (fun _ w' hw' h => h w' hw') _ _ _ _ ⟨1, rfl⟩ ?_)
  have := wpAnyQ_fast (P := P) (C := fun w' => ∃ n, w' = w.drewN n) hn l 0 (Array.replicate l.toArray.size false) a (by simp) (by simp) (by simp) (by intro j hj; simp at hj; simp [Array.getD_eq_getD_getElem?, hj]) hB h
  simpa using this

end Go.Proofs.YtelnbplkjdfpaaaDoor
