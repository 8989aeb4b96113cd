/-
  append of one own row to another.
-/
import Derived.Test.YtpnjebpbglgebaaDoorGrow
import Derived.Laws.AppendOwnNone
namespace Go.Proofs.YtpnjebpbglgebaaDoor
open Go Go.RowKit

section
variable {P : Program} {ops : Array Oper} {rest : List Oper} {o : Oper} {a : Act} {Q : Exit → Act → World → Prop}
theorem append_row {W : World} (base base2 : Nat) (hgd : o.guard = none) (s x : Operand) (t e : TypeId) (z : Value) (size bytes : Nat)
    (ho : o.op = .call { callee := .builtin .append, args := #[s, x], argTypes := #[t, t] })
    (ht : P.underlying t = some (.slice e)) (hinfo : (P.info? e).map (fun i => (i.zero, i.size, i.bytes)) = some (some z, size, bytes)) (hz : z.cells.size = size) (hsz : 0 < size) (hb0 : 0 < bytes)
    (v : Value) (n : Nat) (xs : List Value) (v2 : Value) (m : Nat) (ys : List Value) (hs : a.eval s = v) (hx : a.eval x = v2) (h1 : ∀ u ∈ ys, u.oneCell' = true)
    (HO : W.ownsRow base e size v n xs) (HO2 : W.ownsRow base2 e size v2 m ys) (hbase : base ≤ W.heap.size) (hl : (n + m) * bytes ≤ 140737488355328)
    (h : ∀ v' w1, w1.ownsRow base e size v' (n + m) (xs ++ ys) → W.grownBy w1 v.ownBlock → wpList P ops Q rest (a.put o.dst v') w1) :
    wpList P ops Q (o :: rest) a W := by
  obtain ⟨i0, hi, hzz⟩ := Option.map_eq_some_iff.1 hinfo
  simp only [Prod.mk.injEq] at hzz
  obtain ⟨hz0, hz1, hz2⟩ := hzz
  have hlen : n + m ≤ 140737488355328 := Nat.le_trans (Nat.le_mul_of_pos_right _ hb0) hl
  rcases HO2.2 with ⟨rfl, rfl⟩ | ⟨g, cap, cur, rfl, hg, hh, hn, hc, hsize, htk⟩
  · obtain rfl : ys = [] := List.length_eq_zero_iff.1 (by simpa using HO2.1)
    refine wpList_append_own_none hgd s x t ho base e i0 size ht hi v n xs hs HO hx ?_
    exact h v W (by simpa using HO) (World.grownBy.refl W _)
  · refine wpList_append_own W hgd s x t ho base e i0 z size bytes ht hi hz0 hz1 hz2 hz hsz v n xs hs HO ⟨g, 0, none⟩ m cap ys hx HO2.1 ?_ h1 (by simp only [maxLen]; omega) hl hbase (fun v' w' h2 h3 _ => h v' w' h2 h3)
    intro j u hu
    have hb := own_blk HO2
    have := hb.cell j u hu
    rwa [show (⟨g, 0, none⟩ : Addr).add j = ⟨g, j, none⟩ by by_cases h0 : j = 0 <;> simp [Addr.add, h0]]
end
end Go.Proofs.YtpnjebpbglgebaaDoor
