/-
  The package-level errors of package api, as they lie in memory.
-/
import Derived.Test.YtgpmhfbkgcljbaaDoorBase
import Derived.Test.YtgpmhfbkgcljbaaDoorProg
namespace Go.Proofs.YtgpmhfbkgcljbaaDoor
open Go Go.RowKit

/-- The variable of error number k. -/
def glob : Nat → Nat
  | 1 => 2
  | 2 => 3
  | 3 => 1
  | 4 => 4
  | 5 => 5
  | 6 => 6
  | 7 => 7
  | 8 => 8
  | 9 => 9
  | 10 => 10
  | 11 => 0
  | 12 => 11
  | _ => 0

/-- The value of error number k; E k is the address behind it. -/
@[reducible] def errV (E : Nat → Addr) (k : Nat) : Value := .iface 120 (.pointer (some (E k)))
/-- The value of error number k, where 0 is none. -/
def errO (E : Nat → Addr) (k : Nat) : Value := if k = 0 then .nilIface else errV E k
theorem errO_zero (E : Nat → Addr) : errO E 0 = .nilIface := rfl
theorem errO_pos (E : Nat → Addr) {k : Nat} (h : k ≠ 0) : errO E k = errV E k := if_neg h

/-- The errors of the numbers in K lie in memory below B, each at its own address. -/
structure Errs (K : List Nat) (B : Nat) (E : Nat → Addr) (w : World) : Prop where
  size : B ≤ w.heap.size
  glob : ∀ k ∈ K, w.cell? ⟨glob k, 0, none⟩ = some (errV E k)
  globLt : ∀ k ∈ K, Go.Proofs.YtgpmhfbkgcljbaaDoor.glob k < B
  lt : ∀ k ∈ K, (E k).block < B
  blk : ∀ k ∈ K, ∃ s T, w.heap[(E k).block]? = some (.cells s T (0, 0))
  inj : ∀ j ∈ K, ∀ k ∈ K, E j = E k → j = k

theorem Errs.ext {K : List Nat} {B : Nat} {E : Nat → Addr} {D : List Nat} {w w' : World} (h : Errs K B E w) (hx : Ext D w w') (hd : ∀ b ∈ D, B ≤ b) : Errs K B E w' :=
  have nd : ∀ {b}, b < B → b ∉ D := fun hb hm => absurd hb (Nat.not_lt.2 (hd _ hm))
  { size := Nat.le_trans h.size hx.size
    glob := fun k hk => hx.cell (h.glob k hk) (nd (h.globLt k hk))
    globLt := h.globLt
    lt := h.lt
    blk := fun k hk => by obtain ⟨s, T, e⟩ := h.blk k hk; exact ⟨s, T, hx.same e (nd (h.lt k hk))⟩
    inj := h.inj }
theorem Errs.drewN {K : List Nat} {B : Nat} {E : Nat → Addr} {w : World} (h : Errs K B E w) (n : Nat) : Errs K B E (w.drewN n) :=
  h.ext ((Ext.refl [] w).drewN n) (fun _ hb => by cases hb)

end Go.Proofs.YtgpmhfbkgcljbaaDoor
