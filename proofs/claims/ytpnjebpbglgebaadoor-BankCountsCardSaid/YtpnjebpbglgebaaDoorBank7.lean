/-
  Package bank: the keys to what is a bank's, of one kind.
-/
import Derived.Test.YtpnjebpbglgebaaDoorBank6
import Derived.Test.YtpnjebpbglgebaaDoorOwnMap2
namespace Go.Proofs.YtpnjebpbglgebaaDoor
open Go Go.RowKit

theorem info_key : (Tryd.prog.info? 44).map (fun i => (i.zero, i.size, i.bytes)) = some (some void.val, 5, 40) := by kernel_rfl

def ownAt (es : List OwnE) (k i : Int) : Option (Int × Int) := (es.find? fun e => k == e.kind && i == e.id).map fun e => (e.bank, e.ver)
theorem ownIx_at (k i : Int) : ∀ (es : List OwnE) (n : Nat), (ownIx k i es n).map (·.2) = (ownAt es k i).map fun p => thing p.1 p.2
  | [], _ => rfl
  | e :: es, n => by
    have h := ownIx_at k i es (n + 1)
    by_cases hk : (k == e.kind && i == e.id) = true
    · simp only [ownIx, if_pos hk, ownAt, List.find?_cons_of_pos (p := fun e : OwnE => k == e.kind && i == e.id) hk]; rfl
    · simp only [ownIx, if_neg hk, ownAt, List.find?_cons_of_neg (p := fun e : OwnE => k == e.kind && i == e.id) hk]; exact h
theorem ownGet_some {es : List OwnE} {k i b v : Int} (h : ownAt es k i = some (b, v)) : ownGet es k i = (thing b v, true) := by
  have := ownIx_at k i es 0
  rw [h] at this
  unfold ownGet
  cases hx : ownIx k i es 0 with
  | none => rw [hx] at this; simp at this
  | some p => rw [hx] at this; simp at this; rw [← this]
theorem ownGet_none {es : List OwnE} {k i : Int} (h : ownAt es k i = none) : ownGet es k i = (thing 0 0, false) := by
  have := ownIx_at k i es 0
  rw [h] at this
  unfold ownGet
  cases hx : ownIx k i es 0 with
  | none => rfl
  | some p => rw [hx] at this; simp at this

/-- The key to object i of a kind, if it is the bank's and live. -/
def ownKey (es : List OwnE) (live : Int → Int → Int → Bool) (id kind : Int) (i : Nat) : List Key :=
  match ownAt es kind i with
  | some (b, v) => if b = id ∧ live kind i v = true then [⟨kind, i, v, 0, 0⟩] else []
  | none => []
def ownKeys (es : List OwnE) (live : Int → Int → Int → Bool) (id kind : Int) (n : Nat) : List Key := (List.range n).flatMap (ownKey es live id kind)
theorem ownKeys_succ (es : List OwnE) (live : Int → Int → Int → Bool) (id kind : Int) (n : Nat) : ownKeys es live id kind (n + 1) = ownKeys es live id kind n ++ ownKey es live id kind n := by simp [ownKeys, List.range_succ]
theorem ownKeys_le (es : List OwnE) (live : Int → Int → Int → Bool) (id kind : Int) : ∀ n, (ownKeys es live id kind n).length ≤ n
  | 0 => by simp [ownKeys]
  | n + 1 => by
    rw [ownKeys_succ, List.length_append]
    have := ownKeys_le es live id kind n
    have : (ownKey es live id kind n).length ≤ 1 := by unfold ownKey; split <;> (try split) <;> simp
    omega
end Go.Proofs.YtpnjebpbglgebaaDoor
