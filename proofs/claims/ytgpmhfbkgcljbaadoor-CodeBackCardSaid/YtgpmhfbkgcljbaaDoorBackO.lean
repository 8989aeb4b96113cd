/-
  What CodeBack's row lists: the tables, and an instruction opened.
-/
import Derived.Test.YtgpmhfbkgcljbaaDoorLaid
import Derived.Test.YtgpmhfbkgcljbaaDoorBack2
import Derived.Test.YtgpmhfbkgcljbaaDoorBack3
import Derived.Test.YtgpmhfbkgcljbaaDoorBack4
import Derived.Lib.SmallJoins
import Derived.DataShut
namespace Go.Proofs.YtgpmhfbkgcljbaaDoor
open Go Go.RowKit Go.ChangeShapes Go.WideShapes Go.Joins Go.Deep

section
variable {H : Type} {enc : TypeId × Value → H} {P : Program} {w : World} {base : Nat} {spare : Nat → Bool} {held : Bool}
theorem open_agg5 {r : Reach} {b0 : Nat} {t : TypeId} {f0 f1 f2 f3 f4 : Field} {v : Value} {d : DataW H} {p : List MemPlace} (hs : P.underlying t = some (.struct #[f0, f1, f2, f3, f4])) (hone : oneCellFields P #[f0, f1, f2, f3, f4] = true) (hC : P.cellsOf t = 5)
    (hv : Value.okWide P w r b0 t v) (h : DataW.Trod enc P w base spare held t v d p) :
    ∃ (v0 v1 v2 v3 v4 : Value) (y0 y1 y2 y3 y4 : DataW H × List MemPlace) (n : Nat), v = .agg #[v0, v1, v2, v3, v4] ∧
      DataW.trod enc P w base spare held n f0.type [v0] = some y0 ∧ DataW.trod enc P w base spare held n f1.type [v1] = some y1 ∧ DataW.trod enc P w base spare held n f2.type [v2] = some y2 ∧ DataW.trod enc P w base spare held n f3.type [v3] = some y3 ∧ DataW.trod enc P w base spare held n f4.type [v4] = some y4 := by
  obtain ⟨cs, rfl, hsz⟩ := okWide_struct hs hv
  obtain ⟨l⟩ := cs
  match l, hsz.trans hC with
  | [c0, c1, c2, c3, c4], _ =>
    obtain ⟨fuel, hf⟩ := h
    obtain ⟨xs, n, _, hx, _, hlen, hg⟩ := DataW.trod_struct hs hf
    obtain ⟨o0, k0⟩ := hone_of hone 0 f0 rfl
    obtain ⟨o1, k1⟩ := hone_of hone 1 f1 rfl
    obtain ⟨o2, k2⟩ := hone_of hone 2 f2 rfl
    obtain ⟨o3, k3⟩ := hone_of hone 3 f3 rfl
    obtain ⟨o4, k4⟩ := hone_of hone 4 f4 rfl
    match xs, hlen with
    | [y0, y1, y2, y3, y4], _ =>
      exact ⟨c0, c1, c2, c3, c4, y0, y1, y2, y3, y4, n, rfl, by simpa [Value.cells, o0, k0] using hg 0 f0 rfl, by simpa [Value.cells, o1, k1] using hg 1 f1 rfl, by simpa [Value.cells, o2, k2] using hg 2 f2 rfl, by simpa [Value.cells, o3, k3] using hg 3 f3 rfl, by simpa [Value.cells, o4, k4] using hg 4 f4 rfl⟩
end

set_option maxRecDepth 100000 in
theorem openI {H : Type} {enc : TypeId × Value → H} {W : World} {base : Nat} {v : Value} {d : DataW H} {p : List MemPlace} (hval : Value.okWide Tryd.prog W .any base 23 v)
    (h : DataW.Trod enc Tryd.prog W 0 (fun _ => true) true 23 v d p) : ∃ i : Ins, v = i.val := by
  obtain ⟨v0, v1, v2, v3, v4, y0, y1, y2, y3, y4, n, rfl, h0, h1, h2, h3, h4⟩ := open_agg5 Tryd.underlying23 (by kernel_rfl) (by kernel_rfl) hval h
  obtain ⟨z0, e0, -, -⟩ := DataW.trod_int (k := .i64) Tryd.underlying3 h0
  obtain ⟨z1, e1, -, -⟩ := DataW.trod_int (k := .i64) Tryd.underlying3 h1
  obtain ⟨z2, e2, -, -⟩ := DataW.trod_int (k := .i64) Tryd.underlying3 h2
  obtain ⟨z3, e3, -, -⟩ := DataW.trod_int (k := .i64) Tryd.underlying3 h3
  obtain ⟨z4, e4, -, -⟩ := DataW.trod_int (k := .i64) Tryd.underlying3 h4
  simp only [List.cons.injEq, and_true] at e0 e1 e2 e3 e4
  subst e0 e1 e2 e3 e4
  exact ⟨⟨z0, z1, z2, z3, z4⟩, rfl⟩

set_option maxRecDepth 100000 in
theorem openU {H : Type} {enc : TypeId × Value → H} {W : World} {base : Nat} {v : Value} {d : DataW H} {p : List MemPlace} (hval : Value.okWide Tryd.prog W .any base 24 v)
    (h : DataW.Trod enc Tryd.prog W 0 (fun _ => true) true 24 v d p) : ∃ x : Nat, x < 4294967296 ∧ v = .int .u32 x := by
  obtain ⟨n, rfl, -, -, hw⟩ := open_int (k := .u32) Tryd.underlying24 hval h
  obtain ⟨h0, h1⟩ := (Lit.wf_int_iff _ _).1 hw
  simp [IntKind.min, IntKind.max, IntKind.signed, IntKind.bits] at h0 h1
  obtain ⟨x, rfl⟩ := Int.eq_ofNat_of_zero_le h0
  exact ⟨x, by omega, rfl⟩

theorem back_calls {K : List Nat} {B : Nat} {E : Nat → Addr} (w : World) (i j : Ins) (x : Nat) (hx : x < 4294967296) (he : Errs K B E w) (h3 : 3 ∈ K) (h11 : 11 ∈ K) (ht : Tabs w) :
    Calls Tryd.prog 4 #[i.val, j.val, .int .u32 x] w fun e w' => e = .returned (.bool true) ∧ Ext [] w w' := by
  obtain ⟨op, a, b, c, imm⟩ := i
  obtain ⟨op', a', b', c', imm'⟩ := j
  by_cases hi : validI ⟨op, a, b, c, imm⟩ = 0
  · obtain ⟨h0, h1, h2, h3', h4, hk⟩ := (valid_ok_iff _).1 hi
    simp only at h0 h1 h2 h3' h4 hk
    obtain ⟨op, rfl⟩ := Int.eq_ofNat_of_zero_le h0
    obtain ⟨a, rfl⟩ := Int.eq_ofNat_of_zero_le h1
    obtain ⟨b, rfl⟩ := Int.eq_ofNat_of_zero_le h2
    obtain ⟨c, rfl⟩ := Int.eq_ofNat_of_zero_le h3'
    obtain ⟨imm, rfl⟩ := Int.eq_ofNat_of_zero_le h4
    have hk1 : OkN op a b c imm := by simpa using hk
    by_cases hj : validI ⟨op', a', b', c', imm'⟩ = 0
    · obtain ⟨h0, h1, h2, h3', h4, hk⟩ := (valid_ok_iff _).1 hj
      simp only at h0 h1 h2 h3' h4 hk
      obtain ⟨op', rfl⟩ := Int.eq_ofNat_of_zero_le h0
      obtain ⟨a', rfl⟩ := Int.eq_ofNat_of_zero_le h1
      obtain ⟨b', rfl⟩ := Int.eq_ofNat_of_zero_le h2
      obtain ⟨c', rfl⟩ := Int.eq_ofNat_of_zero_le h3'
      obtain ⟨imm', rfl⟩ := Int.eq_ofNat_of_zero_le h4
      have hk2 : OkN op' a' b' c' imm' := by simpa using hk
      by_cases hs : op = op' ∧ a = a' ∧ b = b' ∧ c = c' ∧ imm = imm'
      · obtain ⟨rfl, rfl, rfl, rfl, rfl⟩ := hs
        exact back_ok_same w op a b c imm hk1 x hx he h3 h11 ht
      · exact back_ok_ok w op a b c imm op' a' b' c' imm' hk1 hk2 hs x hx he h3 h11 ht
    · exact back_ok_bad w op a b c imm op' a' b' c' imm' hk1 hj x hx he h3 h11 ht
  · exact back_bad w op a b c imm op' a' b' c' imm' hi x hx he h3 h11 ht

theorem maxLen_of {W : World} (h : W.ShapedOpen Tryd.prog) : ∃ m, W.cell? ⟨13, 0, none⟩ = some (.int .i64 m) := Tryd.laysM219.s1_3 W h
end Go.Proofs.YtgpmhfbkgcljbaaDoor
