/-
  PROVED: the card of the law 'turnkeylaw18.BankCounts' (Rows.BankCountsCardSaid): whatever the three rows of numbers, the law answers true and turns nothing that was there.
-/
import Derived.Test.YtpnjebpbglgebaaDoorCards
import Derived.Test.YtpnjebpbglgebaaDoorLaid
import Derived.Test.YtpnjebpbglgebaaDoorCntW1
namespace Go.Proofs.YtpnjebpbglgebaaDoor.BankCounts
open Go Go.RowKit Go.ChangeShapes Go.WideShapes Go.Proofs.YtpnjebpbglgebaaDoor

noncomputable abbrev fn : Func := Tryd.f3

theorem sents : Sents Rows.bankCountsRow.laid [1, 2, 3, 4, 5, 6, 7, 8, 9, 10, 11, 12] := by
  refine ⟨⟨by kernel_rfl, by kernel_rfl, _, rfl⟩, ⟨by kernel_rfl, by kernel_rfl, _, rfl⟩, ⟨by kernel_rfl, by kernel_rfl, _, rfl⟩, ⟨by kernel_rfl, by kernel_rfl, _, rfl⟩, ⟨by kernel_rfl, by kernel_rfl, _, rfl⟩, ⟨by kernel_rfl, by kernel_rfl, _, rfl⟩,
    ⟨by kernel_rfl, by kernel_rfl, _, rfl⟩, ⟨by kernel_rfl, by kernel_rfl, _, rfl⟩, ⟨by kernel_rfl, by kernel_rfl, _, rfl⟩, ⟨by kernel_rfl, by kernel_rfl, _, rfl⟩, ⟨by kernel_rfl, by kernel_rfl, _, rfl⟩, ⟨by kernel_rfl, by kernel_rfl, _, rfl⟩, trivial⟩
theorem all12 : All12 [1, 2, 3, 4, 5, 6, 7, 8, 9, 10, 11, 12] := by
  intro k h1 h2
  simp only [List.mem_cons, List.mem_nil_iff, or_false]
  omega
theorem intCells : Tryd.prog.cellsOf 3 = 1 := by kernel_rfl

set_option maxRecDepth 100000 in
/-- An argument opened. -/
theorem opened {H : Type} {enc : TypeId × Value → H} {W : World} {base : Nat} {v : Value} {d : DataW H} {p : List MemPlace} (hval : Value.okWide Tryd.prog W .any base 22 v)
    (h : DataW.Trod enc Tryd.prog W 0 (fun _ => true) true 22 v d p) : ∃ A c xs, v = .slice A (List.length xs) c ∧ IntsAt W v xs := by
  obtain ⟨A, n, c, rfl⟩ := okWide_slice Tryd.underlying22 hval
  obtain ⟨fuel, hf⟩ := h
  rcases open_ints Tryd.underlying22 Tryd.underlying3 intCells hf with ⟨hcs, _⟩ | ⟨a, len, cap, zs, hcs, _, hl, _, hz, _, hcell, _⟩
  · simp [Value.cells] at hcs
    obtain ⟨rfl, rfl, rfl⟩ := hcs
    exact ⟨none, 0, [], rfl, none, 0, rfl, fun h => by simp at h⟩
  · simp [Value.cells] at hcs
    obtain ⟨rfl, rfl, rfl⟩ := hcs
    have hz' : n ≤ zs.length := by simp at hz; omega
    have htl : (zs.take n).length = n := by simp; omega
    refine ⟨some a, c, zs.take n, by rw [htl], some a, c, by rw [htl], fun hp => ?_⟩
    rw [htl] at hp
    obtain ⟨b, o, sp⟩ := a
    have h0 := hcell 0 (by omega)
    have hsp : sp = none := by
      cases sp with
      | none => rfl
      | some k =>
        unfold World.cell? at h0
        split at h0 <;> simp [Addr.add] at h0
    subst hsp
    refine ⟨b, o, rfl, fun i hi => ?_⟩
    have hi' : i < n := by omega
    have := hcell i (by omega)
    have e : (⟨b, o, none⟩ : Addr).add i = ⟨b, o + i, none⟩ := by
      by_cases h : i = 0
      · subst h; simp [Addr.add]
      · simp [Addr.add, h]
    rw [e] at this
    rw [this]
    simp [List.getElem_take, List.getD_eq_getElem?_getD, List.getElem?_eq_getElem (show i < zs.length by omega)]

theorem counts_calls {K : List Nat} {B : Nat} {E : Nat → Addr} (w : World) (v0 v1 v2 : Value) (he : Errs K B E w) (hK : All12 K) (h0 : ∃ A c xs, v0 = .slice A (List.length xs) c ∧ IntsAt w v0 xs) (h1 : ∃ A c xs, v1 = .slice A (List.length xs) c ∧ IntsAt w v1 xs) (h2 : ∃ A c xs, v2 = .slice A (List.length xs) c ∧ IntsAt w v2 xs) :
    Calls Tryd.prog 3 #[v0, v1, v2] w fun e w' => e = .returned (.bool true) ∧ Ext [] w w' := by
  obtain ⟨A0, c0, xs, rfl, h0⟩ := h0
  obtain ⟨A1, c1, ys, rfl, h1⟩ := h1
  obtain ⟨A2, c2, zs, rfl, h2⟩ := h2
  by_cases l0 : xs.length ≤ 5
  · by_cases l1 : ys.length ≤ 6
    · by_cases l2 : zs.length ≤ 40
      · exact counts_main w A0 A1 A2 xs ys zs c0 c1 c2 he hK h0 h1 h2 l0 l1 l2
      · exact counts_other w A0 A1 A2 _ _ _ c0 c1 c2 he hK (.inr (.inr ⟨l0, l1, by omega⟩))
    · exact counts_other w A0 A1 A2 _ _ _ c0 c1 c2 he hK (.inr (.inl ⟨l0, by omega⟩))
  · exact counts_other w A0 A1 A2 _ _ _ c0 c1 c2 he hK (.inl (by omega))

noncomputable abbrev w0 (os : Os) : World := World.doorLaid Tryd.prog 237 os
theorem met (os : Os) (args : Array Value) : laidMetH Tryd.prog Rows.bankCountsRow.laid ((w0 os).forCall (fun _ _ => 0) ⟨#[], args, []⟩).memory := by
  rw [MakeChecks.laidMetH_plain _ _ _ (by kernel_rfl)]
  exact laidMet_of_run' 8 (by kernel_rfl) (by kernel_rfl)
theorem reads (os : Os) {H : Type} (enc : TypeId × Value → H) : ∃ places, DataW.whole enc Tryd.prog ((w0 os).forCall (fun _ _ => 0) ⟨#[], #[.slice none 0 0, .slice none 0 0, .slice none 0 0], []⟩).memory fn.params.toList Rows.bankCountsSpec.vars false (#[.slice none 0 0, .slice none 0 0, .slice none 0 0] : Array Value).toList 8 = some ([.nil, .nil, .nil], [], places) :=
  ⟨[], by kernel_rfl⟩

set_option maxRecDepth 100000 in
theorem lifted (os : Os) (started : os.Started) (H : Type) (enc : TypeId × Value → H) (F : Stop.Interp) :
    ReturnsInHanded {} Tryd.checked os 3 .any ((OpenSpec.ofChange Rows.bankCountsSpec).preRow enc Tryd.prog fn Rows.bankCountsRow.domain false Rows.bankCountsRow.laid) (((OpenSpec.ofChange Rows.bankCountsSpec).at F).post enc Tryd.prog fn false true false false) := by
  obtain ⟨places, hx⟩ := reads os enc
  refine lifted_of rfl Tryd.func3 (by kernel_rfl) (by kernel_rfl) rfl rfl ?_ ?_ os started H enc F #[.slice none 0 0, .slice none 0 0, .slice none 0 0]
    (witness_row_atRef (enc := enc) (C := Tryd.checked) false (w0 os) #[.slice none 0 0, .slice none 0 0, .slice none 0 0] rfl (by kernel_rfl) (by kernel_rfl) (by kernel_rfl)
      (OpenSpec.preRow_of_cond 8 hx (by kernel_rfl) (fun k hk => by cases hk) (by kernel_rfl) (met os _))) ?_
  · intro t ht
    rw [Tryd.params3] at ht
    obtain rfl : t = 22 := by simpa using ht
    exact ⟨by kernel_rfl, of_decide_eq_true (by kernel_rfl)⟩
  · intro H ds hl
    match ds, hl with
    | [d, d', d''], _ => rfl
  · intro W base args ds p hval hA hL
    rw [Tryd.params3] at hA hval
    obtain ⟨v0, v1, v2, d0, d1, d2, p0, p1, p2, rfl, rfl, -, q0, q1, q2⟩ := trodAll_three hA
    rw [MakeChecks.laidMetH_plain _ _ _ (by kernel_rfl)] at hL
    obtain ⟨E, he⟩ := errs_of_laid [1, 2, 3, 4, 5, 6, 7, 8, 9, 10, 11, 12] (by decide) sents hL
    exact counts_calls W v0 v1 v2 he all12 (opened (hval 0 22 v0 rfl rfl) q0) (opened (hval 1 22 v1 rfl rfl) q1) (opened (hval 2 22 v2 rfl rfl) q2)

theorem said : Rows.BankCountsSaid :=
  OpenClaim.holds_of_cond 3 fn rfl rfl rfl rfl rfl rfl rfl ⟨rfl, rfl, rfl, rfl, rfl⟩ rfl rfl rfl rfl rfl (by kernel_rfl) Tryd.func3 (by kernel_rfl)
    (of_decide_eq_true (by kernel_rfl)) (by unfold Func.isWrapper; first | (rw [if_pos (by decide +kernel)]; kernel_rfl) | (rw [if_neg (by decide +kernel)]; exact ⟨rfl, rfl⟩))
    (fun os started H enc _ F => by rw [OpenClaim.pre_eq_preRow]; exact lifted os started H enc F)

theorem plain (f : FuncId) (g : Func) (hf : Tryd.pinned.checked.prog.funcNamed "turnkey/turnkeylaw18.BankCounts" = some f) (hg : Tryd.pinned.checked.prog.funcs[f]? = some g) :
    true = Tryd.pinned.checked.prog.looks [] ∧ ∀ (j : Nat) t, g.params[j]? = some t → Tryd.pinned.checked.prog.wantsStandIn t = false := by
  obtain rfl : f = 3 := Option.some.inj ((show Tryd.prog.funcNamed "turnkey/turnkeylaw18.BankCounts" = some 3 by kernel_rfl).symm.trans hf) |>.symm
  obtain rfl : g = fn := (Option.some.inj (Tryd.func3.symm.trans hg)).symm
  refine ⟨by kernel_rfl, fun j t ht => ?_⟩
  rw [Tryd.params3] at ht
  obtain rfl : t = 22 := by simpa using Array.mem_of_getElem? ht
  exact (show Tryd.prog.wantsStandIn 22 = false by kernel_rfl)

theorem card : Rows.BankCountsCardSaid :=
  Claim7.holds_tied_plain_at .later [] _ _ _ _ said (fun _ h => by cases h) (by kernel_rfl) (fun _ h => by cases h) bankCounts_row_tie rfl ⟨rfl, rfl⟩ (by kernel_rfl) rfl plain (by kernel_rfl)
#print axioms card
end Go.Proofs.YtpnjebpbglgebaaDoor.BankCounts
