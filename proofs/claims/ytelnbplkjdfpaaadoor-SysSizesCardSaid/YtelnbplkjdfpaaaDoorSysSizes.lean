/-
  PROVED: the card of the law 'turnkeylaw21.SysSizes' (Rows.SysSizesCardSaid): whatever the six sizes, the law answers true and turns nothing that was there.
-/
import Derived.Test.YtelnbplkjdfpaaaDoorCards
import Derived.Test.YtelnbplkjdfpaaaDoorLaid
import Derived.Test.YtelnbplkjdfpaaaDoorSysSizesW
namespace Go.Proofs.YtelnbplkjdfpaaaDoor.SysSizes
open Go Go.RowKit Go.ChangeShapes Go.WideShapes Go.Proofs.YtelnbplkjdfpaaaDoor

noncomputable abbrev fn : Func := Tryd.f3

theorem sents : Sents Rows.sysSizesRow.laid [1, 2, 3, 4, 5, 6, 7, 8, 9, 10, 11, 12] := by
  refine ⟨⟨by kernel_rfl, by kernel_rfl, _, rfl⟩, ⟨by kernel_rfl, by kernel_rfl, _, rfl⟩, ⟨by kernel_rfl, by kernel_rfl, _, rfl⟩, ⟨by kernel_rfl, by kernel_rfl, _, rfl⟩, ⟨by kernel_rfl, by kernel_rfl, _, rfl⟩, ⟨by kernel_rfl, by kernel_rfl, _, rfl⟩,
    ⟨by kernel_rfl, by kernel_rfl, _, rfl⟩, ⟨by kernel_rfl, by kernel_rfl, _, rfl⟩, ⟨by kernel_rfl, by kernel_rfl, _, rfl⟩, ⟨by kernel_rfl, by kernel_rfl, _, rfl⟩, ⟨by kernel_rfl, by kernel_rfl, _, rfl⟩, ⟨by kernel_rfl, by kernel_rfl, _, rfl⟩, trivial⟩

theorem all12 : All12 [1, 2, 3, 4, 5, 6, 7, 8, 9, 10, 11, 12] := by
  intro k h1 h2
  simp only [List.mem_cons, List.mem_nil_iff, or_false]
  omega

theorem intCells : Tryd.prog.cellsOf 3 = 1 := by kernel_rfl

set_option maxRecDepth 100000 in
/-- The argument opened. -/
theorem opened {H : Type} {enc : TypeId × Value → H} {W : World} {base : Nat} {v : Value} {d : DataW H} {p : List MemPlace} (hval : Value.okWide Tryd.prog W .any base 22 v)
    (h : DataW.Trod enc Tryd.prog W 0 (fun _ => true) true 22 v d p) : SizesArg W v := by
  obtain ⟨A, n, c, rfl⟩ := okWide_slice Tryd.underlying22 hval
  refine ⟨A, n, c, rfl, fun hn => ?_⟩
  obtain ⟨fuel, hf⟩ := h
  rcases open_ints Tryd.underlying22 Tryd.underlying3 intCells hf with ⟨hcs, _⟩ | ⟨a, len, cap, zs, hcs, _, hl, _, hz, _, hcell, _⟩
  · simp [Value.cells] at hcs
    omega
  · simp [Value.cells] at hcs
    obtain ⟨rfl, rfl, rfl⟩ := hcs
    have hz' : 6 ≤ zs.length := by simp at hz; omega
    obtain ⟨b, o, sp⟩ := a
    have h0 := hcell 0 (by omega)
    have hsp : sp = none := by
      cases sp with
      | none => rfl
      | some k =>
        unfold World.cell? at h0
        split at h0 <;> simp [Addr.add] at h0
    subst hsp
    have at' : ∀ i, i < 6 → W.cell? ⟨b, o + i, none⟩ = some (.int .i64 (zs.getD i 0)) := fun i hi => by
      have := hcell i (by omega)
      have e : (⟨b, o, none⟩ : Addr).add i = ⟨b, o + i, none⟩ := by
        by_cases h : i = 0
        · subst h; simp [Addr.add]
        · simp [Addr.add, h]
      rwa [e] at this
    exact ⟨b, o, _, _, _, _, _, _, rfl, by simpa using at' 0 (by omega), at' 1 (by omega), at' 2 (by omega), at' 3 (by omega), at' 4 (by omega), at' 5 (by omega)⟩

noncomputable abbrev w0 (os : Os) : World := World.doorLaid Tryd.prog 262 os
theorem met (os : Os) (args : Array Value) : laidMetH Tryd.prog Rows.sysSizesRow.laid ((w0 os).forCall (fun _ _ => 0) ⟨#[], args, []⟩).memory := by
  rw [MakeChecks.laidMetH_plain _ _ _ (by kernel_rfl)]
  exact laidMet_of_run' 8 (by kernel_rfl) (by kernel_rfl)
theorem reads (os : Os) {H : Type} (enc : TypeId × Value → H) : ∃ places, DataW.whole enc Tryd.prog ((w0 os).forCall (fun _ _ => 0) ⟨#[], #[.slice none 0 0], []⟩).memory fn.params.toList Rows.sysSizesSpec.vars false (#[.slice none 0 0] : Array Value).toList 8 = some ([.nil], [], places) :=
  ⟨[], by kernel_rfl⟩

set_option maxRecDepth 100000 in
theorem lifted (os : Os) (started : os.Started) (H : Type) (enc : TypeId × Value → H) (F : Stop.Interp) :
    ReturnsInHanded {} Tryd.checked os 3 .any ((OpenSpec.ofChange Rows.sysSizesSpec).preRow enc Tryd.prog fn Rows.sysSizesRow.domain false Rows.sysSizesRow.laid) (((OpenSpec.ofChange Rows.sysSizesSpec).at F).post enc Tryd.prog fn false true false false) := by
  obtain ⟨places, hx⟩ := reads os enc
  refine lifted_of rfl Tryd.func3 (by kernel_rfl) (by kernel_rfl) rfl rfl ?_ ?_ os started H enc F #[.slice none 0 0]
    (witness_row_atRef (enc := enc) (C := Tryd.checked) false (w0 os) #[.slice none 0 0] rfl (by kernel_rfl) (by kernel_rfl) (by kernel_rfl)
      (OpenSpec.preRow_of_cond 8 hx (by kernel_rfl) (fun k hk => by cases hk) (by kernel_rfl) (met os _))) ?_
  · intro t ht
    rw [Tryd.params3] at ht
    obtain rfl : t = 22 := by simpa using ht
    exact ⟨by kernel_rfl, of_decide_eq_true (by kernel_rfl)⟩
  · intro H ds hl
    match ds, hl with
    | [d], _ => rfl
  · intro W base args ds p hval hA hL
    rw [Tryd.params3] at hA hval
    obtain ⟨v0, d0, rfl, rfl, h0⟩ := trodAll_one hA
    rw [MakeChecks.laidMetH_plain _ _ _ (by kernel_rfl)] at hL
    obtain ⟨E, he⟩ := errs_of_laid [1, 2, 3, 4, 5, 6, 7, 8, 9, 10, 11, 12] (by decide) sents hL
    exact sysSizes_calls W v0 (opened (hval 0 22 v0 rfl rfl) h0) he all12

theorem said : Rows.SysSizesSaid :=
  OpenClaim.holds_of_cond 3 fn rfl rfl rfl rfl rfl rfl rfl ⟨rfl, rfl, rfl, rfl, rfl⟩ rfl rfl rfl rfl rfl (by kernel_rfl) Tryd.func3 (by kernel_rfl)
    (of_decide_eq_true (by kernel_rfl)) (by unfold Func.isWrapper; first | (rw [if_pos (by decide +kernel)]; kernel_rfl) | (rw [if_neg (by decide +kernel)]; exact ⟨rfl, rfl⟩))
    (fun os started H enc _ F => by rw [OpenClaim.pre_eq_preRow]; exact lifted os started H enc F)

theorem plain (f : FuncId) (g : Func) (hf : Tryd.pinned.checked.prog.funcNamed "turnkey/turnkeylaw21.SysSizes" = some f) (hg : Tryd.pinned.checked.prog.funcs[f]? = some g) :
    true = Tryd.pinned.checked.prog.looks [] ∧ ∀ (j : Nat) t, g.params[j]? = some t → Tryd.pinned.checked.prog.wantsStandIn t = false := by
  obtain rfl : f = 3 := Option.some.inj ((show Tryd.prog.funcNamed "turnkey/turnkeylaw21.SysSizes" = some 3 by kernel_rfl).symm.trans hf) |>.symm
  obtain rfl : g = fn := (Option.some.inj (Tryd.func3.symm.trans hg)).symm
  refine ⟨by kernel_rfl, fun j t ht => ?_⟩
  rw [Tryd.params3] at ht
  obtain rfl : t = 22 := by simpa using Array.mem_of_getElem? ht
  exact (show Tryd.prog.wantsStandIn 22 = false by kernel_rfl)

theorem card : Rows.SysSizesCardSaid :=
  Claim7.holds_tied_plain_at .later [] _ _ _ _ said (fun _ h => by cases h) (by kernel_rfl) (fun _ h => by cases h) sysSizes_row_tie rfl ⟨rfl, rfl⟩ (by kernel_rfl) rfl plain (by kernel_rfl)
#print axioms card
end Go.Proofs.YtelnbplkjdfpaaaDoor.SysSizes
