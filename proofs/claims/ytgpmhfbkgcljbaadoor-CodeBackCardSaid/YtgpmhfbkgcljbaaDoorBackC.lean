/-
  PROVED: the card of the law 'turnkeylaw14.CodeBack' (Rows.CodeBackCardSaid): whatever the two instructions and the word, the law answers true and turns nothing that was there.
-/
import Derived.Test.YtgpmhfbkgcljbaaDoorCards
import Derived.Test.YtgpmhfbkgcljbaaDoorLaid
import Derived.Test.YtgpmhfbkgcljbaaDoorBackO
import Derived.Lay
namespace Go.Proofs.YtgpmhfbkgcljbaaDoor.CodeBack
open Go Go.RowKit Go.ChangeShapes Go.WideShapes Go.Proofs.YtgpmhfbkgcljbaaDoor

noncomputable abbrev fn : Func := Tryd.f4
noncomputable abbrev ZV : Value := .agg #[.int .i64 0, .int .i64 0, .int .i64 0, .int .i64 0, .int .i64 0]

set_option maxRecDepth 100000 in
/-- The step from a walk that asks the world's shape to the row. -/
theorem lifted_of {s : ChangeSpec} {conds : List PathCond} {laid : List (String × DataW Unit)} {f : FuncId} {fn : Func} (hconds : conds = []) (hfn : Tryd.prog.funcs[f]? = some fn) (noInit : Tryd.prog.inits.idxOf? f = none)
    (hl : laidOutB Tryd.prog = true) (hvars : s.vars = []) (hres : fn.resultTypes = #[4]) (hT : ∀ t ∈ fn.params.toList, Tryd.prog.readableRec t = true ∧ t < Tryd.prog.types.size)
    (hs : ∀ (H : Type) (ds : List (DataW H)), ds.length = fn.params.size → s.fn H ds = { results := [.lit (.bool true)], args := ds, vars := [] })
    (os : Os) (started : os.Started) (H : Type) (enc : TypeId × Value → H) (F : Stop.Interp) (args0 : Array Value)
    (witness : ∃ (w : World) (tape : Tape) (i : Input), w.os = os ∧ (w.forCall tape i).Shaped Tryd.prog ∧ i.vars = [] ∧ Input.okWide Tryd.prog (w.forCall tape i) .any w.heap.size f i ∧
      (OpenSpec.ofChange s).preRow enc Tryd.prog fn conds false laid (w.forCall tape i).memory i.args ∧ ({} : Assume).holds Tryd.prog (lone (Frame.enter Tryd.prog f i.args .normal) [] (w.forCall tape i)))
    (walk : ∀ (W : World) (base : Nat) (args : Array Value) (ds : List (DataW H)) (p : List MemPlace), (∀ (j : Nat) t v, fn.params[j]? = some t → args[j]? = some v → Value.okWide Tryd.prog W .any base t v) →
      DataW.TrodAll enc Tryd.prog W 0 (fun _ => true) true fn.params.toList args.toList ds p → laidMetH Tryd.prog laid W → W.ShapedOpen Tryd.prog → Calls Tryd.prog f args W fun e w' => e = .returned (.bool true) ∧ Ext [] W w') :
    ReturnsInHanded {} Tryd.checked os f .any ((OpenSpec.ofChange s).preRow enc Tryd.prog fn conds false laid) (((OpenSpec.ofChange s).at F).post enc Tryd.prog fn false true false false) := by
  subst hconds
  refine returnsInHanded_of_row (C := Tryd.checked) (s := OpenSpec.ofChange s) ownKnobNone started noInit hfn witness ?_
  intro W base args ds gs before hval hW _ _ _ hL hsh _
  have hW' := hW
  obtain ⟨p, q, hA, hV, rfl, hfz, hnd⟩ := hW
  refine (walk W base args ds p hval hA hL hsh).mono fun e w' ⟨he, hx⟩ => ?_
  exact ⟨_, he, post_true hl hvars hres hT (hs H) hW' hx⟩

theorem sents : Sents [("turnkey/api.ErrRange", Rows.laid_turnkey_api_ErrRange), ("turnkey/api.ErrWord", Rows.laid_turnkey_api_ErrWord), ("unicode/utf8.first", Rows.laid_unicode_utf8_first)] [3, 11] :=
  ⟨⟨by kernel_rfl, by kernel_rfl, _, rfl⟩, ⟨by kernel_rfl, by kernel_rfl, _, rfl⟩, trivial⟩
theorem tabE : (Rows.laid_internal_strconv_uint64pow10 : DataW Unit) = Lib.tabData .u64 Lib.pow10Tab := by kernel_rfl
theorem tabs {W : World} (hL : laidMet Tryd.prog Rows.codeBackRow.laid W) (hsh : W.ShapedOpen Tryd.prog) : Tabs W := by
  refine ⟨maxLen_of hsh, ?_⟩
  have h := laidMet.tail (laidMet.tail hL)
  rw [tabE] at h
  exact Lib.tabIs_of_head (g := 12) (t := 108) (e := 94) (n := 20) (by kernel_rfl) (by kernel_rfl) (by kernel_rfl) (by kernel_rfl) (by kernel_rfl) (by kernel_rfl) h
theorem errs {W : World} (hL : laidMet Tryd.prog Rows.codeBackRow.laid W) : ∃ E : Nat → Addr, Errs [3, 11] W.heap.size E W :=
  errs_of_laid [3, 11] (by decide) sents (laidMet.tail (laidMet.tail (laidMet.tail (laidMet.tail hL))))

noncomputable abbrev w0 (os : Os) : World := World.laidAll Tryd.prog os Rows.codeBackRow.laid
theorem met (os : Os) (args : Array Value) : laidMetH Tryd.prog Rows.codeBackRow.laid ((w0 os).forCall (fun _ _ => 0) ⟨#[], args, []⟩).memory := by
  rw [MakeChecks.laidMetH_plain _ _ _ (by kernel_rfl)]
  exact laidMet_laidAll args (by kernel_rfl) (by kernel_rfl)
theorem reads (os : Os) {H : Type} (enc : TypeId × Value → H) : ∃ places, DataW.whole enc Tryd.prog ((w0 os).forCall (fun _ _ => 0) ⟨#[], #[ZV, ZV, .int .u32 0], []⟩).memory fn.params.toList Rows.codeBackSpec.vars false (#[ZV, ZV, .int .u32 0] : Array Value).toList 8 = some ([(DataW.agg [.lit (.int .i64 0), .lit (.int .i64 0), .lit (.int .i64 0), .lit (.int .i64 0), .lit (.int .i64 0)]), (DataW.agg [.lit (.int .i64 0), .lit (.int .i64 0), .lit (.int .i64 0), .lit (.int .i64 0), .lit (.int .i64 0)]), .lit (.int .u32 0)], [], places) :=
  ⟨[], by kernel_rfl⟩

set_option maxRecDepth 100000 in
theorem lifted (os : Os) (started : os.Started) (H : Type) (enc : TypeId × Value → H) (F : Stop.Interp) :
    ReturnsInHanded {} Tryd.checked os 4 .any ((OpenSpec.ofChange Rows.codeBackSpec).preRow enc Tryd.prog fn Rows.codeBackRow.domain false Rows.codeBackRow.laid) (((OpenSpec.ofChange Rows.codeBackSpec).at F).post enc Tryd.prog fn false true false false) := by
  obtain ⟨places, hx⟩ := reads os enc
  refine lifted_of rfl Tryd.func4 (by kernel_rfl) (by kernel_rfl) rfl rfl ?_ ?_ os started H enc F #[ZV, ZV, .int .u32 0]
    (witness_row_atRef (enc := enc) (C := Tryd.checked) false (w0 os) #[ZV, ZV, .int .u32 0] rfl (by kernel_rfl) (by kernel_rfl) (by kernel_rfl)
      (OpenSpec.preRow_of_cond 8 hx (by kernel_rfl) (fun k hk => by cases hk) (by kernel_rfl) (met os _))) ?_
  · intro t ht
    rw [Tryd.params4] at ht
    have ht' : t = 23 ∨ t = 24 := by simpa using ht
    rcases ht' with rfl | rfl
    · exact ⟨by kernel_rfl, of_decide_eq_true (by kernel_rfl)⟩
    · exact ⟨by kernel_rfl, of_decide_eq_true (by kernel_rfl)⟩
  · intro H ds hl
    match ds, hl with
    | [d, d', d''], _ => rfl
  · intro W base args ds p hval hA hL hsh
    rw [Tryd.params4] at hA hval
    obtain ⟨v0, v1, v2, d0, d1, d2, p0, p1, p2, rfl, rfl, -, q0, q1, q2⟩ := trodAll_three hA
    rw [MakeChecks.laidMetH_plain _ _ _ (by kernel_rfl)] at hL
    obtain ⟨E, he⟩ := errs hL
    obtain ⟨i, rfl⟩ := openI (hval 0 23 v0 rfl rfl) q0
    obtain ⟨j, rfl⟩ := openI (hval 1 23 v1 rfl rfl) q1
    obtain ⟨x, hx, rfl⟩ := openU (hval 2 24 v2 rfl rfl) q2
    exact back_calls W i j x hx he (by decide) (by decide) (tabs hL hsh)

theorem said : Rows.CodeBackSaid :=
  OpenClaim.holds_of_cond 4 fn rfl rfl rfl rfl rfl rfl rfl ⟨rfl, rfl, rfl, rfl, rfl⟩ rfl rfl rfl rfl rfl (by kernel_rfl) Tryd.func4 (by kernel_rfl)
    (of_decide_eq_true (by kernel_rfl)) (by unfold Func.isWrapper; first | (rw [if_pos (by decide +kernel)]; kernel_rfl) | (rw [if_neg (by decide +kernel)]; exact ⟨rfl, rfl⟩))
    (fun os started H enc _ F => by rw [OpenClaim.pre_eq_preRow]; exact lifted os started H enc F)

theorem plain (f : FuncId) (g : Func) (hf : Tryd.pinned.checked.prog.funcNamed "turnkey/turnkeylaw14.CodeBack" = some f) (hg : Tryd.pinned.checked.prog.funcs[f]? = some g) :
    true = Tryd.pinned.checked.prog.looks [] ∧ ∀ (j : Nat) t, g.params[j]? = some t → Tryd.pinned.checked.prog.wantsStandIn t = false := by
  obtain rfl : f = 4 := Option.some.inj ((show Tryd.prog.funcNamed "turnkey/turnkeylaw14.CodeBack" = some 4 by kernel_rfl).symm.trans hf) |>.symm
  obtain rfl : g = fn := (Option.some.inj (Tryd.func4.symm.trans hg)).symm
  refine ⟨by kernel_rfl, fun j t ht => ?_⟩
  rw [Tryd.params4] at ht
  have ht' : t = 23 ∨ t = 24 := by simpa using Array.mem_of_getElem? ht
  rcases ht' with rfl | rfl
  · exact (show Tryd.prog.wantsStandIn 23 = false by kernel_rfl)
  · exact (show Tryd.prog.wantsStandIn 24 = false by kernel_rfl)

theorem card : Rows.CodeBackCardSaid :=
  Claim7.holds_tied_plain_at .later [] _ _ _ _ said (fun _ h => by cases h) (by kernel_rfl) (fun _ h => by cases h) codeBack_row_tie rfl ⟨rfl, rfl⟩ (by kernel_rfl) rfl plain (by kernel_rfl)
#print axioms card
end Go.Proofs.YtgpmhfbkgcljbaaDoor.CodeBack
