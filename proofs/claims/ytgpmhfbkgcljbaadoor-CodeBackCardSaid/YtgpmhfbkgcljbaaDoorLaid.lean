/-
  What a row's list of errors gives ('Errs'), and the frame of a law that answers true and turns nothing.
-/
import Derived.Test.YtgpmhfbkgcljbaaDoorErrs
import Derived.Test.YtgpmhfbkgcljbaaDoorTie
import Derived.ProofKit
import Derived.OpenShut
import Derived.LaidMore
import Derived.Stop.LaidErr
import Derived.Stop.Joined
import Derived.Deep.DeepHandedRow
import Derived.Deep.DeepWitnessRowRef
import Derived.MakeChecks
namespace Go.Proofs.YtgpmhfbkgcljbaaDoor
open Go Go.RowKit Go.ChangeShapes Go.WideShapes

theorem ownKnobNone : ownKnob Tryd.prog.godebug = none := by kernel_rfl
theorem errRow (u : TypeId) (h : Tryd.prog.typeName? 3 u = some "*errors.errorString") : u = 120 :=
  have star : "*" ++ "errors.errorString" = "*errors.errorString" := by decide
  typeName_ptr_named (nm := "errors.errorString") (by rw [star]; kernel_rfl) (by kernel_rfl) (by decide) u (by rw [star]; exact h)
theorem errCells : Tryd.prog.cellsOf 135 = 1 := by kernel_rfl
theorem strCells : Tryd.prog.cellsOf 9 = 1 := by kernel_rfl

/-- A listed variable is error number k. -/
def IsSent (x : String × DataW Unit) (k : Nat) : Prop :=
  Tryd.prog.globalNamed x.1 = some (glob k) ∧ (Tryd.prog.globals[glob k]?).map (·.type) = some 30 ∧ ∃ text, x.2 = .iface "*errors.errorString" (.ptr (.agg [.lit (.string text)]))

/-- The list begins with the errors numbered. -/
def Sents : List (String × DataW Unit) → List Nat → Prop
  | _, [] => True
  | [], _ :: _ => False
  | x :: l, k :: ks => IsSent x k ∧ Sents l ks

set_option maxRecDepth 100000 in
theorem sent_step {W : World} {x : String × DataW Unit} {l : List (String × DataW Unit)} {ps : List MemPlace} {k : Nat} (hs : IsSent x k) (h : DataW.LaidVars Tryd.prog W (x :: l) ps)
    (hrows : ∀ b off, MemPlace.cell b off ∈ ps → (∃ c t, W.heap[b]? = some (.cells c t (0, 0))) ∧ ∀ u v, W.cell? ⟨b, off, none⟩ = some (.iface u v) → Value.okWide Tryd.prog W .any 0 u v) :
    ∃ a q, DataW.LaidVars Tryd.prog W l q ∧ ps = .cell (glob k) 0 :: .cell a.block a.off :: q ∧ W.cell? ⟨glob k, 0, none⟩ = some (.iface 120 (.pointer (some a))) ∧
      (∃ c t, W.heap[a.block]? = some (.cells c t (0, 0))) ∧ a.spot = none := by
  obtain ⟨n, d⟩ := x
  obtain ⟨hg, ht, text, hd⟩ := hs
  simp only at hd hg
  subst hd
  obtain ⟨g0, t0, cs0, f0, p0, q0, hg0, ht0, hv0, hd0, hq, e0⟩ := h
  obtain rfl := Option.some.inj (hg.symm.trans hg0)
  obtain rfl := Option.some.inj (ht.symm.trans ht0)
  subst e0
  obtain ⟨l0⟩ := cs0
  have ok0 : ∀ u v, l0 = [.iface u v] → Value.okWide Tryd.prog W .any 0 u v := fun u v e => by
    subst e
    exact (hrows (glob k) 0 (by simp [MemPlace.row])).2 u v (by simpa using World.var?_cell hg0 hv0 0)
  obtain ⟨a0, s0, rfl, hc0, hs0, hz0, rfl⟩ := errorString_of_trod Tryd.underlying30 errRow Tryd.underlying120 Tryd.underlying135 rfl rfl Tryd.underlying9 errCells strCells hd0 ok0
  refine ⟨a0, q0, hq, by simp [MemPlace.row], by simpa using World.var?_cell hg0 hv0 0, (hrows a0.block a0.off (by simp [MemPlace.row])).1, ?_⟩
  cases hsp : a0.spot with
  | none => rfl
  | some n =>
    unfold World.cell? at hc0
    rw [hsp] at hc0
    split at hc0 <;> simp at hc0

def upd (E : Nat → Addr) (k : Nat) (a : Addr) (j : Nat) : Addr := if j = k then a else E j
theorem upd_at (E : Nat → Addr) (k : Nat) (a : Addr) : upd E k a k = a := by simp [upd]
theorem upd_ne (E : Nat → Addr) {k j : Nat} (a : Addr) (h : j ≠ k) : upd E k a j = E j := by simp [upd, h]
theorem errs_of_vars {W : World} : ∀ (ks : List Nat) (l : List (String × DataW Unit)) (ps : List MemPlace), ks.Nodup → Sents l ks → DataW.LaidVars Tryd.prog W l ps → ps.Nodup →
    (∀ b off, MemPlace.cell b off ∈ ps → (∃ c t, W.heap[b]? = some (.cells c t (0, 0))) ∧ ∀ u v, W.cell? ⟨b, off, none⟩ = some (.iface u v) → Value.okWide Tryd.prog W .any 0 u v) →
    ∃ E : Nat → Addr, (∀ k ∈ ks, W.cell? ⟨glob k, 0, none⟩ = some (errV E k) ∧ (∃ c t, W.heap[(E k).block]? = some (.cells c t (0, 0))) ∧ MemPlace.cell (E k).block (E k).off ∈ ps ∧ (E k).spot = none) ∧
      ∀ j ∈ ks, ∀ k ∈ ks, E j = E k → j = k
  | [], _, _, _, _, _, _, _ => ⟨fun _ => default, by simp, by simp⟩
  | k :: ks, [], _, _, h, _, _, _ => h.elim
  | k :: ks, x :: l, ps, hn, ⟨hs, hr⟩, hv, hnd, hrows => by
    obtain ⟨a, q, hq, rfl, hc, hb, hsp⟩ := sent_step hs hv hrows
    obtain ⟨hk, hn'⟩ := List.nodup_cons.1 hn
    obtain ⟨hp1, hnd1⟩ := List.nodup_cons.1 hnd
    obtain ⟨hp2, hnd2⟩ := List.nodup_cons.1 hnd1
    obtain ⟨E, hE, hinj⟩ := errs_of_vars ks l q hn' hr hq hnd2 (fun b off hm => hrows b off (List.mem_cons_of_mem _ (List.mem_cons_of_mem _ hm)))
    have atS : ∀ j ∈ ks, upd E k a j = E j := fun j hj => upd_ne E a (fun e => hk (e ▸ hj))
    have apart : ∀ j ∈ ks, E j ≠ a := fun j hj e => hp2 (by have := (hE j hj).2.2.1; rw [e] at this; exact this)
    refine ⟨upd E k a, fun j hj => ?_, fun i hi j hj e => ?_⟩
    · by_cases hjk : j = k
      · subst hjk
        simp only [errV, upd_at]
        exact ⟨hc, hb, by simp, hsp⟩
      · have hj' : j ∈ ks := by simpa [hjk] using hj
        obtain ⟨h1, h2, h3, h4⟩ := hE j hj'
        simp only [errV, atS j hj']
        exact ⟨h1, h2, List.mem_cons_of_mem _ (List.mem_cons_of_mem _ h3), h4⟩
    · by_cases hik : i = k <;> by_cases hjk : j = k
      · rw [hik, hjk]
      · have hj' : j ∈ ks := by simpa [hjk] using hj
        rw [hik, upd_at, atS j hj'] at e
        exact absurd e.symm (apart j hj')
      · have hi' : i ∈ ks := by simpa [hik] using hi
        rw [hjk, upd_at, atS i hi'] at e
        exact absurd e (apart i hi')
      · have hj' : j ∈ ks := by simpa [hjk] using hj
        have hi' : i ∈ ks := by simpa [hik] using hi
        rw [atS i hi', atS j hj'] at e
        exact hinj i hi' j hj' e

theorem errs_of_laid {W : World} {l : List (String × DataW Unit)} (ks : List Nat) (hn : ks.Nodup) (hs : Sents l ks) (h : laidMet Tryd.prog l W) : ∃ E : Nat → Addr, Errs ks W.heap.size E W := by
  obtain ⟨ps, hv, hnd, hrows⟩ := h
  obtain ⟨E, hE, hinj⟩ := errs_of_vars ks l ps hn hs hv hnd hrows
  have lt : ∀ {a : Addr} {v : Value}, W.cell? a = some v → a.block < W.heap.size := fun {a v} hc => by
    rcases Nat.lt_or_ge a.block W.heap.size with h' | h'
    · exact h'
    · simp [World.cell?, Array.getElem?_eq_none h'] at hc
  refine ⟨E, Nat.le_refl _, fun k hk => (hE k hk).1, fun k hk => lt (hE k hk).1, fun k hk => ?_, fun k hk => (hE k hk).2.1, hinj⟩
  obtain ⟨c, t, hb⟩ := (hE k hk).2.1
  rcases Nat.lt_or_ge (E k).block W.heap.size with h' | h'
  · exact h'
  · simp [Array.getElem?_eq_none h'] at hb

theorem trodAll_length' {H : Type} {enc : TypeId × Value → H} {P : Program} {w : World} {base : Nat} {spare : Nat → Bool} {held : Bool} : ∀ {ts : List TypeId} {vs : List Value} {ds : List (DataW H)} {ps : List MemPlace},
    DataW.TrodAll enc P w base spare held ts vs ds ps → vs.length = ts.length ∧ ds.length = ts.length
  | [], [], [], _, _ => ⟨rfl, rfl⟩
  | _ :: _, _ :: _, _ :: _, _, ⟨_, _, _, h2, _⟩ => by
    obtain ⟨h3, h4⟩ := trodAll_length' h2
    exact ⟨by simp [h3], by simp [h4]⟩
theorem trodAll_below {H : Type} {enc : TypeId × Value → H} {W W' : World} (hl : laidOutB Tryd.prog = true) (hb : Below W.heap.size W W') : ∀ {ts : List TypeId} {vs : List Value} {ds : List (DataW H)} {ps : List MemPlace},
    (∀ t ∈ ts, Tryd.prog.readableRec t = true ∧ t < Tryd.prog.types.size) → DataW.TrodAll enc Tryd.prog W 0 (fun _ => true) true ts vs ds ps → (∀ x ∈ ps, x.block < W.heap.size) → DataW.TrodAll enc Tryd.prog W' 0 (fun b => decide (b < W.heap.size)) true ts vs ds ps
  | [], [], [], _, _, h, _ => h
  | _ :: _, _ :: _, _ :: _, _, hT, ⟨p, q, h1, h2, e⟩, hs =>
    ⟨p, q, Below.trod hl (hT _ (List.mem_cons.2 (Or.inl rfl))).1 (hT _ (List.mem_cons.2 (Or.inl rfl))).2 h1 hb (fun x hx => hs x (by rw [e]; exact List.mem_append_left _ hx)),
      trodAll_below hl hb (fun t ht => hT t (List.mem_cons.2 (Or.inr ht))) h2 (fun x hx => hs x (by rw [e]; exact List.mem_append_right _ hx)), e⟩

/-- 'post' of a law that answers true and turns nothing. -/
theorem post_true {H : Type} {enc : TypeId × Value → H} {f : Func} {s : ChangeSpec} {W W' : World} {args : Array Value} {ds gs : List (DataW H)} {before : List MemPlace} (hl : laidOutB Tryd.prog = true)
    (hvars : s.vars = []) (hres : f.resultTypes = #[4]) (hT : ∀ t ∈ f.params.toList, Tryd.prog.readableRec t = true ∧ t < Tryd.prog.types.size)
    (hs : ∀ ds : List (DataW H), ds.length = f.params.size → s.fn H ds = { results := [.lit (.bool true)], args := ds, vars := [] })
    (hW : DataW.Whole enc Tryd.prog f.params.toList s.vars false W args.toList ds gs before) (hx : Ext [] W W') :
    s.post enc Tryd.prog f false true false false W args (.bool true) W' := by
  have hW' := hW
  obtain ⟨p, q, hA, hV, rfl, hfz, hnd⟩ := hW
  rw [hvars] at hV
  obtain ⟨rfl, rfl⟩ := trodVars_none hV
  have hlen : ds.length = f.params.size := by simpa using (trodAll_length' hA).2
  have e := hs ds hlen
  refine ⟨ds, [], p ++ [], [], p, [], hW', ?_, ?_, ?_, hx.below.frame _, fun h => by cases h⟩
  · simp only [List.append_nil, e, hres]
    exact trodAll_mk1 (shut_bool Tryd.underlying4 true)
  · simp only [List.append_nil, e]
    exact trodAll_below hl hx.below hT hA (fun x hx => hW'.lt x (by simpa using hx))
  · simp only [List.append_nil, e, hvars]
    rfl

set_option maxRecDepth 100000 in
/-- The step from a walk to the row. -/
theorem lifted_of {s : ChangeSpec} {conds : List PathCond} {laid : List (String × DataW Unit)} {f : FuncId} {fn : Func} (hconds : conds = []) (hfn : Tryd.prog.funcs[f]? = some fn) (noInit : Tryd.prog.inits.idxOf? f = none)
    (hl : laidOutB Tryd.prog = true) (hvars : s.vars = []) (hres : fn.resultTypes = #[4]) (hT : ∀ t ∈ fn.params.toList, Tryd.prog.readableRec t = true ∧ t < Tryd.prog.types.size)
    (hs : ∀ (H : Type) (ds : List (DataW H)), ds.length = fn.params.size → s.fn H ds = { results := [.lit (.bool true)], args := ds, vars := [] })
    (os : Os) (started : os.Started) (H : Type) (enc : TypeId × Value → H) (F : Stop.Interp) (args0 : Array Value)
    (witness : ∃ (w : World) (tape : Tape) (i : Input), w.os = os ∧ (w.forCall tape i).Shaped Tryd.prog ∧ i.vars = [] ∧ Input.okWide Tryd.prog (w.forCall tape i) .any w.heap.size f i ∧
      (OpenSpec.ofChange s).preRow enc Tryd.prog fn conds false laid (w.forCall tape i).memory i.args ∧ ({} : Assume).holds Tryd.prog (lone (Frame.enter Tryd.prog f i.args .normal) [] (w.forCall tape i)))
    (walk : ∀ (W : World) (base : Nat) (args : Array Value) (ds : List (DataW H)) (p : List MemPlace), (∀ (j : Nat) t v, fn.params[j]? = some t → args[j]? = some v → Value.okWide Tryd.prog W .any base t v) →
      DataW.TrodAll enc Tryd.prog W 0 (fun _ => true) true fn.params.toList args.toList ds p → laidMetH Tryd.prog laid W → Calls Tryd.prog f args W fun e w' => e = .returned (.bool true) ∧ Ext [] W w') :
    ReturnsInHanded {} Tryd.checked os f .any ((OpenSpec.ofChange s).preRow enc Tryd.prog fn conds false laid) (((OpenSpec.ofChange s).at F).post enc Tryd.prog fn false true false false) := by
  subst hconds
  refine returnsInHanded_of_row (C := Tryd.checked) (s := OpenSpec.ofChange s) ownKnobNone started noInit hfn witness ?_
  intro W base args ds gs before hval hW _ _ _ hL _ _
  have hW' := hW
  obtain ⟨p, q, hA, hV, rfl, hfz, hnd⟩ := hW
  refine (walk W base args ds p hval hA hL).mono fun e w' ⟨he, hx⟩ => ?_
  exact ⟨_, he, post_true hl hvars hres hT (hs H) hW' hx⟩
end Go.Proofs.YtgpmhfbkgcljbaaDoor
