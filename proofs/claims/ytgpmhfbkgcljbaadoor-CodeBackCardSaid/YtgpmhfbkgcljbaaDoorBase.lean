/-
  Words on memory that our contracts use: a block that begins with given cells ('Blk'); what may have changed ('Ext'); rows of structs ('flat').
  No program stands in this text.
-/
import Derived.WalkKit
import Derived.Lib.Hide
import Derived.Deep.QuietTactic
import Derived.BigQuiet
import Derived.Maps.AppendAt
import Derived.Deep.AppendLies
import Derived.Deep.RegionWith
import Derived.Deep.RegionHeld3
import Derived.Deep.RegionLaw
import Derived.Deep.CutBlock
import Derived.Deep.DeepCutAuto
import Derived.Deep.LoopGhost
import Derived.Deep.DeepFit
import Derived.StillTailTactics
namespace Go.Proofs.YtgpmhfbkgcljbaaDoor
open Go Go.RowKit

/-- Block b begins with the cells cs; nothing of it is frozen. -/
def Blk (w : World) (b : Nat) (cs : List Value) : Prop := ∃ T extra, w.heap[b]? = some (.cells (cs ++ extra).toArray T (0, 0))

theorem Blk.cell {w : World} {b : Nat} {cs : List Value} (h : Blk w b cs) (o : Nat) (v : Value) (ho : cs[o]? = some v) : w.cell? ⟨b, o, none⟩ = some v := by
  obtain ⟨T, extra, h⟩ := h
  have hlt := (List.getElem?_eq_some_iff.1 ho).1
  simp only [World.cell?, h]
  simp [List.getElem?_append_left hlt, ho]
theorem Blk.frozen {w : World} {b : Nat} {cs : List Value} (h : Blk w b cs) (o : Nat) : w.frozen? ⟨b, o, none⟩ = false := by
  obtain ⟨T, extra, h⟩ := h
  simp [World.frozen?, h]
theorem Blk.lt {w : World} {b : Nat} {cs : List Value} (h : Blk w b cs) : b < w.heap.size := by
  obtain ⟨T, extra, h⟩ := h
  exact (Array.getElem?_eq_some_iff.1 h).1
theorem Blk.setCell {w : World} {b : Nat} {cs : List Value} (h : Blk w b cs) (o : Nat) (v : Value) (ho : o < cs.length) : Blk (w.setCell ⟨b, o, none⟩ v) b (cs.set o v) := by
  obtain ⟨T, extra, h⟩ := h
  refine ⟨T, extra, ?_⟩
  rw [heap_setCell_same w b o _ T v h]
  simp [List.set_append_left _ _ ho]
theorem Blk.setCell_other {w : World} {b c : Nat} {cs : List Value} (h : Blk w b cs) (hb : b ≠ c) (o : Nat) (v : Value) : Blk (w.setCell ⟨c, o, none⟩ v) b cs := by
  obtain ⟨T, extra, h⟩ := h
  exact ⟨T, extra, by rw [heap_setCell_other w ⟨c, o, none⟩ b v hb]; exact h⟩
theorem Blk.drew {w : World} {b : Nat} {cs : List Value} (h : Blk w b cs) : Blk w.drew b cs := h
theorem Blk.drewN {w : World} {b : Nat} {cs : List Value} (h : Blk w b cs) (n : Nat) : Blk (w.drewN n) b cs := h
theorem Blk.alloc {w : World} {b : Nat} {cs : List Value} (h : Blk w b cs) (o : Obj) : Blk (w.alloc o) b cs := by
  have hl := h.lt
  obtain ⟨T, extra, h⟩ := h
  exact ⟨T, extra, by rw [Below.heap_alloc _ _ _ hl]; exact h⟩
theorem Blk.new {w : World} {cs : List Value} {T : TypeId} : Blk (w.alloc (.cells cs.toArray T)) w.heap.size cs :=
  ⟨T, [], by rw [List.append_nil]; exact heap_alloc_new w _⟩
theorem Blk.front {w : World} {b : Nat} {cs ds : List Value} (h : Blk w b (cs ++ ds)) : Blk w b cs := by
  obtain ⟨T, extra, h⟩ := h
  exact ⟨T, ds ++ extra, by rw [← List.append_assoc]; exact h⟩

/-- Outside the blocks of D nothing of what was there has changed. -/
structure Ext (D : List Nat) (w w' : World) : Prop where
  os : w'.os = w.os
  tape : w'.tape = w.tape
  output : w'.output = w.output
  size : w.heap.size ≤ w'.heap.size
  block : ∀ k, k < w.heap.size → k ∉ D → w'.heap[k]? = w.heap[k]?

theorem Ext.refl (D : List Nat) (w : World) : Ext D w w := ⟨rfl, rfl, rfl, Nat.le_refl _, fun _ _ _ => rfl⟩
theorem Ext.trans {D : List Nat} {a b c : World} (h : Ext D a b) (k : Ext D b c) : Ext D a c :=
  ⟨k.os.trans h.os, k.tape.trans h.tape, k.output.trans h.output, Nat.le_trans h.size k.size,
   fun i hi hd => (k.block i (Nat.lt_of_lt_of_le hi h.size) hd).trans (h.block i hi hd)⟩
/-- The later step may have changed new blocks besides. -/
theorem Ext.then {D D' : List Nat} {a b c : World} (h : Ext D a b) (k : Ext D' b c) (hd : ∀ x ∈ D', x ∈ D ∨ a.heap.size ≤ x) : Ext D a c :=
  ⟨k.os.trans h.os, k.tape.trans h.tape, k.output.trans h.output, Nat.le_trans h.size k.size,
   fun i hi hn => (k.block i (Nat.lt_of_lt_of_le hi h.size) (fun hx => (hd i hx).elim hn (fun h' => absurd hi (Nat.not_lt.2 h')))).trans (h.block i hi hn)⟩
theorem Ext.mono {D D' : List Nat} {a b : World} (h : Ext D a b) (hs : ∀ x ∈ D, x ∈ D') : Ext D' a b :=
  ⟨h.os, h.tape, h.output, h.size, fun i hi hd => h.block i hi (fun hx => hd (hs i hx))⟩
theorem Ext.nil {D : List Nat} {a b : World} (h : Ext [] a b) : Ext D a b := h.mono (fun _ h => by cases h)
theorem Ext.same {D : List Nat} {w w' : World} (h : Ext D w w') {b : Nat} {o : Obj} (hb : w.heap[b]? = some o) (hd : b ∉ D) : w'.heap[b]? = some o :=
  (h.block b (Array.getElem?_eq_some_iff.1 hb).1 hd).trans hb
theorem Ext.blk {D : List Nat} {w w' : World} (h : Ext D w w') {b : Nat} {cs : List Value} (hb : Blk w b cs) (hd : b ∉ D) : Blk w' b cs := by
  have := h.block b hb.lt hd
  obtain ⟨T, extra, hb⟩ := hb
  exact ⟨T, extra, this.trans hb⟩
theorem Ext.cell {D : List Nat} {w w' : World} (h : Ext D w w') {b o : Nat} {v : Value} (hb : w.cell? ⟨b, o, none⟩ = some v) (hd : b ∉ D) : w'.cell? ⟨b, o, none⟩ = some v := by
  have hl := World.block_lt_of_cell? w _ hb
  rw [World.cell?_of_block (w := w) (h.block b hl hd)]; exact hb
theorem Ext.drew {D : List Nat} {w w' : World} (h : Ext D w w') : Ext D w w'.drew := ⟨h.os, h.tape, h.output, h.size, h.block⟩
theorem Ext.drewN {D : List Nat} {w w' : World} (h : Ext D w w') (n : Nat) : Ext D w (w'.drewN n) := ⟨h.os, h.tape, h.output, h.size, h.block⟩
theorem Ext.setCell {D : List Nat} {w w' : World} (h : Ext D w w') {b o : Nat} (hb : b ∈ D ∨ w.heap.size ≤ b) (v : Value) : Ext D w (w'.setCell ⟨b, o, none⟩ v) :=
  ⟨h.os, h.tape, h.output, by simpa using h.size, fun k hk hd => by
    rw [heap_setCell_other _ _ _ _ (by rintro rfl; rcases hb with hb | hb; exact hd hb; exact absurd hk (Nat.not_lt.2 hb))]; exact h.block k hk hd⟩
theorem Ext.alloc {D : List Nat} {w w' : World} (h : Ext D w w') (o : Obj) : Ext D w (w'.alloc o) :=
  ⟨h.os, h.tape, h.output, by have := h.size; simp; omega, fun k hk hd => by
    rw [Below.heap_alloc _ _ _ (Nat.lt_of_lt_of_le hk h.size)]; exact h.block k hk hd⟩
theorem Ext.below {w w' : World} (h : Ext [] w w') : Below w.heap.size w w' := ⟨h.os, h.tape, h.output, h.size, fun k hk => h.block k hk (fun hx => by cases hx)⟩
theorem Ext.belowB {D : List Nat} {B : Nat} {w w' : World} (h : Ext D w w') (hB : B ≤ w.heap.size) (hd : ∀ x ∈ D, B ≤ x) : Below B w w' :=
  ⟨h.os, h.tape, h.output, h.size, fun k hk => h.block k (Nat.lt_of_lt_of_le hk hB) (fun hx => absurd hk (Nat.not_lt.2 (hd k hx)))⟩
theorem Ext.of_below {w w' : World} {D : List Nat} (h : Below w.heap.size w w') : Ext D w w' := ⟨h.os, h.tape, h.output, h.size, fun k hk _ => h.block k hk⟩
theorem Ext.grown {D : List Nat} {a w w' : World} {row : Option Nat} (h : Ext D a w) (hg : w.grownBy w' row) (hr : ∀ k, row = some k → k ∈ D ∨ a.heap.size ≤ k) : Ext D a w' :=
  ⟨hg.os.trans h.os, hg.tape.trans h.tape, hg.output.trans h.output, Nat.le_trans h.size hg.size, fun k hk hd =>
    (hg.block k (Nat.lt_of_lt_of_le hk h.size) (fun e => by rcases hr k e.symm with h' | h'; exact hd h'; exact absurd hk (Nat.not_lt.2 h'))).trans (h.block k hk hd)⟩

/-! ### Rows of structs -/
def flat {α : Type} (enc : α → List Value) (l : List α) : List Value := l.flatMap enc

theorem flat_length {α : Type} {enc : α → List Value} {k : Nat} (hk : ∀ x, (enc x).length = k) (l : List α) : (flat enc l).length = l.length * k := by
  induction l with
  | nil => simp [flat]
  | cons x l ih => simp only [flat, List.flatMap_cons, List.length_append, List.length_cons] at *; rw [ih, hk, Nat.succ_mul]; omega

theorem flat_get {α : Type} {enc : α → List Value} {k : Nat} (hk : ∀ x, (enc x).length = k) (l : List α) (i j : Nat) (hj : j < k) (hi : i < l.length) :
    (flat enc l)[i * k + j]? = (enc l[i])[j]? := by
  induction l generalizing i with
  | nil => simp at hi
  | cons x l ih =>
    cases i with
    | zero => simp [flat, List.getElem?_append, hk, hj]
    | succ i =>
      have : (i + 1) * k + j = k + (i * k + j) := by rw [Nat.succ_mul]; omega
      rw [this]
      have h2 := ih i (by simpa using hi)
      simp only [flat, List.flatMap_cons] at *
      rw [List.getElem?_append_right (by rw [hk]; omega), hk]
      simpa using h2

theorem flat_set {α : Type} {enc : α → List Value} {k : Nat} (hk : ∀ x, (enc x).length = k) (l : List α) (i j : Nat) (hj : j < k) (hi : i < l.length) (v : Value) (y : α)
    (hy : enc y = (enc l[i]).set j v) : (flat enc l).set (i * k + j) v = flat enc (l.set i y) := by
  induction l generalizing i with
  | nil => simp at hi
  | cons x l ih =>
    cases i with
    | zero =>
      simp only [flat, List.flatMap_cons, List.set_cons_zero, Nat.zero_mul, Nat.zero_add] at *
      rw [List.set_append_left _ _ (by rw [hk]; exact hj)]
      simp at hy; rw [hy]
    | succ i =>
      have e : (i + 1) * k + j = k + (i * k + j) := by rw [Nat.succ_mul]; omega
      rw [e]
      have h2 := ih i (by simpa using hi) (by simpa using hy)
      simp only [flat, List.flatMap_cons, List.set_cons_succ] at *
      rw [List.set_append_right _ _ (by rw [hk]; omega), hk]
      simp only [Nat.add_sub_cancel_left]
      rw [h2]

theorem Blk.at_ {α : Type} {enc : α → List Value} {k : Nat} (hk : ∀ x, (enc x).length = k) {w : World} {b : Nat} {l : List α} (h : Blk w b (flat enc l)) (i j : Nat) (hi : i < l.length) (hj : j < k) (v : Value)
    (hv : (enc l[i])[j]? = some v) : w.cell? ⟨b, i * k + j, none⟩ = some v :=
  h.cell _ _ (by rw [flat_get hk l i j hj hi, hv])
theorem Blk.at0 {α : Type} {enc : α → List Value} {k : Nat} (hk : ∀ x, (enc x).length = k) {w : World} {b : Nat} {l : List α} (h : Blk w b (flat enc l)) (i : Nat) (hi : i < l.length) (hk0 : 0 < k) (v : Value)
    (hv : (enc l[i])[0]? = some v) : w.cell? ⟨b, i * k, none⟩ = some v :=
  h.at_ hk i 0 hi hk0 v hv
/-- A store into a field of an element. -/
theorem Blk.put {α : Type} {enc : α → List Value} {k : Nat} (hk : ∀ x, (enc x).length = k) {w : World} {b : Nat} {l : List α} (h : Blk w b (flat enc l)) (i j : Nat) (hi : i < l.length) (hj : j < k) (v : Value) (y : α)
    (hy : enc y = (enc l[i]).set j v) : Blk (w.setCell ⟨b, i * k + j, none⟩ v) b (flat enc (l.set i y)) := by
  have hlt : i * k + j < (flat enc l).length := by
    rw [flat_length hk]
    have : (i + 1) * k ≤ l.length * k := Nat.mul_le_mul_right _ hi
    rw [Nat.succ_mul] at this
    omega
  have := h.setCell (i * k + j) v hlt
  rwa [flat_set hk l i j hj hi v y hy] at this

/-- A callee that leaves the world alone, in a region that draws its order. -/
theorem quietS {P : Program} {f : FuncId} {args : Array Value} {w : World} {n : Nat} {v : Value}
    (h : Calls P f args (w.drewN n) fun e w' => e = .returned v ∧ w.drewN n = w') : Calls P f args (w.drewN n) fun e w'' => e = .returned v ∧ ∃ m, w'' = w.drewN m :=
  h.mono fun _ _ ⟨he, hm⟩ => ⟨he, n, hm.symm⟩
/-- A callee that may draw. -/
theorem quietD {P : Program} {f : FuncId} {args : Array Value} {w : World} {n : Nat} {v : Value}
    (h : Calls P f args (w.drewN n) fun e w' => e = .returned v ∧ ∃ m, w' = (w.drewN n).drewN m) : Calls P f args (w.drewN n) fun e w'' => e = .returned v ∧ ∃ m, w'' = w.drewN m := Calls.quiet_of h

/-! ### append of one element to a slice of the call's own -/
section
variable {P : Program} {ops : Array Oper} {rest : List Oper} {o : Oper} {a : Act} {Q : Exit → Act → World → Prop}

theorem append_one {W : World} (base : Nat) (hgd : o.guard = none) (s x : Operand) (t e : TypeId) (z : Value) (size bytes : Nat)
    (ho : o.op = .call { callee := .builtin .append, args := #[s, x], argTypes := #[t, t] })
    (ht : P.underlying t = some (.slice e)) (hinfo : (P.info? e).map (fun i => (i.zero, i.size, i.bytes)) = some (some z, size, bytes)) (hz : z.cells.size = size) (hsz : 0 < size) (hb0 : 0 < bytes)
    (v : Value) (n : Nat) (xs : List Value) (ys : List Value) (hys : ys.length = size) (hs : a.eval s = v) (ad : Nat) (hx : a.eval x = .slice (some ⟨ad, 0, none⟩) 1 1) (had : W.heap.size = ad) (h1 : ∀ u ∈ ys, u.oneCell' = true)
    (HO : W.ownsRow base e size v n xs) (hbase : base ≤ W.heap.size) (hl : (n + 1) * bytes ≤ 140737488355328)
    (h : ∀ g c w1, w1.ownsRow base e size (.slice (some ⟨g, 0, none⟩) (n + 1) c) (n + 1) (xs ++ ys) → W.grownBy w1 v.ownBlock → (v.ownBlock = some g ∨ W.heap.size ≤ g) →
      wpList P ops Q rest (a.put o.dst (.slice (some ⟨g, 0, none⟩) (n + 1) c)) w1) :
    wpList P ops Q (o :: rest) a (W.alloc (.cells ys.toArray e)) := by
  subst had
  obtain ⟨i0, hi, hzz⟩ := Option.map_eq_some_iff.1 hinfo
  simp only [Prod.mk.injEq] at hzz
  obtain ⟨hz0, hz1, hz2⟩ := hzz
  have hlen : n + 1 ≤ 140737488355328 := Nat.le_trans (Nat.le_mul_of_pos_right _ hb0) hl
  refine wpList_append_own_at (W.alloc (.cells ys.toArray e)) hgd s x t ho base e i0 z size bytes ht hi hz0 hz1 hz2 hz hsz v n xs hs (HO.alloc _) ⟨W.heap.size, 0, none⟩ 1 1 ys hx (by omega)
    (World.news_of_block (cs := ys.toArray) (t := e) (fr := (0, 0)) (heap_alloc_new W _)) h1 (by simp only [maxLen]; omega) hl (by simp; omega) ?_
  intro v1 w1 hown hg _ hat
  obtain ⟨g, c, rfl, _, _⟩ := hown.form (by omega)
  refine h g c w1 hown (World.grownBy.trans (World.grownBy_alloc W _ _) hg) ?_
  rcases hat with hat | hat
  · left; rw [← hat]; rfl
  · right
    simp [Value.ownBlock] at hat
    omega
end
theorem own_lt {w : World} {base : Nat} {e : TypeId} {size n : Nat} {v : Value} {xs : List Value} (h : w.ownsRow base e size v n xs) (k : Nat) (hk : v.ownBlock = some k) : base ≤ k ∧ k < w.heap.size := by
  rcases h.2 with ⟨rfl, _⟩ | ⟨g, cap, cur, rfl, hb, hh, _⟩
  · simp [Value.ownBlock] at hk
  · have : g = k := by simpa [Value.ownBlock] using hk
    subst this
    exact ⟨hb, (Array.getElem?_eq_some_iff.1 hh).1⟩
/-- An owned row whose block is not touched lives on. -/
theorem Ext.own {D : List Nat} {w w' : World} {base : Nat} {e : TypeId} {size n : Nat} {v : Value} {xs : List Value} (hx : Ext D w w') (h : w.ownsRow base e size v n xs) (hd : ∀ k, v.ownBlock = some k → k ∉ D) : w'.ownsRow base e size v n xs := by
  refine ⟨h.1, ?_⟩
  rcases h.2 with h2 | ⟨g, cap, cur, hv, hg, hh, r⟩
  · exact .inl h2
  · exact .inr ⟨g, cap, cur, hv, hg, hx.same hh (hd g (by rw [hv]; rfl)), r⟩
theorem own_blk {w : World} {base : Nat} {e : TypeId} {size n g c : Nat} {xs : List Value} (h : w.ownsRow base e size (.slice (some ⟨g, 0, none⟩) n c) n xs) : Blk w g xs := by
  rcases h.2 with ⟨h, _⟩ | ⟨g', cap, cur, hv, hg, hh, _, _, _, r⟩
  · cases h
  · simp only [Value.slice.injEq, Option.some.injEq, Addr.mk.injEq] at hv
    obtain ⟨⟨rfl, _⟩, _, _⟩ := hv
    refine ⟨e, cur.toList.drop (n * size), ?_⟩
    rw [← r, List.take_append_drop]
    simpa using hh
theorem own_nil (W : World) (base : Nat) (e : TypeId) (size : Nat) : W.ownsRow base e size (.slice none 0 0) 0 [] := ⟨by simp, .inl ⟨rfl, rfl⟩⟩

theorem own_slice {w : World} {base n : Nat} {e : TypeId} {size : Nat} {v : Value} {xs : List Value} (h : w.ownsRow base e size v n xs) : ∃ A c, v = .slice A n c := by
  rcases h.2 with ⟨rfl, rfl⟩ | ⟨g, cap, cur, rfl, _⟩
  · exact ⟨none, 0, rfl⟩
  · exact ⟨_, cap, rfl⟩

/-! ### make -/
theorem made_flat {α : Type} {enc : α → List Value} {k : Nat} (hk : ∀ x, (enc x).length = k) (hk0 : 0 < k) (z : Array Value) (x : α) (hz : z.toList = enc x) (n : Nat) :
    madeCells z (n * k) = (flat enc (List.replicate n x)).toArray := by
  have hzs : z.size = k := by rw [← Array.length_toList, hz, hk]
  apply Array.ext'
  apply List.ext_getElem?
  intro j
  by_cases hj : j < n * k
  · have hd : j / k < n := by rw [Nat.div_lt_iff_lt_mul hk0]; exact hj
    have hm : j % k < k := Nat.mod_lt _ hk0
    have e : j = (j / k) * k + j % k := by rw [Nat.mul_comm]; exact (Nat.div_add_mod j k).symm
    have hx : (List.replicate n x)[j / k]'(by simpa using hd) = x := by simp
    have hr := flat_get hk (List.replicate n x) (j / k) (j % k) hm (by simpa using hd)
    rw [hx, ← e] at hr
    show _ = (flat enc (List.replicate n x))[j]?
    rw [hr, ← hz]
    simp only [madeCells, Array.getElem?_toList, Array.getElem?_map, Array.getElem?_range, hj, if_true, Option.map_some, hzs]
    rw [Array.getElem!_eq_getD, Array.getD_eq_getD_getElem?, Array.getElem?_eq_getElem (by omega)]
    simp
  · have h1 : (madeCells z (n * k)).toList.length ≤ j := by rw [Array.length_toList, size_madeCells]; omega
    have h2 : (flat enc (List.replicate n x)).length ≤ j := by rw [flat_length hk]; simp; omega
    rw [List.getElem?_eq_none h1]
    simp [List.getElem?_eq_none h2]

theorem make_run {P : Program} {α : Type} (enc : α → List Value) (k : Nat) (hk : ∀ x, (enc x).length = k) (hk0 : 0 < k) (x : α) (t e : TypeId) (z : Value) (bytes : Nat) (ht : P.underlying t = some (.slice e))
    (hinfo : (P.info? e).map (fun i => (i.zero, i.size, i.bytes)) = some (some z, k, bytes)) (hz : z.cells.toList = enc x) (n : Nat) (hn : bytes * n ≤ 281474976710656) (hb : 0 < bytes) :
    ∀ W : World, (Instr.makeSlice t (.int .i64 (n : Int)) (.int .i64 (n : Int))).run P W = .ok (.slice (some ⟨W.heap.size, 0, none⟩) n n) (W.alloc (.cells (flat enc (List.replicate n x)).toArray e)) := by
  intro W
  obtain ⟨i, hi, hzz⟩ := Option.map_eq_some_iff.1 hinfo
  simp only [Prod.mk.injEq] at hzz
  obtain ⟨h1, h2, h3⟩ := hzz
  have hn' : n ≤ 281474976710656 := Nat.le_trans (Nat.le_mul_of_pos_left _ hb) hn
  have hm : (i.bytes : Int) * (n : Int) ≤ 281474976710656 := by
    rw [h3]
    have h : ((bytes * n : Nat) : Int) ≤ 281474976710656 := by omega
    rwa [Int.natCast_mul] at h
  have := run_make (P := P) W t e i z ht hi h1 .i64 .i64 (n : Int) (n : Int) (by omega) (by omega) hm (by omega)
  rw [this, h2, Int.toNat_natCast, made_flat hk hk0 z.cells x hz n]

end Go.Proofs.YtgpmhfbkgcljbaaDoor
