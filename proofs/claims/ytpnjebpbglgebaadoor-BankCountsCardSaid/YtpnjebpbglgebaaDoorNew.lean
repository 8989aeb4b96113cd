/-
  The makers of arenas and of places with rows.
-/
import Derived.Test.YtpnjebpbglgebaaDoorTab
namespace Go.Proofs.YtpnjebpbglgebaaDoor
open Go Go.RowKit

theorem info_place : (Tryd.prog.info? 102).map (fun i => (i.zero, i.size, i.bytes)) = some (some (.agg #[.bool false, .int .i64 0, .bool false]), 3, 24) := by kernel_rfl
theorem info_keys16 : (Tryd.prog.info? 122).map (fun i => (i.zero, i.size, i.bytes)) = some (some (.agg (keysEnc (Vector.replicate 16 void)).toArray), 80, 640) := by kernel_rfl
theorem info_words32 : (Tryd.prog.info? 123).map (fun i => (i.zero, i.size, i.bytes)) = some (some (.agg (wordsEnc (Vector.replicate 32 0)).toArray), 32, 128) := by kernel_rfl

/-- What came back is a pointer to a, and no error. -/
def GaveNew (e : Ending) (a : Nat) : Prop := e = .returned (.tuple #[.pointer (some ⟨a, 0, none⟩), .nilIface])

def ArenaNew (w : World) (n : Nat) (e : Ending) (w' : World) : Prop :=
  ∃ a p, GaveNew e a ∧ ArenaRep w' a p (List.replicate n default) ∧ Ext [] w w' ∧ Fresh w w' [a, p]
def NewBad (E : Nat → Addr) (w : World) (e : Ending) (w' : World) : Prop := e = .returned (.tuple #[.pointer none, errV E 3]) ∧ Ext [] w w'

theorem vers_new (n : Nat) : Vers (List.replicate n default) := by
  intro p hp
  obtain ⟨_, rfl⟩ := List.mem_replicate.1 hp
  decide

set_option maxHeartbeats 400000 in
theorem arenaNew_ok (w : World) (n : Nat) (h1 : 1 ≤ n) (h2 : n ≤ 256) : Calls Tryd.prog 49 #[.int .i64 (n : Int)] w (ArenaNew w n) := by
  have hmk := make_run (P := Tryd.prog) Place.enc 3 Place.len (by omega) default 98 102 _ 24 Tryd.underlying98 info_place rfl n (by omega) (by omega)
  go_enter Tryd.func49, Tryd.ntmps49
  go_wp2
  go_ret2
  have hne : w.heap.size + 1 ≠ w.heap.size := by omega
  refine ⟨w.heap.size + 1, w.heap.size, rfl, ⟨⟨n, ?_⟩, ?_, hne, by simp; omega, vers_new n⟩, ((Ext.refl _ _).alloc _).alloc _, ?_⟩
  · have := Blk.new (w := w.alloc (.cells (flat Place.enc (List.replicate n default)).toArray 102)) (cs := [.slice (some ⟨w.heap.size, 0, none⟩) n n]) (T := 100)
    simpa using this
  · exact Blk.new.alloc _
  · intro b hb; simp at hb ⊢; omega

set_option maxHeartbeats 400000 in
theorem arenaNew_bad {K : List Nat} {B : Nat} {E : Nat → Addr} (w : World) (n : Int) (h : n < 1 ∨ 256 < n) (he : Errs K B E w) (hK : 3 ∈ K) :
    Calls Tryd.prog 49 #[.int .i64 n] w (NewBad E w) := by
  have hE := he.glob 3 hK
  simp only [glob] at hE
  clear he hK
  by_cases h1 : n < 1
  · have h1' : decide (n < 1) = true := by simpa using h1
    clear h
    go_enter Tryd.func49, Tryd.ntmps49
    go_wp2
    go_quiet (fail)
    go_wp2
    go_ret2
    exact ⟨rfl, (Ext.refl _ _).drewN _⟩
  · have h2 : 256 < n := by omega
    clear h
    go_enter Tryd.func49, Tryd.ntmps49
    go_wp2
    go_quiet (fail)
    go_wp2
    go_ret2
    exact ⟨rfl, (Ext.refl _ _).drewN _⟩

/-! ### struct { *Arena; l []T } -/
def TabNew {α : Type} (enc : α → List Value) (x : α) (w : World) (n : Nat) (e : Ending) (w' : World) : Prop :=
  ∃ L : TabL, GaveNew e L.h ∧ TabRep enc w' L (List.replicate n default) (List.replicate n x) ∧ Ext [] w w' ∧ Fresh w w' L.fp

/-- Out of a new arena, a row behind it and a header. -/
theorem tab_new {α : Type} {enc : α → List Value} {x : α} {w w1 : World} {n a p : Nat} {T T' : TypeId} {more : List Value} (hA : ArenaRep w1 a p (List.replicate n default)) (hx : Ext [] w w1) (hf : Fresh w w1 [a, p]) :
    ∃ L : TabL, L.h = w1.heap.size + 1 ∧ L.a = a ∧ L.r = w1.heap.size ∧
      TabRep enc ((w1.alloc (.cells (flat enc (List.replicate n x)).toArray T)).alloc (.cells ([Value.pointer (some ⟨a, 0, none⟩), Value.slice (some ⟨w1.heap.size, 0, none⟩) n n] ++ more).toArray T')) L (List.replicate n default) (List.replicate n x) ∧
      Ext [] w ((w1.alloc (.cells (flat enc (List.replicate n x)).toArray T)).alloc (.cells ([Value.pointer (some ⟨a, 0, none⟩), Value.slice (some ⟨w1.heap.size, 0, none⟩) n n] ++ more).toArray T')) ∧
      Fresh w ((w1.alloc (.cells (flat enc (List.replicate n x)).toArray T)).alloc (.cells ([Value.pointer (some ⟨a, 0, none⟩), Value.slice (some ⟨w1.heap.size, 0, none⟩) n n] ++ more).toArray T')) L.fp := by
  have ha := hf a (by simp)
  have hp := hf p (by simp)
  have hne := hA.ne
  have hsz := hx.size
  refine ⟨⟨w1.heap.size + 1, a, p, w1.heap.size⟩, rfl, rfl, rfl, ⟨⟨n, ?_⟩, ?_, ?_, by simp, ?_⟩, (hx.alloc _).alloc _, ?_⟩
  · have := Blk.new (w := w1.alloc (.cells (flat enc (List.replicate n x)).toArray T)) (cs := [.pointer (some ⟨a, 0, none⟩), .slice (some ⟨w1.heap.size, 0, none⟩) n n] ++ more) (T := T')
    simpa using this.front
  · exact hA.ext (((Ext.refl [] w1).alloc _).alloc _) (by simp) (by simp)
  · exact Blk.new.alloc _
  · simp [TabL.fp, hne]; omega
  · intro b hb
    simp [TabL.fp] at hb ⊢
    omega

theorem replicate_len_default (n : Nat) : (List.replicate n (default : Place)).length = n := by simp

set_option maxHeartbeats 400000 in
theorem nodeNew_ok (w : World) (n : Nat) (h1 : 1 ≤ n) (h2 : n ≤ 256) : Calls Tryd.prog 60 #[.int .i64 (n : Int)] w (TabNew keysEnc (Vector.replicate 16 void) w n) := by
  have hmk := make_run (P := Tryd.prog) (keysEnc (n := 16)) 80 keysLen (by omega) (Vector.replicate 16 void) 56 122 _ 640 Tryd.underlying56 info_keys16 rfl n (by omega) (by omega)
  go_enter Tryd.func60, Tryd.ntmps60
  go_wp2_with (go_at_call 49; refine (arenaNew_ok _ _ h1 h2).mono ?_; rintro e w1 ⟨a, p, rfl, hA, hx, hf⟩)
  go_ret2
  obtain ⟨L, e1, e2, e3, hT, hX, hF⟩ := tab_new (enc := keysEnc (n := 16)) (x := Vector.replicate 16 void) (T := 122) (T' := 58) (more := []) hA hx hf
  exact ⟨L, by rw [e1]; rfl, hT, hX, hF⟩

structure MeterS where
  parent : Int
  ticks : Int
  deriving DecidableEq
instance : Inhabited MeterS := ⟨⟨0, 0⟩⟩
def MeterS.enc (m : MeterS) : List Value := [.int .i64 m.parent, .int .i64 m.ticks]
theorem MeterS.len (m : MeterS) : m.enc.length = 2 := rfl

structure MakerS where
  isSealed : Bool
  parts : Vector Key 6
instance : Inhabited MakerS := ⟨⟨false, Vector.replicate 6 void⟩⟩
def MakerS.enc (m : MakerS) : List Value := .bool m.isSealed :: keysEnc m.parts
theorem MakerS.len (m : MakerS) : m.enc.length = 31 := by simp [MakerS.enc, keysLen]
structure BankS where
  parent : Int
  limit : Int
  used : Int
  deriving DecidableEq
instance : Inhabited BankS := ⟨⟨0, 0, 0⟩⟩
def BankS.enc (m : BankS) : List Value := [.int .i64 m.parent, .int .i64 m.limit, .int .i64 m.used]
theorem BankS.len (m : BankS) : m.enc.length = 3 := rfl
theorem info_bank : (Tryd.prog.info? 83).map (fun i => (i.zero, i.size, i.bytes)) = some (some (.agg #[.int .i64 0, .int .i64 0, .int .i64 0]), 3, 24) := by kernel_rfl

set_option maxHeartbeats 400000 in
theorem pageNew_ok (w : World) (n : Nat) (h1 : 1 ≤ n) (h2 : n ≤ 256) : Calls Tryd.prog 61 #[.int .i64 (n : Int)] w (TabNew (wordsEnc (n := 32)) (Vector.replicate 32 0) w n) := by
  have hmk := make_run (P := Tryd.prog) (wordsEnc (n := 32)) 32 wordsLen (by omega) (Vector.replicate 32 0) 59 123 _ 128 Tryd.underlying59 info_words32 rfl n (by omega) (by omega)
  go_enter Tryd.func61, Tryd.ntmps61
  go_wp2_with (go_at_call 49; refine (arenaNew_ok _ _ h1 h2).mono ?_; rintro e w1 ⟨a, p, rfl, hA, hx, hf⟩)
  go_ret2
  obtain ⟨L, e1, e2, e3, hT, hX, hF⟩ := tab_new (enc := (wordsEnc (n := 32))) (x := (Vector.replicate 32 0)) (T := 123) (T' := 61) (more := []) hA hx hf
  exact ⟨L, by rw [e1]; rfl, hT, hX, hF⟩

set_option maxHeartbeats 400000 in
theorem nodeNew_bad {K : List Nat} {B : Nat} {E : Nat → Addr} (w : World) (n : Int) (h : n < 1 ∨ 256 < n) (he : Errs K B E w) (hK : 3 ∈ K) :
    Calls Tryd.prog 60 #[.int .i64 n] w (NewBad E w) := by
  go_enter Tryd.func60, Tryd.ntmps60
  go_wp2_with (go_at_call 49; refine (arenaNew_bad _ _ h he hK).mono ?_; rintro e w1 ⟨rfl, hx⟩)
  go_ret2
  exact ⟨rfl, hx⟩

set_option maxHeartbeats 400000 in
theorem pageNew_bad {K : List Nat} {B : Nat} {E : Nat → Addr} (w : World) (n : Int) (h : n < 1 ∨ 256 < n) (he : Errs K B E w) (hK : 3 ∈ K) :
    Calls Tryd.prog 61 #[.int .i64 n] w (NewBad E w) := by
  go_enter Tryd.func61, Tryd.ntmps61
  go_wp2_with (go_at_call 49; refine (arenaNew_bad _ _ h he hK).mono ?_; rintro e w1 ⟨rfl, hx⟩)
  go_ret2
  exact ⟨rfl, hx⟩

set_option maxHeartbeats 400000 in
theorem domNew_bad {K : List Nat} {B : Nat} {E : Nat → Addr} (w : World) (n : Int) (h : n < 1 ∨ 256 < n) (he : Errs K B E w) (hK : 3 ∈ K) :
    Calls Tryd.prog 26 #[.int .i64 n] w (NewBad E w) := by
  go_enter Tryd.func26, Tryd.ntmps26
  go_wp2_with (go_at_call 49; refine (arenaNew_bad _ _ h he hK).mono ?_; rintro e w1 ⟨rfl, hx⟩)
  go_ret2
  exact ⟨rfl, hx⟩

set_option maxHeartbeats 400000 in
theorem bankNew_bad {K : List Nat} {B : Nat} {E : Nat → Addr} (w : World) (n : Int) (m d : Value) (h : n < 1 ∨ 256 < n) (he : Errs K B E w) (hK : 3 ∈ K) :
    Calls Tryd.prog 27 #[.int .i64 n, m, d] w (NewBad E w) := by
  go_enter Tryd.func27, Tryd.ntmps27
  go_wp2_with (go_at_call 49; refine (arenaNew_bad _ _ h he hK).mono ?_; rintro e w1 ⟨rfl, hx⟩)
  go_ret2
  exact ⟨rfl, hx⟩
end Go.Proofs.YtpnjebpbglgebaaDoor
