/-
  The makers of banks, caches, stores, memories and systems.
-/
import Derived.Test.YtpnjebpbglgebaaDoorSysRep
namespace Go.Proofs.YtpnjebpbglgebaaDoor
open Go Go.RowKit

def BankNew (w : World) (n mb db : Nat) (e : Ending) (w' : World) : Prop :=
  ∃ L : BankL, GaveNew e L.t.h ∧ BankRep w' L mb db (BanksS.new n) ∧ Ext [] w w' ∧ Fresh w w' L.fp

theorem bank_new {w w1 : World} {n a p mb db : Nat} {T T' : TypeId} (hA : ArenaRep w1 a p (List.replicate n default)) (hx : Ext [] w w1) (hf : Fresh w w1 [a, p]) :
    BankNew w n mb db (.returned (.tuple #[ptr (w1.heap.size + 1 + 1), .nilIface]))
      (((w1.alloc (.cells (flat BankS.enc (List.replicate n default)).toArray T)).alloc (.map #[] 0)).alloc
        (.cells #[ptr a, .slice (some ⟨w1.heap.size, 0, none⟩) n n, .map (some (w1.heap.size + 1)), ptr mb, ptr db] T')) := by
  have ha := hf a (by simp)
  have hp := hf p (by simp)
  have hne := hA.ne
  have hsz := hx.size
  have hH : Blk (((w1.alloc (.cells (flat BankS.enc (List.replicate n default)).toArray T)).alloc (.map #[] 0)).alloc
        (.cells #[ptr a, .slice (some ⟨w1.heap.size, 0, none⟩) n n, .map (some (w1.heap.size + 1)), ptr mb, ptr db] T')) (w1.heap.size + 1 + 1) [ptr a, .slice (some ⟨w1.heap.size, 0, none⟩) n n, .map (some (w1.heap.size + 1)), ptr mb, ptr db] := by
    have := Blk.new (w := (w1.alloc (.cells (flat BankS.enc (List.replicate n default)).toArray T)).alloc (.map #[] 0)) (cs := [ptr a, .slice (some ⟨w1.heap.size, 0, none⟩) n n, .map (some (w1.heap.size + 1)), ptr mb, ptr db]) (T := T')
    simpa using this
  refine ⟨⟨⟨w1.heap.size + 1 + 1, a, p, w1.heap.size⟩, w1.heap.size + 1⟩, rfl, ⟨⟨⟨n, ?_⟩, ?_, ?_, by simp [BanksS.new], ?_⟩, ⟨n, ?_⟩, ?_, ⟨.nil, .nil, by simp [BanksS.new]⟩, ?_⟩, ((hx.alloc _).alloc _).alloc _, ?_⟩
  · have := hH.front (cs := [ptr a, .slice (some ⟨w1.heap.size, 0, none⟩) n n]) (ds := [.map (some (w1.heap.size + 1)), ptr mb, ptr db])
    simpa [BanksS.new] using this
  · exact hA.ext ((((Ext.refl [] w1).alloc _).alloc _).alloc _) (by simp) (by simp)
  · exact (Blk.new.alloc _).alloc _
  · simp [TabL.fp, hne]; omega
  · simpa [BanksS.new] using hH
  · rw [Below.heap_alloc _ _ _ (by simp)]
    have := heap_alloc_new (w1.alloc (.cells (flat BankS.enc (List.replicate n default)).toArray T)) (.map #[] 0)
    simpa [BanksS.new] using this
  · simp [BankL.fp, TabL.fp, hne]; omega
  · intro b hb
    simp [BankL.fp, TabL.fp] at hb ⊢
    omega

set_option maxHeartbeats 400000 in
theorem bankNew_ok (w : World) (n mb db : Nat) (h1 : 1 ≤ n) (h2 : n ≤ 256) : Calls Tryd.prog 27 #[.int .i64 (n : Int), ptr mb, ptr db] w (BankNew w n mb db) := by
  have hmk := make_run (P := Tryd.prog) BankS.enc 3 BankS.len (by omega) default 69 83 _ 24 Tryd.underlying69 info_bank rfl n (by omega) (by omega)
  have hmm := @run_makeMap Tryd.prog
  go_enter Tryd.func27, Tryd.ntmps27
  go_wp2_with (go_at_call 49; refine (arenaNew_ok _ _ h1 h2).mono ?_; rintro e w1 ⟨a, p, rfl, hA, hx, hf⟩)
  go_ret2
  exact bank_new hA hx hf

def CacheNew (w : World) (n : Int) (e : Ending) (w' : World) : Prop :=
  ∃ c, GaveNew e c ∧ Blk w' c [.int .i64 n, .slice none 0 0, .int .i64 0] ∧ Ext [] w w' ∧ Fresh w w' [c]
set_option maxHeartbeats 400000 in
theorem cacheNew_ok (w : World) (n : Int) (h1 : 1 ≤ n) (h2 : n ≤ 64) : Calls Tryd.prog 48 #[.int .i64 n] w (CacheNew w n) := by
  go_enter Tryd.func48, Tryd.ntmps48
  go_wp2
  go_ret2
  exact ⟨w.heap.size, rfl, Blk.new (cs := [.int .i64 n, .slice none 0 0, .int .i64 0]), (Ext.refl _ _).alloc _, by intro b hb; simp at hb ⊢; omega⟩

structure StoreL where
  s : Nat
  nod : TabL
  pag : TabL
structure StoreNew (w : World) (n p : Nat) (L : StoreL) (w' : World) : Prop where
  hs : Blk w' L.s [ptr L.nod.h, ptr L.pag.h]
  nod : TabRep keysEnc w' L.nod (List.replicate n default) (List.replicate n (Vector.replicate 16 void))
  pag : TabRep wordsEnc w' L.pag (List.replicate p default) (List.replicate p (Vector.replicate 32 0))
  ext : Ext [] w w'
  fresh : Fresh w w' ([L.s] ++ (L.nod.fp ++ L.pag.fp))
  nd : ([L.s] ++ (L.nod.fp ++ L.pag.fp)).Nodup

theorem nodup_two {l m : List Nat} {x : Nat} (hl : l.Nodup) (hm : m.Nodup) (h : ∀ a ∈ l, a < x) (h' : ∀ b ∈ m, x ≤ b) : (l ++ m).Nodup := by
  rw [List.nodup_append]
  exact ⟨hl, hm, fun a ha b hb => by have := h a ha; have := h' b hb; omega⟩

set_option maxHeartbeats 400000 in
theorem storeNew_ok (w : World) (n p : Nat) (h1 : 1 ≤ n) (h2 : n ≤ 256) (h3 : 1 ≤ p) (h4 : p ≤ 256) :
    Calls Tryd.prog 47 #[.int .i64 (n : Int), .int .i64 (p : Int)] w fun e w' => ∃ L : StoreL, GaveNew e L.s ∧ StoreNew w n p L w' := by
  go_enter Tryd.func47, Tryd.ntmps47
  go_wp2_with (first | (go_at_call 60; refine (nodeNew_ok _ _ h1 h2).mono ?_; rintro e w1 ⟨L1, rfl, hT1, hx1, hf1⟩) | (go_at_call 61; refine (pageNew_ok _ _ h3 h4).mono ?_; rintro e w2 ⟨L2, rfl, hT2, hx2, hf2⟩))
  go_ret2
  refine ⟨⟨w2.heap.size, L1, L2⟩, rfl, Blk.new (cs := [ptr L1.h, ptr L2.h]), (hT1.ext hx2 (by simp)).ext ((Ext.refl [] _).alloc _) (by simp), hT2.ext ((Ext.refl [] _).alloc _) (by simp), (hx1.trans hx2).alloc _, ?_, ?_⟩
  · intro b hb
    have s1 := hx1.size
    have s2 := hx2.size
    simp only [World.size_alloc]
    rcases List.mem_append.1 hb with hb | hb
    · simp at hb; omega
    · rcases List.mem_append.1 hb with hb | hb
      · have := hf1 b hb; omega
      · have := hf2 b hb; omega
  · rw [List.nodup_append]
    refine ⟨by simp, nodup_two hT1.nd hT2.nd (fun a ha => (hf1 a ha).2) (fun b hb => (hf2 b hb).1), ?_⟩
    intro a ha b hb
    have s2 := hx2.size
    simp at ha; subst ha
    rcases List.mem_append.1 hb with hb | hb
    · have := hf1 b hb; omega
    · have := hf2 b hb; omega

set_option maxHeartbeats 400000 in
theorem storeNew_bad {K : List Nat} {B : Nat} {E : Nat → Addr} (w : World) (n p : Int) (h : n < 1 ∨ 256 < n ∨ p < 1 ∨ 256 < p) (he : Errs K B E w) (hK : 3 ∈ K) :
    Calls Tryd.prog 47 #[.int .i64 n, .int .i64 p] w (NewBad E w) := by
  by_cases hn : n < 1 ∨ 256 < n
  · go_enter Tryd.func47, Tryd.ntmps47
    go_wp2_with (go_at_call 60; refine (nodeNew_bad _ _ hn he hK).mono ?_; rintro e w1 ⟨rfl, hx⟩)
    go_ret2
    exact ⟨rfl, hx⟩
  · have h1 : 1 ≤ n := by omega
    have h2 : n ≤ 256 := by omega
    have hp : p < 1 ∨ 256 < p := by omega
    obtain ⟨m, rfl⟩ := Int.eq_ofNat_of_zero_le (show 0 ≤ n by omega)
    go_enter Tryd.func47, Tryd.ntmps47
    go_wp2_with (first | (go_at_call 60; refine (nodeNew_ok _ _ (by omega) (by omega)).mono ?_; rintro e w1 ⟨L1, rfl, hT1, hx1, hf1⟩) | (go_at_call 61; refine (pageNew_bad _ _ hp (he.ext hx1 (by simp)) hK).mono ?_; rintro e w1 ⟨rfl, hx⟩))
    go_ret2
    exact ⟨rfl, hx1.trans hx⟩

/-! ### mem.New -/
def MemNew (w : World) (n p : Nat) (k : Int) (e : Ending) (w' : World) : Prop :=
  ∃ L : MemL, GaveNew e L.m ∧ MemRep w' L (MemS.new n p k) ∧ Ext [] w w' ∧ Fresh w w' L.fp

set_option maxHeartbeats 400000 in
theorem memNew_ok (w : World) (n p : Nat) (k : Int) (h1 : 1 ≤ n) (h2 : n ≤ 256) (h3 : 1 ≤ p) (h4 : p ≤ 256) (h5 : 1 ≤ k) (h6 : k ≤ 64) :
    Calls Tryd.prog 25 #[.int .i64 (n : Int), .int .i64 (p : Int), .int .i64 k] w (MemNew w n p k) := by
  go_enter Tryd.func25, Tryd.ntmps25
  go_wp2_with (first | (go_at_call 47; refine (storeNew_ok _ _ _ h1 h2 h3 h4).mono ?_; rintro e w1 ⟨L1, rfl, hs⟩) | (go_at_call 48; refine (cacheNew_ok _ _ h5 h6).mono ?_; rintro e w2 ⟨c, rfl, hc, hx2, hf2⟩))
  go_ret2
  obtain ⟨hh, hN, hP, hx1, hf1, hd1⟩ := hs
  have hx3 : Ext [] w2 (w2.alloc (.cells #[ptr L1.s, .int .i64 k, ptr c] 49)) := (Ext.refl [] _).alloc _
  have s1 := hx1.size
  have s2 := hx2.size
  have hcf := hf2 c (by simp)
  refine ⟨⟨w2.heap.size, L1.s, c, L1.nod, L1.pag⟩, rfl, ⟨Blk.new (cs := [ptr L1.s, .int .i64 k, ptr c]), hx3.blk (hx2.blk hh (by simp)) (by simp), (hN.ext hx2 (by simp)).ext hx3 (by simp), (hP.ext hx2 (by simp)).ext hx3 (by simp), hx3.blk hc (by simp), ?_⟩, (hx1.trans hx2).trans hx3, ?_⟩
  · simp only [MemL.fp]
    have e1 := hf1 L1.s (by simp)
    rw [List.nodup_append]
    refine ⟨by simp; omega, (List.nodup_append.1 hd1).2.1, ?_⟩
    intro a ha b hb
    have hb' := hf1 b (List.mem_append.2 (.inr hb))
    have hne := (List.nodup_append.1 hd1).2.2 L1.s (by simp) b hb
    simp at ha
    omega
  · intro b hb
    simp only [World.size_alloc]
    simp only [MemL.fp] at hb
    rcases List.mem_append.1 hb with hb | hb
    · have e1 := hf1 L1.s (by simp)
      simp at hb; omega
    · have := hf1 b (List.mem_append.2 (.inr hb)); omega

set_option maxHeartbeats 400000 in
theorem memNew_bad {K : List Nat} {B : Nat} {E : Nat → Addr} (w : World) (n p k : Int) (h : n < 1 ∨ 256 < n ∨ p < 1 ∨ 256 < p) (he : Errs K B E w) (hK : 3 ∈ K) :
    Calls Tryd.prog 25 #[.int .i64 n, .int .i64 p, .int .i64 k] w (NewBad E w) := by
  go_enter Tryd.func25, Tryd.ntmps25
  go_wp2_with (go_at_call 47; refine (storeNew_bad _ _ _ h he hK).mono ?_; rintro e w1 ⟨rfl, hx⟩)
  go_ret2
  exact ⟨rfl, hx⟩
end Go.Proofs.YtpnjebpbglgebaaDoor
