/-
  Package code: names, numerals.
-/
import Derived.Test.YtgpmhfbkgcljbaaDoorCode3
import Derived.Test.YtgpmhfbkgcljbaaDoorShelf
import Derived.Lib.AppendIntMem
import Derived.Lib.SmallJoins
namespace Go.Proofs.YtgpmhfbkgcljbaaDoor
open Go Go.RowKit

@[reducible] def strV (l : List UInt8) : Value := .string ⟨l.toArray⟩
/-- What the library reads: a variable, a table. -/
structure Tabs (w : World) : Prop where
  ml : ∃ m, w.cell? ⟨13, 0, none⟩ = some (.int .i64 m)
  tab : Lib.TabIs Tryd.prog w "internal/strconv.uint64pow10" .u64 Lib.pow10Tab
theorem Tabs.ext {w w' : World} (h : Tabs w) (hx : Ext [] w w') : Tabs w' := by
  obtain ⟨m, hm⟩ := h.ml
  exact ⟨⟨m, hx.cell hm (by simp)⟩, Lib.tabBelow_of_tabIs h.tab w' hx.below⟩

theorem itoa_calls (w : World) (n : Nat) (hn : n ≤ 1000000) (ht : Tabs w) :
    Calls Tryd.prog 29 #[.int .i64 n] w fun e w' => e = .returned (strV (Lib.decDigits n)) ∧ Ext [] w w' := by
  refine (Tryd.strconv_Itoa (n : Int) (by omega) (by omega) w ht.tab).mono ?_
  rintro e w' ⟨rfl, k, os, rfl⟩
  rw [Lib.itoa_nonneg]
  exact ⟨rfl, Ext.of_below (Lib.below_grow _ w (Nat.le_refl _) k os)⟩

def namesS : ByteArray := ⟨#[108, 105, 32, 108, 105, 104, 32, 97, 108, 117, 32, 106, 109, 112, 32, 106, 122, 32, 108, 111, 97, 100, 32, 115, 97, 118, 101, 32, 107, 109, 111, 118, 101, 32, 107, 110, 117, 109, 32, 107, 103, 101, 116, 32, 105, 110, 118, 32, 121, 105, 101, 108, 100, 32, 104, 97, 108, 116]⟩
theorem names_split : Lib.countB namesS ⟨#[32]⟩ = 12 := by kernel_rfl
theorem names_list : (Lib.splitB ⟨#[32]⟩ 0 12 namesS).map Value.string = (List.range 13).map fun i => strV (nameW (i + 1)) := by kernel_rfl

set_option maxHeartbeats 800000 in
theorem names_calls (w : World) (ht : Tabs w) :
    Calls Tryd.prog 26 #[] w fun e w' => e = .returned (.slice (some ⟨w.heap.size, 0, none⟩) 13 13) ∧ Blk w' w.heap.size ((List.range 13).map fun i => strV (nameW (i + 1))) ∧ Ext [] w w' := by
  obtain ⟨m, hm⟩ := ht.ml
  have hS := Tryd.strings_Split namesS ⟨#[32]⟩ m w (by decide) hm (by decide)
  rw [names_split] at hS
  have HS := Lib.hid hS
  clear hS hm ht
  go_enter Tryd.func26, Tryd.ntmps26
  go_wp2_with (go_at_call 42; refine HS.out.mono ?_; rintro e w1 ⟨rfl, hw1⟩)
  go_ret
  subst hw1
  refine ⟨rfl, ?_, (Ext.refl _ _).alloc _⟩
  rw [names_list]
  exact Blk.new

set_option maxHeartbeats 800000 in
theorem hows_calls (w : World) :
    Calls Tryd.prog 31 #[] w fun e w' => e = .returned (.slice (some ⟨w.heap.size, 0, none⟩) 3 3) ∧ Blk w' w.heap.size ((List.range 3).map fun i => strV (howW i)) ∧ Ext [] w w' := by
  go_enter Tryd.func31, Tryd.ntmps31
  go_wp2
  go_ret
  exact ⟨rfl, Blk.new (cs := (List.range 3).map fun i => strV (howW i)), (Ext.refl _ _).alloc _⟩

set_option maxHeartbeats 1600000 in
theorem opName_calls (w : World) (n : Nat) (hn : n < 12) : Calls Tryd.prog 30 #[.int .i64 n] w fun e w' => e = .returned (strV (opW n)) ∧ Ext [] w w' := by
  have h12 : n = 0 ∨ n = 1 ∨ n = 2 ∨ n = 3 ∨ n = 4 ∨ n = 5 ∨ n = 6 ∨ n = 7 ∨ n = 8 ∨ n = 9 ∨ n = 10 ∨ n = 11 := by omega
  rcases h12 with rfl | rfl | rfl | rfl | rfl | rfl | rfl | rfl | rfl | rfl | rfl | rfl
  all_goals
    go_enter Tryd.func30, Tryd.ntmps30
    go_wp2
    go_ret
    exact ⟨rfl, (Ext.refl _ _).alloc _⟩
end Go.Proofs.YtgpmhfbkgcljbaaDoor
