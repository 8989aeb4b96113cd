/-
  The document's system: how it lies in memory; its maker.
-/
import Derived.Test.YtelnbplkjdfpaaaDoorSysRep
namespace Go.Proofs.YtelnbplkjdfpaaaDoor
open Go Go.RowKit

structure Slot where
  live : Bool
  gone : Bool
  ver : Int
  own : Int
  deriving DecidableEq
instance : Inhabited Slot := ⟨⟨false, false, 0, -1⟩⟩
def Slot.enc (s : Slot) : List Value := [.bool s.live, .bool s.gone, .int .i64 s.ver, .int .i64 s.own]
theorem Slot.len (s : Slot) : s.enc.length = 4 := rfl
theorem info_slot : (Tryd.prog.info? 272).map (fun i => (i.zero, i.size, i.bytes)) = some (some (.agg #[.bool false, .bool false, .int .i64 0, .int .i64 0]), 4, 24) := by kernel_rfl

/-- A slice that is a row of one's own. -/
def RowOf {α : Type} (enc : α → List Value) (k : Nat) (e : TypeId) (w : World) (v : Value) (l : List α) : Prop := w.ownsRow 0 e k v l.length (flat enc l)

theorem own_slice {w : World} {base n : Nat} {e : TypeId} {size : Nat} {v : Value} {xs : List Value} (h : w.ownsRow base e size v n xs) : ∃ A c, v = .slice A n c := by
  rcases h.2 with ⟨rfl, rfl⟩ | ⟨g, cap, cur, rfl, _⟩
  · exact ⟨none, 0, rfl⟩
  · exact ⟨_, cap, rfl⟩

structure SlotsNew (w : World) (n : Nat) (v : Value) (w' : World) : Prop where
  row : w'.ownsRow w.heap.size 272 4 v n (flat Slot.enc (List.replicate n default))
  ext : Ext [] w w'

theorem flat_replicate_succ {α : Type} (enc : α → List Value) (x : α) (k : Nat) : flat enc (List.replicate (k + 1) x) = flat enc (List.replicate k x) ++ enc x := by
  unfold flat
  rw [List.replicate_succ', List.flatMap_append]
  simp

set_option maxHeartbeats 400000 in
set_option maxRecDepth 100000 in
theorem slots_calls (w : World) (n : Nat) (hn : n ≤ 4096) :
    Calls Tryd.prog 142 #[.int .i64 (n : Int)] w fun e w' => ∃ A c, e = .returned (.slice A n c) ∧ SlotsNew w n (.slice A n c) w' := by
  go_enter Tryd.func142, Tryd.ntmps142
  go_wp2
  go_loopw [3, 4] (fun v i wr => ∃ k : Nat, k ≤ n ∧ i = .int .i64 k ∧ SlotsNew w k v wr) (fun _ i _ => n - (intOf i).toNat)
  case atStart => exact ⟨0, by omega, rfl, own_nil _ _ _ _, Ext.refl _ _⟩
  case round =>
    obtain ⟨k, hk, rfl, hO, hX⟩ := hrel
    by_cases hlt : k < n
    · have hwz := hX.size
      go_wp2_with (at_builtin; refine append_one w.heap.size rfl (.tmp 10) (.tmp 12) 243 272 _ 4 24 rfl Tryd.underlying243 info_slot rfl (by decide) (by decide) u3 k _ [.bool false, .bool false, .int .i64 0, .int .i64 (-1)] rfl rfl _ rfl rfl (by intro u hu; simp at hu; rcases hu with rfl | rfl | rfl <;> rfl) hO hwz (by omega) ?_; intro g c w3 hown3 hg3 hat3)
      go_roundw
      case rel =>
        refine ⟨k + 1, by omega, by go_num, ?_, hX.grown hg3 ?_⟩
        · rw [flat_replicate_succ]; exact hown3
        · intro j hj; exact .inr (own_lt hO j hj).1
      case measure => simp [intOf]; omega
    · obtain rfl : k = n := by omega
      go_wp2
      go_ret
      obtain ⟨A, c, rfl⟩ := own_slice hO
      exact ⟨A, c, rfl, hO, hX⟩

structure DomX where
  regs : Vector Int 8
  pc : Int
  state : Int
  fault : Int
  keys : Vector Key 16
  mem : Key
  meter : Key
  keeper : Key
  wait : Int
  callers : Value
def DomX.enc (d : DomX) : List Value :=
  wordsEnc d.regs ++ [.int .u32 d.pc, .int .i64 d.state, .int .i64 d.fault] ++ keysEnc d.keys ++ d.mem.enc ++ d.meter.enc ++ d.keeper.enc ++ [.int .i64 d.wait, d.callers]
theorem DomX.len (d : DomX) : d.enc.length = 108 := by simp [DomX.enc, wordsLen, keysLen, Key.len]
instance : Inhabited DomX := ⟨⟨Vector.replicate 8 0, 0, 0, 0, Vector.replicate 16 void, void, void, void, 0, .slice none 0 0⟩⟩
theorem info_domX : (Tryd.prog.info? 326).map (fun i => (i.zero, i.size, i.bytes)) = some (some (.agg (DomX.enc default).toArray), 108, 848) := by kernel_rfl
theorem info_meterX : (Tryd.prog.info? 328).map (fun i => (i.zero, i.size, i.bytes)) = some (some (.agg #[.int .i64 0, .int .i64 0]), 2, 16) := by kernel_rfl
theorem info_bankX : (Tryd.prog.info? 330).map (fun i => (i.zero, i.size, i.bytes)) = some (some (.agg #[.int .i64 0, .int .i64 0, .int .i64 0]), 3, 24) := by kernel_rfl
theorem info_makerX : (Tryd.prog.info? 332).map (fun i => (i.zero, i.size, i.bytes)) = some (some (.agg (MakerS.enc default).toArray), 31, 248) := by kernel_rfl
theorem info_keys16X : (Tryd.prog.info? 103).map (fun i => (i.zero, i.size, i.bytes)) = some (some (.agg (keysEnc (Vector.replicate 16 void)).toArray), 80, 640) := by kernel_rfl
theorem info_words32X : (Tryd.prog.info? 221).map (fun i => (i.zero, i.size, i.bytes)) = some (some (.agg (wordsEnc (Vector.replicate 32 0)).toArray), 32, 128) := by kernel_rfl

end Go.Proofs.YtelnbplkjdfpaaaDoor
