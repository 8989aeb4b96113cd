/-
  Keys, and places with rows ('struct { *Arena; l []T }'): nodes, pages, meters, factories, domains, banks begin so.
-/
import Derived.Test.YtpnjebpbglgebaaDoorArena2
namespace Go.Proofs.YtpnjebpbglgebaaDoor
open Go Go.RowKit

structure Key where
  kind : Int
  id : Int
  ver : Int
  rights : Int
  data : Int
  deriving DecidableEq
instance : Inhabited Key := ⟨⟨0, 0, 0, 0, 0⟩⟩
def Key.enc (k : Key) : List Value := [.int .i64 k.kind, .int .i64 k.id, .int .i64 k.ver, .int .i64 k.rights, .int .u32 k.data]
theorem Key.len (k : Key) : k.enc.length = 5 := rfl
@[reducible] def Key.val (k : Key) : Value := .agg #[.int .i64 k.kind, .int .i64 k.id, .int .i64 k.ver, .int .i64 k.rights, .int .u32 k.data]
def void : Key := ⟨0, 0, 0, 0, 0⟩

/-- A row of n keys; a row of n words. -/
def keysEnc {n : Nat} (v : Vector Key n) : List Value := flat Key.enc v.toList
theorem keysLen {n : Nat} (v : Vector Key n) : (keysEnc v).length = n * 5 := by simp [keysEnc, flat_length Key.len]
def wordsEnc {n : Nat} (v : Vector Int n) : List Value := v.toList.map fun x => .int .u32 x
theorem wordsLen {n : Nat} (v : Vector Int n) : (wordsEnc v).length = n := by simp [wordsEnc]

structure TabL where
  h : Nat
  a : Nat
  p : Nat
  r : Nat
def TabL.fp (L : TabL) : List Nat := [L.h, L.a, L.p, L.r]

structure TabRep {α : Type} (enc : α → List Value) (w : World) (L : TabL) (ps : List Place) (rs : List α) : Prop where
  hdr : ∃ c, Blk w L.h [.pointer (some ⟨L.a, 0, none⟩), .slice (some ⟨L.r, 0, none⟩) ps.length c]
  arena : ArenaRep w L.a L.p ps
  rows : Blk w L.r (flat enc rs)
  len : rs.length = ps.length
  nd : L.fp.Nodup

theorem TabRep.ext {α : Type} {enc : α → List Value} {w w' : World} {L : TabL} {ps : List Place} {rs : List α} {D : List Nat} (h : TabRep enc w L ps rs) (hx : Ext D w w') (hd : ∀ b ∈ L.fp, b ∉ D) : TabRep enc w' L ps rs :=
  { hdr := by obtain ⟨c, hc⟩ := h.hdr; exact ⟨c, hx.blk hc (hd _ (by simp [TabL.fp]))⟩
    arena := h.arena.ext hx (hd _ (by simp [TabL.fp])) (hd _ (by simp [TabL.fp]))
    rows := hx.blk h.rows (hd _ (by simp [TabL.fp]))
    len := h.len
    nd := h.nd }
theorem TabRep.drewN {α : Type} {enc : α → List Value} {w : World} {L : TabL} {ps : List Place} {rs : List α} (h : TabRep enc w L ps rs) (n : Nat) : TabRep enc (w.drewN n) L ps rs :=
  h.ext ((Ext.refl [] w).drewN n) (fun _ _ hb => by cases hb)

/-- All of these blocks are new. -/
def Fresh (w w' : World) (bs : List Nat) : Prop := ∀ b ∈ bs, w.heap.size ≤ b ∧ b < w'.heap.size

theorem TabRep.lt {α : Type} {enc : α → List Value} {w : World} {L : TabL} {ps : List Place} {rs : List α} (h : TabRep enc w L ps rs) : ∀ b ∈ L.fp, b < w.heap.size := by
  intro b hb
  simp only [TabL.fp, List.mem_cons, List.mem_nil_iff, or_false] at hb
  obtain ⟨c, hc⟩ := h.hdr
  obtain ⟨c', hc'⟩ := h.arena.hdr
  rcases hb with rfl | rfl | rfl | rfl
  · exact hc.lt
  · exact hc'.lt
  · exact h.arena.row.lt
  · exact h.rows.lt

end Go.Proofs.YtpnjebpbglgebaaDoor
