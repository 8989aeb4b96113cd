/-
  The makers of domains and banks.
-/
import Derived.Test.YtpnjebpbglgebaaDoorNew
namespace Go.Proofs.YtpnjebpbglgebaaDoor
open Go Go.RowKit

structure DomS where
  regs : Vector Int 8
  pc : Int
  state : Int
  fault : Int
  keys : Vector Key 16
  mem : Key
  meter : Key
  keeper : Key
  wait : Int
def DomS.enc (d : DomS) : List Value :=
  wordsEnc d.regs ++ [.int .u32 d.pc, .int .i64 d.state, .int .i64 d.fault] ++ keysEnc d.keys ++ d.mem.enc ++ d.meter.enc ++ d.keeper.enc ++ [.int .i64 d.wait]
theorem DomS.len (d : DomS) : d.enc.length = 107 := by simp [DomS.enc, wordsLen, keysLen, Key.len]
instance : Inhabited DomS := ⟨⟨Vector.replicate 8 0, 0, 0, 0, Vector.replicate 16 void, void, void, void, 0⟩⟩
theorem info_dom : (Tryd.prog.info? 132).map (fun i => (i.zero, i.size, i.bytes)) = some (some (.agg (DomS.enc default).toArray), 107, 824) := by kernel_rfl
theorem info_queuePtr : (Tryd.prog.info? 118).map (fun i => (i.zero, i.size, i.bytes)) = some (some (.pointer none), 1, 8) := by kernel_rfl

@[reducible] def ptr (b : Nat) : Value := .pointer (some ⟨b, 0, none⟩)

/-- Who waits for each domain: a row c of queues qs, all empty. -/
structure CallRep (w : World) (h c : Nat) (qs : List Nat) (a r n cap : Nat) : Prop where
  hdr : ∃ c1, Blk w h [ptr a, .slice (some ⟨r, 0, none⟩) n cap, .slice (some ⟨c, 0, none⟩) qs.length c1]
  row : Blk w c (qs.map ptr)
  each : ∀ q ∈ qs, Blk w q [.slice none 0 0]

/-- The domains: places with rows, and for each a queue of those that wait for it. -/
structure DomL where
  t : TabL
  c : Nat
  qs : List Nat
def DomL.fp (L : DomL) : List Nat := L.t.fp ++ L.c :: L.qs
structure DomRep (w : World) (L : DomL) (ps : List Place) (ds : List DomS) : Prop where
  tab : TabRep DomS.enc w L.t ps ds
  hdr : ∃ c1 c2, Blk w L.t.h [ptr L.t.a, .slice (some ⟨L.t.r, 0, none⟩) ps.length c1, .slice (some ⟨L.c, 0, none⟩) L.qs.length c2]
  row : Blk w L.c (L.qs.map ptr)
  each : ∀ q ∈ L.qs, Blk w q [.slice none 0 0]
  qlen : L.qs.length = ps.length
  nd : L.fp.Nodup

theorem DomRep.ext {w w' : World} {L : DomL} {ps : List Place} {ds : List DomS} {D : List Nat} (h : DomRep w L ps ds) (hx : Ext D w w') (hd : ∀ b ∈ L.fp, b ∉ D) : DomRep w' L ps ds :=
  { tab := h.tab.ext hx (fun b hb => hd b (by simp [DomL.fp, hb]))
    hdr := by obtain ⟨c1, c2, hc⟩ := h.hdr; exact ⟨c1, c2, hx.blk hc (hd _ (by simp [DomL.fp, TabL.fp]))⟩
    row := hx.blk h.row (hd _ (by simp [DomL.fp]))
    each := fun q hq => hx.blk (h.each q hq) (hd _ (by simp [DomL.fp, hq]))
    qlen := h.qlen
    nd := h.nd }
theorem DomRep.lt {w : World} {L : DomL} {ps : List Place} {ds : List DomS} (h : DomRep w L ps ds) : ∀ b ∈ L.fp, b < w.heap.size := by
  intro b hb
  simp only [DomL.fp, List.mem_append, List.mem_cons] at hb
  rcases hb with hb | rfl | hb
  · exact h.tab.lt b hb
  · exact h.row.lt
  · exact (h.each b hb).lt

def DomNew (w : World) (n : Nat) (e : Ending) (w' : World) : Prop :=
  ∃ L : DomL, GaveNew e L.t.h ∧ DomRep w' L (List.replicate n default) (List.replicate n default) ∧ Ext [] w w' ∧ Fresh w w' L.fp

/-- What holds when k queues have been made. -/
structure DomRound (w wr : World) (n a p r h : Nat) (k : Nat) (v : Value) (qs : List Nat) : Prop where
  ext : Ext [] w wr
  arena : ArenaRep wr a p (List.replicate n default)
  rows : Blk wr r (flat DomS.enc (List.replicate n default))
  hdr : Blk wr h [ptr a, .slice (some ⟨r, 0, none⟩) n n, v]
  own : wr.ownsRow (w.heap.size) 118 1 v k (qs.map ptr)
  each : ∀ q ∈ qs, Blk wr q [.slice none 0 0]
  fresh : Fresh w wr ([h, a, p, r] ++ qs)
  nd : ([h, a, p, r] ++ qs).Nodup
  blk : ∀ g, v.ownBlock = some g → g ∉ [h, a, p, r] ++ qs

theorem dom_start {w w1 : World} {n a p : Nat} {T T' : TypeId} (hA : ArenaRep w1 a p (List.replicate n default)) (hx : Ext [] w w1) (hf : Fresh w w1 [a, p]) :
    DomRound w ((w1.alloc (.cells (flat DomS.enc (List.replicate n default)).toArray T)).alloc (.cells #[ptr a, .slice (some ⟨w1.heap.size, 0, none⟩) n n, .slice none 0 0] T')) n a p w1.heap.size (w1.heap.size + 1) 0 (.slice none 0 0) [] := by
  have ha := hf a (by simp)
  have hp := hf p (by simp)
  have hne := hA.ne
  have hsz := hx.size
  refine ⟨(hx.alloc _).alloc _, hA.ext (((Ext.refl [] w1).alloc _).alloc _) (by simp) (by simp), Blk.new.alloc _, ?_, own_nil _ _ _ _, by simp, ?_, ?_, by simp [Value.ownBlock]⟩
  · have := Blk.new (w := w1.alloc (.cells (flat DomS.enc (List.replicate n default)).toArray T)) (cs := [ptr a, .slice (some ⟨w1.heap.size, 0, none⟩) n n, .slice none 0 0]) (T := T')
    simpa using this
  · intro b hb; simp at hb ⊢; omega
  · simp [hne]; omega

theorem dom_step {w wr w3 : World} {n a p r h k g c : Nat} {v : Value} {qs : List Nat} {T : TypeId} (hr : DomRound w wr n a p r h k v qs) (hx : Ext v.ownBlock.toList (wr.alloc (.cells #[.slice none 0 0] T)) w3)
    (hown : w3.ownsRow w.heap.size 118 1 (.slice (some ⟨g, 0, none⟩) (k + 1) c) (k + 1) (qs.map ptr ++ [ptr wr.heap.size])) (hat : v.ownBlock = some g ∨ wr.heap.size + 1 ≤ g) :
    DomRound w (w3.setCell ⟨h, 2, none⟩ (.slice (some ⟨g, 0, none⟩) (k + 1) c)) n a p r h (k + 1) (.slice (some ⟨g, 0, none⟩) (k + 1) c) (qs ++ [wr.heap.size]) := by
  have hsz := hr.ext.size
  have hmem : ∀ j, j ∈ v.ownBlock.toList → j ∉ [h, a, p, r] ++ qs := fun j hj => hr.blk j (Option.mem_toList.1 hj)
  have hlt : ∀ j, j ∈ v.ownBlock.toList → w.heap.size ≤ j ∧ j < wr.heap.size := fun j hj => own_lt hr.own j (Option.mem_toList.1 hj)
  have hh : h ∉ v.ownBlock.toList := fun hm => hmem _ hm (by simp)
  have ha : a ∉ v.ownBlock.toList := fun hm => hmem _ hm (by simp)
  have hp : p ∉ v.ownBlock.toList := fun hm => hmem _ hm (by simp)
  have hrr : r ∉ v.ownBlock.toList := fun hm => hmem _ hm (by simp)
  have hg : g ∉ [h, a, p, r] ++ (qs ++ [wr.heap.size]) := by
    rcases hat with hat | hat
    · have h1 := hr.blk g hat
      have h2 := own_lt hr.own g hat
      intro hm
      rw [← List.append_assoc] at hm
      rcases List.mem_append.1 hm with hm | hm
      · exact h1 hm
      · simp at hm; omega
    · intro hm
      rcases List.mem_append.1 hm with h1 | h1
      · have := hr.fresh g (List.mem_append.2 (.inl h1)); omega
      · rcases List.mem_append.1 h1 with h2 | h2
        · have := hr.fresh g (List.mem_append.2 (.inr h2)); omega
        · simp at h2; omega
  have nd := hr.nd
  have hfr := hr.fresh
  have hhw : w.heap.size ≤ h := (hfr h (by simp)).1
  have s3 := hx.size
  simp at s3
  have hhg : g ≠ h := fun e => hg (by simp [e])
  have hah : a ≠ h := by simp at nd; omega
  have hph : p ≠ h := by simp at nd; omega
  have hrh : r ≠ h := by simp at nd; omega
  refine ⟨?_, ?_, ?_, ?_, ?_, ?_, ?_, ?_, ?_⟩
  · refine Ext.setCell ?_ (.inr hhw) _
    exact (hr.ext.alloc _).then hx (fun j hj => .inr (hlt j hj).1)
  · exact (hr.arena.ext (((Ext.refl [] wr).alloc _)) (by simp) (by simp)).ext hx ha hp |>.ext ((Ext.refl [h] w3).setCell (.inl (by simp)) _) (by simp [hah]) (by simp [hph])
  · exact (hx.blk (hr.rows.alloc _) hrr).setCell_other hrh _ _
  · have := (hx.blk (hr.hdr.alloc _) hh).setCell 2 (.slice (some ⟨g, 0, none⟩) (k + 1) c) (by simp)
    simpa using this
  · have := ((Ext.refl [h] w3).setCell (b := h) (o := 2) (.inl (by simp)) (.slice (some ⟨g, 0, none⟩) (k + 1) c)).own hown (fun j hj => by simp [Value.ownBlock] at hj; subst hj; simp [hhg])
    simpa using this
  · intro q hq
    rcases List.mem_append.1 hq with hq | hq
    · have hqh : q ≠ h := by rintro rfl; simp at nd; exact nd.1.2.2.2 hq
      exact (hx.blk ((hr.each q hq).alloc _) (fun hm => hmem _ hm (by simp [hq]))).setCell_other hqh _ _
    · simp at hq; subst hq
      have hq : wr.heap.size ∉ v.ownBlock.toList := fun hm => by have := hlt _ hm; omega
      have hqh : wr.heap.size ≠ h := by have := hfr h (by simp); omega
      exact (hx.blk (Blk.new (cs := [.slice none 0 0])) hq).setCell_other hqh _ _
  · intro b hb
    simp only [World.size_setCell]
    rcases List.mem_append.1 hb with hb | hb
    · have := hfr b (List.mem_append.2 (.inl hb)); omega
    · rcases List.mem_append.1 hb with hb | hb
      · have := hfr b (List.mem_append.2 (.inr hb)); omega
      · simp at hb; omega
  · rw [← List.append_assoc, List.nodup_append]
    refine ⟨nd, by simp, ?_⟩
    intro x hx1 y hy
    have := hfr x hx1
    simp at hy; omega
  · intro j hj
    simp [Value.ownBlock] at hj
    subst hj; exact hg

theorem dom_end {w wr : World} {n a p r h : Nat} {v : Value} {qs : List Nat} (hr : DomRound w wr n a p r h n v qs) (h1 : 1 ≤ n) : DomNew w n (.returned (.tuple #[ptr h, .nilIface])) wr := by
  obtain ⟨g, c, rfl, _, _⟩ := hr.own.form (by omega)
  have hql : qs.length = n := by have := hr.own.1; simpa using this
  have hB := hr.blk g rfl
  have nd := hr.nd
  have hgl := own_lt hr.own g rfl
  refine ⟨⟨⟨h, a, p, r⟩, g, qs⟩, rfl, ⟨⟨⟨n, ?_⟩, hr.arena, hr.rows, by simp, ?_⟩, ⟨n, c, ?_⟩, own_blk hr.own, hr.each, by simpa using hql, ?_⟩, hr.ext, ?_⟩
  · have := hr.hdr
    simpa using this.front (cs := [ptr a, .slice (some ⟨r, 0, none⟩) n n]) (ds := [_])
  · exact (List.nodup_append.1 nd).1
  · have := hr.hdr
    simpa [hql] using this
  · simp only [DomL.fp, TabL.fp]
    rw [List.nodup_append] at nd ⊢
    refine ⟨nd.1, List.nodup_cons.2 ⟨fun hm => hB (List.mem_append.2 (.inr hm)), nd.2.1⟩, ?_⟩
    intro x hx y hy
    rcases List.mem_cons.1 hy with rfl | hy
    · rintro rfl; exact hB (List.mem_append.2 (.inl hx))
    · exact nd.2.2 x hx y hy
  · intro b hb
    simp only [DomL.fp, TabL.fp] at hb
    rcases List.mem_append.1 hb with hb | hb
    · exact hr.fresh b (List.mem_append.2 (.inl hb))
    rcases List.mem_cons.1 hb with rfl | hb
    · exact hgl
    · exact hr.fresh b (by simp [hb])

theorem dom_cells {w wr w3 : World} {n a p r h k : Nat} {v : Value} {qs : List Nat} {T : TypeId} (hr : DomRound w wr n a p r h k v qs) (hg : (wr.alloc (.cells #[.slice none 0 0] T)).grownBy w3 v.ownBlock) :
    Ext v.ownBlock.toList (wr.alloc (.cells #[.slice none 0 0] T)) w3 ∧ w3.cell? ⟨h, 2, none⟩ = some v ∧ w3.frozen? ⟨h, 2, none⟩ = false := by
  have hx : Ext v.ownBlock.toList (wr.alloc (.cells #[.slice none 0 0] T)) w3 := Ext.grown (Ext.refl _ _) hg (fun j hj => .inl (by simp [hj]))
  have hb := hx.blk (hr.hdr.alloc _) (fun hm => hr.blk _ (Option.mem_toList.1 hm) (by simp))
  exact ⟨hx, hb.cell 2 _ rfl, hb.frozen 2⟩

set_option maxHeartbeats 800000 in
set_option maxRecDepth 100000 in
theorem domNew_ok (w : World) (n : Nat) (h1 : 1 ≤ n) (h2 : n ≤ 256) : Calls Tryd.prog 26 #[.int .i64 (n : Int)] w (DomNew w n) := by
  have hmk := make_run (P := Tryd.prog) DomS.enc 107 DomS.len (by omega) default 62 132 _ 824 Tryd.underlying62 info_dom rfl n (by omega) (by omega)
  obtain ⟨i0, hi, hz0, hz1, hz2⟩ := info_parts info_queuePtr
  go_enter Tryd.func26, Tryd.ntmps26
  go_wp2_with (go_at_call 49; refine (arenaNew_ok _ _ h1 h2).mono ?_; rintro e w1 ⟨a, p, rfl, hA, hx, hf⟩)
  have hsz := hx.size
  go_loopw [21] (fun i wr => ∃ (k : Nat) (v : Value) (qs : List Nat), k ≤ n ∧ i = .int .i64 k ∧ DomRound w wr n a p w1.heap.size (w1.heap.size + 1) k v qs) (fun i _ => n - (intOf i).toNat)
  case atStart => exact ⟨0, _, [], by omega, rfl, dom_start hA hx hf⟩
  case round =>
    obtain ⟨k, v, qs, hk, rfl, hr⟩ := hrel
    by_cases hlt : k < n
    · have HR := Lib.hid hr
      obtain ⟨hX, hAr, hRows, hH, hOwn, hE, hF, hN, hB⟩ := hr
      have c2 := hH.cell 2 _ rfl
      have f2 := hH.frozen 2
      have hwz := hX.size
      clear hE hF hN hB hRows hAr
      go_wp2_with (at_builtin; go_loud (refine append_one w.heap.size rfl (.tmp 27) (.tmp 30) 63 118 (.pointer none) 1 8 rfl Tryd.underlying63 info_queuePtr rfl (by decide) (by decide) v k (qs.map ptr) _ rfl rfl _ rfl (by simp) (by intro u hu; simp at hu; subst hu; rfl) (hOwn.alloc _) (by simp; omega) (by omega) ?_); intro g c w3 hown3 hg3 hat3; obtain ⟨hx3, d2, e2⟩ := dom_cells HR.out hg3)
      go_roundw
      case rel => exact ⟨k + 1, _, qs ++ [wr.heap.size], by omega, by go_num, dom_step HR.out hx3 hown3 (by simpa using hat3)⟩
      case measure => simp [intOf]; omega
    · obtain rfl : k = n := by omega
      go_wp2
      go_ret2
      exact dom_end hr h1
end Go.Proofs.YtpnjebpbglgebaaDoor
