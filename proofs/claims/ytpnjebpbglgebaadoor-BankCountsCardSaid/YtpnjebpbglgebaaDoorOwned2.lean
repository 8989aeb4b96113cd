/-
  Package bank: Owned, walked.
-/
import Derived.Test.YtpnjebpbglgebaaDoorOwned
import Derived.Sort.AtCall
namespace Go.Proofs.YtpnjebpbglgebaaDoor
open Go Go.RowKit

theorem Ext.drew' {D : List Nat} {w w' : World} (h : Ext D w.drew w') : Ext D w w' := ⟨h.os, h.tape, h.output, h.size, h.block⟩

theorem own_base {w : World} {base base' n size : Nat} {e : TypeId} {v : Value} {xs : List Value} (h : w.ownsRow base e size v n xs) (hb : base' ≤ base) : w.ownsRow base' e size v n xs := by
  refine ⟨h.1, ?_⟩
  rcases h.2 with h2 | ⟨g, cap, cur, hv, hg, r⟩
  · exact .inl h2
  · exact .inr ⟨g, cap, cur, hv, Nat.le_trans hb hg, r⟩
theorem owned_row {w : World} {base : Nat} {v v1 v2 v3 : Value} (B : BanksS) (M : MemS) (dp : List Place) (id : Int)
    (h : w.ownsRow base 44 5 v (allK [(v1, ownKeys B.own (liveK M dp) id 2 M.np.length), (v2, ownKeys B.own (liveK M dp) id 3 M.pp.length), (v3, ownKeys B.own (liveK M dp) id 4 dp.length)] 3).length
      (flat Key.enc (allK [(v1, ownKeys B.own (liveK M dp) id 2 M.np.length), (v2, ownKeys B.own (liveK M dp) id 3 M.pp.length), (v3, ownKeys B.own (liveK M dp) id 4 dp.length)] 3))) :
    w.ownsRow base 44 5 v (ownedK B M dp id).length (flat Key.enc (ownedK B M dp id)) := by
  simpa [allK, ownedK] using h

set_option maxRecDepth 100000 in
set_option maxHeartbeats 6400000 in
theorem owned_calls (w : World) (L : BankL) (LM : MemL) (LD : DomL) (B : BanksS) (M : MemS) (dp : List Place) (ds : List DomS) (id : Int) (h : TrioRep w L LM LD B M dp ds) (ht : there B.bp id = true) :
    Calls Tryd.prog 16 #[ptr L.t.h, .int .i64 id] w fun e w' => ∃ v, e = .returned v ∧ w'.ownsRow w.heap.size 44 5 v (ownedK B M dp id).length (flat Key.enc (ownedK B M dp id)) ∧ Ext [] w w' := by
  obtain ⟨c0, hh⟩ := h.ban.hdr
  have b0 := hh.cell 0 _ rfl
  have b3 := hh.cell 3 _ rfl
  have b4 := hh.cell 4 _ rfl
  have m0 := h.mem.hm.cell 0 _ rfl
  have s0 := h.mem.hs.cell 0 _ rfl
  have s1 := h.mem.hs.cell 1 _ rfl
  obtain ⟨cn, hn⟩ := h.mem.nod.hdr
  have n0 := hn.cell 0 _ rfl
  obtain ⟨cp, hp⟩ := h.mem.pag.hdr
  have p0 := hp.cell 0 _ rfl
  obtain ⟨cd, hd⟩ := h.dom.tab.hdr
  have d0 := hd.cell 0 _ rfl
  have an := h.mem.nod.arena
  have ap := h.mem.pag.arena
  have ad := h.dom.tab.arena
  have ab := h.ban.tab.arena
  have fn := an.few
  have fp := ap.few
  have fd := ad.few
  have H := Lib.hid h
  have KN := ownKeys_le B.own (liveK M dp) id 2 M.np.length
  have KP := ownKeys_le B.own (liveK M dp) id 3 M.pp.length
  have KD := ownKeys_le B.own (liveK M dp) id 4 dp.length
  clear hh hn hp hd h
  go_enter Tryd.func16, Tryd.ntmps16
  go_wp2_with (go_at_call 21; refine (there_calls _ _ _ _ _ ab).mono ?_; rintro e w2 ⟨rfl, rfl⟩)
  have hcur : Ext [] w w.drew := (Ext.refl [] w).drew
  go_region_held3 (fun w' => Ext [] w w' ∧ w'.cell? ⟨L.t.h, 3, none⟩ = some (ptr LM.m) ∧ w'.cell? ⟨L.t.h, 4, none⟩ = some (ptr LD.t.h) ∧ w'.cell? ⟨LM.m, 0, none⟩ = some (ptr LM.s) ∧ w'.cell? ⟨LM.s, 0, none⟩ = some (ptr LM.nod.h) ∧
      w'.cell? ⟨LM.s, 1, none⟩ = some (ptr LM.pag.h) ∧ w'.cell? ⟨LM.nod.h, 0, none⟩ = some (ptr LM.nod.a) ∧ w'.cell? ⟨LM.pag.h, 0, none⟩ = some (ptr LM.pag.a) ∧ w'.cell? ⟨LD.t.h, 0, none⟩ = some (ptr LD.t.a))
    (first
      | exact ⟨hcur, hcur.cell b3 (by simp), hcur.cell b4 (by simp), hcur.cell m0 (by simp), hcur.cell s0 (by simp), hcur.cell s1 (by simp), hcur.cell n0 (by simp), hcur.cell p0 (by simp), hcur.cell d0 (by simp)⟩
      | exact ⟨hcur.alloc _, (hcur.alloc _).cell b3 (by simp), (hcur.alloc _).cell b4 (by simp), (hcur.alloc _).cell m0 (by simp), (hcur.alloc _).cell s0 (by simp), (hcur.alloc _).cell s1 (by simp), (hcur.alloc _).cell n0 (by simp), (hcur.alloc _).cell p0 (by simp), (hcur.alloc _).cell d0 (by simp)⟩)
    ((first
      | (go_at_call_of 39 (ptr LM.nod.a); refine (cap_n _ _ _ _ M.np.length (an.ext hcur (by simp) (by simp)) rfl).mono ?_; rintro e w2 ⟨rfl, rfl⟩)
      | (go_at_call_of 39 (ptr LM.pag.a); refine (cap_n _ _ _ _ M.pp.length (ap.ext hcur (by simp) (by simp)) rfl).mono ?_; rintro e w2 ⟨rfl, rfl⟩)
      | (go_at_call_of 39 (ptr LD.t.a); refine (cap_n _ _ _ _ dp.length (ad.ext hcur (by simp) (by simp)) rfl).mono ?_; rintro e w2 ⟨rfl, rfl⟩)
      | (go_at_call_has 38 (Value.int .i64 2); refine (all_calls _ L LM LD B M dp ds id 2 M.np.length (H.out.ext hcur) fn).mono ?_; rintro e wN ⟨vN, rfl, rowN, hxN⟩; obtain ⟨AN, cN, rfl⟩ := own_slice rowN; (try replace rowP := Ext.own hxN rowP (by simp)); (try replace rowD := Ext.own hxN rowD (by simp)); replace hcur := hcur.trans hxN)
      | (go_at_call_has 38 (Value.int .i64 3); refine (all_calls _ L LM LD B M dp ds id 3 M.pp.length (H.out.ext hcur) fp).mono ?_; rintro e wP ⟨vP, rfl, rowP, hxP⟩; obtain ⟨AP, cP, rfl⟩ := own_slice rowP; (try replace rowN := Ext.own hxP rowN (by simp)); (try replace rowD := Ext.own hxP rowD (by simp)); replace hcur := hcur.trans hxP)
      | (go_at_call_has 38 (Value.int .i64 4); refine (all_calls _ L LM LD B M dp ds id 4 dp.length (H.out.ext hcur) fd).mono ?_; rintro e wD ⟨vD, rfl, rowD, hxD⟩; obtain ⟨AD, cD, rfl⟩ := own_slice rowD; (try replace rowN := Ext.own hxD rowN (by simp)); (try replace rowP := Ext.own hxD rowP (by simp)); replace hcur := hcur.trans hxD)
      | (go_at_call 37
         refine (concat_calls _ _ 3 [(_, ownKeys B.own (liveK M dp) id 2 M.np.length), (_, ownKeys B.own (liveK M dp) id 3 M.pp.length), (_, ownKeys B.own (liveK M dp) id 4 dp.length)]
           (three_rows Blk.new (Ext.own ((Ext.refl [] _).alloc _) rowN (by simp)) (Ext.own ((Ext.refl [] _).alloc _) rowP (by simp)) (Ext.own ((Ext.refl [] _).alloc _) rowD (by simp)) (Nat.le_trans KN fn) (Nat.le_trans KP fp) (Nat.le_trans KD fd)) (by simp)).mono ?_
         rintro e wC ⟨vC, rfl, rowC, hxC⟩; have hsc := (hcur.alloc (.cells #[.slice AN (ownKeys B.own (liveK M dp) id 2 M.np.length).length cN, .slice AP (ownKeys B.own (liveK M dp) id 3 M.pp.length).length cP, .slice AD (ownKeys B.own (liveK M dp) id 4 dp.length).length cD] 39)).size; replace hcur := (hcur.alloc _).trans hxC)))
  all_goals go_wp2
  all_goals go_ret
  all_goals exact ⟨_, rfl, owned_row B M dp id (own_base rowC (by simpa using hsc)), hcur⟩
end Go.Proofs.YtpnjebpbglgebaaDoor
