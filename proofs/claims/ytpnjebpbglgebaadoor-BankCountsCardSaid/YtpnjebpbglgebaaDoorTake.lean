/-
  Package bank: an object made for a bank: the closures that make it.
-/
import Derived.Test.YtpnjebpbglgebaaDoorPage
import Derived.Test.YtpnjebpbglgebaaDoorOwned2
namespace Go.Proofs.YtpnjebpbglgebaaDoor
open Go Go.RowKit

/-- A free place taken, if there is one. -/
def tookAt (ps : List Place) : List Place := match freeAt ps with | none => ps | some i => taken ps i
def MemS.tookNode (M : MemS) (ks : List Key) : MemS := match freeAt M.np with | none => M | some i => { M with np := taken M.np i, ns := M.ns.set i (padK ks) }
def MemS.tookPage (M : MemS) (ws : List Int) : MemS := match freeAt M.pp with | none => M | some i => { M with pp := taken M.pp i, ps := M.ps.set i (padW ws) }
/-- What the making of an object answers. -/
def ObjMade (E : Nat → Addr) (ps : List Place) (e : Ending) : Prop :=
  match freeAt ps with
  | none => e = .returned (.tuple #[.int .i64 0, .int .i64 0, errV E 6])
  | some i => e = .returned (.tuple #[.int .i64 i, .int .i64 (verOf ps i), .nilIface])

theorem MemL.apart {L : MemL} (h : L.fp.Nodup) : (∀ b ∈ [L.m, L.s, L.c], b ∉ L.nod.fp ∧ b ∉ L.pag.fp) ∧ ∀ b ∈ L.nod.fp, b ∉ L.pag.fp := by
  unfold MemL.fp at h
  obtain ⟨-, h2, h3⟩ := List.nodup_append.1 h
  obtain ⟨-, -, h4⟩ := List.nodup_append.1 h2
  exact ⟨fun b hb => ⟨fun hm => h3 b hb b (List.mem_append_left _ hm) rfl, fun hm => h3 b hb b (List.mem_append_right _ hm) rfl⟩, fun b hb hm => h4 b hb b hm rfl⟩
theorem TabL.two {L : TabL} : ∀ b ∈ [L.p, L.r], b ∈ L.fp := fun b hb => by simp at hb; rcases hb with rfl | rfl <;> simp [TabL.fp]
theorem MemRep.nodTurn {w w' : World} {L : MemL} {M : MemS} {np : List Place} {ns : List (Vector Key 16)} (h : MemRep w L M) (hx : Ext [L.nod.p, L.nod.r] w w') (ht : TabRep keysEnc w' L.nod np ns) : MemRep w' L { M with np := np, ns := ns } := by
  obtain ⟨a, b⟩ := MemL.apart h.nd
  exact ⟨hx.blk h.hm (fun hm => (a _ (by simp)).1 (TabL.two _ hm)), hx.blk h.hs (fun hm => (a _ (by simp)).1 (TabL.two _ hm)), ht, h.pag.ext hx (fun x hx hm => b x (TabL.two _ hm) hx), hx.blk h.hc (fun hm => (a _ (by simp)).1 (TabL.two _ hm)), h.nd⟩
theorem MemRep.pagTurn {w w' : World} {L : MemL} {M : MemS} {pp : List Place} {ps : List (Vector Int 32)} (h : MemRep w L M) (hx : Ext [L.pag.p, L.pag.r] w w') (ht : TabRep wordsEnc w' L.pag pp ps) : MemRep w' L { M with pp := pp, ps := ps } := by
  obtain ⟨a, b⟩ := MemL.apart h.nd
  exact ⟨hx.blk h.hm (fun hm => (a _ (by simp)).2 (TabL.two _ hm)), hx.blk h.hs (fun hm => (a _ (by simp)).2 (TabL.two _ hm)), h.nod.ext hx (fun x hx hm => b x hx (TabL.two _ hm)), ht, hx.blk h.hc (fun hm => (a _ (by simp)).2 (TabL.two _ hm)), h.nd⟩
theorem TrioRep.memTurn {w w' : World} {L : BankL} {LM : MemL} {LD : DomL} {B : BanksS} {M M' : MemS} {dp : List Place} {ds : List DomS} {D : List Nat} (h : TrioRep w L LM LD B M dp ds) (hx : Ext D w w') (hd : ∀ b ∈ D, b ∈ LM.fp) (ht : MemRep w' LM M') : TrioRep w' L LM LD B M' dp ds := by
  have s0 := h.sep 1 0 (by simp) (by simp) (by simp)
  have s2 := h.sep 1 2 (by simp) (by simp) (by simp)
  exact ⟨h.ban.ext hx (fun b hb hm => s0 b (hd b hm) hb), ht, h.dom.ext hx (fun b hb hm => s2 b (hd b hm) hb), h.sep⟩

/-- What the making of a node leaves. -/
structure NodeTook (E : Nat → Addr) (w : World) (L : BankL) (LM : MemL) (LD : DomL) (B : BanksS) (M : MemS) (dp : List Place) (ds : List DomS) (ks : List Key) (e : Ending) (w' : World) : Prop where
  made : ObjMade E M.np e
  ext : Ext [LM.nod.p, LM.nod.r] w w'
  rep : TrioRep w' L LM LD B (M.tookNode ks) dp ds
structure PageTook (E : Nat → Addr) (w : World) (L : BankL) (LM : MemL) (LD : DomL) (B : BanksS) (M : MemS) (dp : List Place) (ds : List DomS) (ws : List Int) (e : Ending) (w' : World) : Prop where
  made : ObjMade E M.pp e
  ext : Ext [LM.pag.p, LM.pag.r] w w'
  rep : TrioRep w' L LM LD B (M.tookPage ws) dp ds

theorem nodeTook_of {E : Nat → Addr} {w w' : World} {L : BankL} {LM : MemL} {LD : DomL} {B : BanksS} {M : MemS} {dp : List Place} {ds : List DomS} {ks : List Key} {e : Ending} (h : TrioRep w L LM LD B M dp ds) (hm : NodeMade E w LM.nod M.np M.ns ks e w') : NodeTook E w L LM LD B M dp ds ks e w' := by
  obtain ⟨hx, hm⟩ := hm
  have hd : ∀ b ∈ [LM.nod.p, LM.nod.r], b ∈ LM.fp := fun b hb => LM.mem_nod (by simp at hb; rcases hb with rfl | rfl <;> simp [TabL.fp])
  cases hf : freeAt M.np with
  | none =>
    rw [hf] at hm
    have e1 : M.tookNode ks = M := by simp only [MemS.tookNode, hf]
    exact ⟨by unfold ObjMade; rw [hf]; exact hm.1, hx, by rw [e1]; exact h.memTurn hx hd (h.mem.nodTurn hx hm.2)⟩
  | some i =>
    rw [hf] at hm
    have e1 : M.tookNode ks = { M with np := taken M.np i, ns := M.ns.set i (padK ks) } := by simp only [MemS.tookNode, hf]
    exact ⟨by unfold ObjMade; rw [hf]; exact hm.1, hx, by rw [e1]; exact h.memTurn hx hd (h.mem.nodTurn hx hm.2)⟩
theorem pageTook_of {E : Nat → Addr} {w w' : World} {L : BankL} {LM : MemL} {LD : DomL} {B : BanksS} {M : MemS} {dp : List Place} {ds : List DomS} {ws : List Int} {e : Ending} (h : TrioRep w L LM LD B M dp ds) (hm : PageMade E w LM.pag M.pp M.ps ws e w') : PageTook E w L LM LD B M dp ds ws e w' := by
  obtain ⟨hx, hm⟩ := hm
  have hd : ∀ b ∈ [LM.pag.p, LM.pag.r], b ∈ LM.fp := fun b hb => LM.mem_pag (by simp at hb; rcases hb with rfl | rfl <;> simp [TabL.fp])
  cases hf : freeAt M.pp with
  | none =>
    rw [hf] at hm
    have e1 : M.tookPage ws = M := by simp only [MemS.tookPage, hf]
    exact ⟨by unfold ObjMade; rw [hf]; exact hm.1, hx, by rw [e1]; exact h.memTurn hx hd (h.mem.pagTurn hx hm.2)⟩
  | some i =>
    rw [hf] at hm
    have e1 : M.tookPage ws = { M with pp := taken M.pp i, ps := M.ps.set i (padW ws) } := by simp only [MemS.tookPage, hf]
    exact ⟨by unfold ObjMade; rw [hf]; exact hm.1, hx, by rw [e1]; exact h.memTurn hx hd (h.mem.pagTurn hx hm.2)⟩

/-- What a slice's block is not. -/
def Away (v : Value) (D : List Nat) : Prop := ∀ b ∈ D, ∀ o n c, v ≠ .slice (some ⟨b, o, none⟩) n c
theorem Away.nil (D : List Nat) : Away (.slice none 0 0) D := fun _ _ _ _ _ h => by cases h

theorem ObjMade.form {E : Nat → Addr} {ps : List Place} {e : Ending} (h : ObjMade E ps e) : ∃ a b c, e = .returned (.tuple #[.int .i64 a, .int .i64 b, c]) ∧ ObjMade E ps (.returned (.tuple #[.int .i64 a, .int .i64 b, c])) := by
  cases hf : freeAt ps with
  | none => exact ⟨0, 0, errV E 6, by unfold ObjMade at h; rw [hf] at h; exact h, by unfold ObjMade; rw [hf]⟩
  | some i => exact ⟨i, verOf ps i, .nilIface, by unfold ObjMade at h; rw [hf] at h; exact h, by unfold ObjMade; rw [hf]⟩

set_option maxRecDepth 100000 in
set_option maxHeartbeats 3200000 in
theorem node1_calls {K : List Nat} {B0 : Nat} {E : Nat → Addr} (w : World) (L : BankL) (LM : MemL) (LD : DomL) (B : BanksS) (M : MemS) (dp : List Place) (ds : List DomS) (v : Value) (ks : List Key) (bb bk : Nat) (h : TrioRep w L LM LD B M dp ds)
    (hb : w.cell? ⟨bb, 0, none⟩ = some (ptr L.t.h)) (hk : w.cell? ⟨bk, 0, none⟩ = some v) (nb : bb ∉ LM.fp) (nk : bk ∉ LM.fp)
    (hks : KeysAt w v ks) (hl : ks.length ≤ 16) (hv : ∀ k ∈ ks, ValidOk k) (hvp : Away v LM.fp) (he : Errs K B0 E w) (h6 : 6 ∈ K) :
    Calls Tryd.prog 31 #[ptr bb, ptr bk] w (NodeTook E w L LM LD B M dp ds ks) := by
  obtain ⟨c0, hh⟩ := h.ban.hdr
  have b3 := hh.cell 3 _ rfl
  have m0 := h.mem.hm.cell 0 _ rfl
  have s0 := h.mem.hs.cell 0 _ rfl
  have HN := h.mem.nod
  have H := Lib.hid h
  have hsep := h.sep 0 1 (by simp) (by simp) (by simp)
  have qb : L.t.h ∉ LM.fp := hsep _ (L.mem_t (by simp [TabL.fp]))
  have qn : ∀ b ∈ [LM.nod.p, LM.nod.r], b ∈ LM.fp := fun b hb => LM.mem_nod (by simp at hb; rcases hb with rfl | rfl <;> simp [TabL.fp])
  obtain ⟨na, -⟩ := MemL.apart h.mem.nd
  have hhp := hvp LM.nod.p (LM.mem_nod (by simp [TabL.fp]))
  have n1 : bb ∉ [LM.nod.p, LM.nod.r] := fun hm => nb (qn _ hm)
  have n2 : bk ∉ [LM.nod.p, LM.nod.r] := fun hm => nk (qn _ hm)
  have n3 : L.t.h ∉ [LM.nod.p, LM.nod.r] := fun hm => qb (qn _ hm)
  have n4 : LM.m ∉ [LM.nod.p, LM.nod.r] := fun hm => (na _ (by simp)).1 (TabL.two _ hm)
  have n5 : LM.s ∉ [LM.nod.p, LM.nod.r] := fun hm => (na _ (by simp)).1 (TabL.two _ hm)
  clear hh h na
  go_enter Tryd.func31, Tryd.ntmps31
  go_wp2_with fail
  go_region_held3 (fun w' => w'.cell? ⟨bb, 0, none⟩ = some (ptr L.t.h) ∧ w'.cell? ⟨bk, 0, none⟩ = some v ∧ w'.cell? ⟨L.t.h, 3, none⟩ = some (ptr LM.m) ∧ w'.cell? ⟨LM.m, 0, none⟩ = some (ptr LM.s) ∧ w'.cell? ⟨LM.s, 0, none⟩ = some (ptr LM.nod.h))
    (first
      | exact ⟨hb, hk, b3, m0, s0⟩
      | exact ⟨hx2.drew'.cell hb n1, hx2.drew'.cell hk n2, hx2.drew'.cell b3 n3, hx2.drew'.cell m0 n4, hx2.drew'.cell s0 n5⟩)
    ((go_at_call 32; refine (nodeMake_ok _ LM.nod M.np M.ns v ks (HN.ext ((Ext.refl [] w).drew) (fun _ _ hb => by cases hb)) (hks.ext ((Ext.refl [] w).drew)) hl hv hhp (he.ext ((Ext.refl [] w).drew) (by simp)) h6).mono ?_; rintro e w2 hp2; have hp3 := nodeTook_of (H.out.ext ((Ext.refl [] w).drew)) hp2; have hx2 := hp3.ext; have hr2 := hp3.rep; obtain ⟨a2, b2, c2, rfl, hm2⟩ := hp3.made.form))
  go_wp2
  go_ret3
  exact ⟨hm2, hx2.drew', hr2⟩
end Go.Proofs.YtpnjebpbglgebaaDoor
