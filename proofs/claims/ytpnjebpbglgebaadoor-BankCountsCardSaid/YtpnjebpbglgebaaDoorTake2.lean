/-
  Package bank: what a take leaves; the closure that makes a page.
-/
import Derived.Test.YtpnjebpbglgebaaDoorTake
import Derived.Test.YtpnjebpbglgebaaDoorOwnMap3
namespace Go.Proofs.YtpnjebpbglgebaaDoor
open Go Go.RowKit

def BanksS.took (B : BanksS) (kind i id v : Int) (l : List Int) : BanksS := { B with own := (ownPut B.own B.clock kind i id v).1, clock := (ownPut B.own B.clock kind i id v).2, bs := useAll 1 B.bs l }
/-- The error of a take; 0: none. -/
def takeErr (B : BanksS) (ps : List Place) (id : Int) (l : List Int) (f : Nat) : Nat :=
  if there B.bp id = false then 5 else if f ≠ 0 then f else if l.any (tight B.bs 1) = true then 7 else match freeAt ps with | none => 6 | some _ => 0

theorem BankRep.tookRep {w w' : World} {L : BankL} {mb db : Nat} {B : BanksS} {es : List OwnE} {c : Nat} {bs : List BankS} (h : BankRep w L mb db B) (hx : Ext [L.o, L.t.r] w w') (ho : w'.heap[L.o]? = some (.map (es.map OwnE.entry).toArray c))
    (hok : OwnOk es c) (ht : TabRep BankS.enc w' L.t B.bp bs) : BankRep w' L mb db { B with own := es, clock := c, bs := bs } := by
  have nd := h.tab.nd
  have nd2 := h.nd
  simp only [TabL.fp, List.nodup_cons, List.mem_cons, List.mem_nil_iff, or_false, not_or] at nd
  refine ⟨ht, ?_, ho, hok, h.nd⟩
  obtain ⟨c, hc⟩ := h.hdr
  refine ⟨c, hx.blk hc ?_⟩
  simp only [BankL.fp, List.nodup_append] at nd2
  intro hm
  simp only [List.mem_cons, List.mem_nil_iff, or_false] at hm
  rcases hm with hm | hm
  · exact nd2.2.2 _ (by simp [TabL.fp]) _ (by simp) hm
  · omega

theorem TrioRep.banTurn {w w' : World} {L : BankL} {LM : MemL} {LD : DomL} {B B' : BanksS} {M : MemS} {dp : List Place} {ds : List DomS} {D : List Nat} (h : TrioRep w L LM LD B M dp ds) (hx : Ext D w w') (hd : ∀ b ∈ D, b ∈ L.fp) (hb : BankRep w' L LM.m LD.t.h B') : TrioRep w' L LM LD B' M dp ds := by
  have s1 := h.sep 0 1 (by simp) (by simp) (by simp)
  have s2 := h.sep 0 2 (by simp) (by simp) (by simp)
  exact ⟨hb, h.mem.ext hx (fun b hb hm => s1 b (hd b hm) hb), h.dom.ext hx (fun b hb hm => s2 b (hd b hm) hb), h.sep⟩

/-- The world behind an entry put. -/
def putW (w : World) (o : Nat) (es : List OwnE) (c : Nat) : World := { w with heap := w.heap.setIfInBounds o (.map (es.map OwnE.entry).toArray c) }
theorem putW_ext (w : World) (o : Nat) (es : List OwnE) (c : Nat) : Ext [o] w (putW w o es c) :=
  ⟨rfl, rfl, rfl, by simp [putW], fun k hk hd => by
    simp only [List.mem_singleton] at hd
    simp only [putW]
    rw [Array.getElem?_setIfInBounds_ne (by omega)]⟩
theorem putW_at (w : World) (o : Nat) (es : List OwnE) (c : Nat) (h : o < w.heap.size) : (putW w o es c).heap[o]? = some (.map (es.map OwnE.entry).toArray c) := by
  simp [putW, h]

theorem node_fp {L : BankL} {LM : MemL} : ∀ b ∈ [LM.nod.p, LM.nod.r], b ∈ LM.fp := fun b hb => LM.mem_nod (TabL.two b hb)
theorem page_fp {L : BankL} {LM : MemL} : ∀ b ∈ [LM.pag.p, LM.pag.r], b ∈ LM.fp := fun b hb => LM.mem_pag (TabL.two b hb)

/-- All together: an entry put, used noted. -/
theorem took_rep {w w3 w' : World} {L : BankL} {LM : MemL} {LD : DomL} {B : BanksS} {M : MemS} {dp : List Place} {ds : List DomS} {kind i id v : Int} {l : List Int} (h : TrioRep w L LM LD B M dp ds)
    (h3 : w3 = putW w L.o (ownPut B.own B.clock kind i id v).1 (ownPut B.own B.clock kind i id v).2) (hx : Ext [L.t.r] w3 w') (ht : TabRep BankS.enc w' L.t B.bp (useAll 1 B.bs l)) :
    TrioRep w' L LM LD (B.took kind i id v l) M dp ds ∧ Ext [L.o, L.t.r] w w' := by
  have hx3 : Ext [L.o, L.t.r] w w' := by rw [h3] at hx; exact ((putW_ext w _ _ _).mono (by simp)).trans (hx.mono (by simp))
  have ho : L.o < w.heap.size := h.ban.lt L.o L.mem_o
  have hn : L.o ∉ [L.t.r] := by
    have nd2 := h.ban.nd
    simp only [BankL.fp, List.nodup_append] at nd2
    intro hm; simp at hm
    exact nd2.2.2 L.t.r (by simp [TabL.fp]) L.o (by simp) hm.symm
  refine ⟨h.banTurn hx3 ?_ (h.ban.tookRep hx3 (hx.same (by rw [h3]; exact putW_at w _ _ _ ho) hn) (h.ban.ok.put _ _ _ _) ht), hx3⟩
  intro b hb
  simp at hb
  rcases hb with rfl | rfl
  · exact L.mem_o
  · exact L.mem_t (by simp [TabL.fp])

set_option maxRecDepth 100000 in
set_option maxHeartbeats 3200000 in
theorem page1_calls {K : List Nat} {B0 : Nat} {E : Nat → Addr} (w : World) (L : BankL) (LM : MemL) (LD : DomL) (B : BanksS) (M : MemS) (dp : List Place) (ds : List DomS) (v : Value) (ws : List Int) (bb bk : Nat) (h : TrioRep w L LM LD B M dp ds)
    (hb : w.cell? ⟨bb, 0, none⟩ = some (ptr L.t.h)) (hk : w.cell? ⟨bk, 0, none⟩ = some v) (nb : bb ∉ LM.fp) (nk : bk ∉ LM.fp)
    (hks : WordsAt w v ws) (hl : ws.length ≤ 32) (hvp : Away v LM.fp) (he : Errs K B0 E w) (h6 : 6 ∈ K) :
    Calls Tryd.prog 33 #[ptr bb, ptr bk] w (PageTook E w L LM LD B M dp ds ws) := by
  obtain ⟨c0, hh⟩ := h.ban.hdr
  have b3 := hh.cell 3 _ rfl
  have m0 := h.mem.hm.cell 0 _ rfl
  have s0 := h.mem.hs.cell 1 _ rfl
  have HN := h.mem.pag
  have H := Lib.hid h
  have hsep := h.sep 0 1 (by simp) (by simp) (by simp)
  have qb : L.t.h ∉ LM.fp := hsep _ (L.mem_t (by simp [TabL.fp]))
  have qn : ∀ b ∈ [LM.pag.p, LM.pag.r], b ∈ LM.fp := fun b hb => LM.mem_pag (by simp at hb; rcases hb with rfl | rfl <;> simp [TabL.fp])
  obtain ⟨na, -⟩ := MemL.apart h.mem.nd
  have hhp := hvp LM.pag.p (LM.mem_pag (by simp [TabL.fp]))
  have n1 : bb ∉ [LM.pag.p, LM.pag.r] := fun hm => nb (qn _ hm)
  have n2 : bk ∉ [LM.pag.p, LM.pag.r] := fun hm => nk (qn _ hm)
  have n3 : L.t.h ∉ [LM.pag.p, LM.pag.r] := fun hm => qb (qn _ hm)
  have n4 : LM.m ∉ [LM.pag.p, LM.pag.r] := fun hm => (na _ (by simp)).2 (TabL.two _ hm)
  have n5 : LM.s ∉ [LM.pag.p, LM.pag.r] := fun hm => (na _ (by simp)).2 (TabL.two _ hm)
  clear hh h na
  go_enter Tryd.func33, Tryd.ntmps33
  go_wp2_with fail
  go_region_held3 (fun w' => w'.cell? ⟨bb, 0, none⟩ = some (ptr L.t.h) ∧ w'.cell? ⟨bk, 0, none⟩ = some v ∧ w'.cell? ⟨L.t.h, 3, none⟩ = some (ptr LM.m) ∧ w'.cell? ⟨LM.m, 0, none⟩ = some (ptr LM.s) ∧ w'.cell? ⟨LM.s, 1, none⟩ = some (ptr LM.pag.h))
    (first
      | exact ⟨hb, hk, b3, m0, s0⟩
      | exact ⟨hx2.drew'.cell hb n1, hx2.drew'.cell hk n2, hx2.drew'.cell b3 n3, hx2.drew'.cell m0 n4, hx2.drew'.cell s0 n5⟩)
    ((go_at_call 34; refine (pageMake_ok _ LM.pag M.pp M.ps v ws (HN.ext ((Ext.refl [] w).drew) (fun _ _ hb => by cases hb)) (WordsAt.ext ((Ext.refl [] w).drew) hks (fun _ hb => by cases hb)) hl hhp (he.ext ((Ext.refl [] w).drew) (by simp)) h6).mono ?_; rintro e w2 hp2; have hp3 := pageTook_of (H.out.ext ((Ext.refl [] w).drew)) hp2; have hx2 := hp3.ext; have hr2 := hp3.rep; obtain ⟨a2, b2, c2, rfl, hm2⟩ := hp3.made.form))
  go_wp2
  go_ret3
  exact ⟨hm2, hx2.drew', hr2⟩
end Go.Proofs.YtpnjebpbglgebaaDoor
