/-
  Package bank: take, of a node, of a page.
-/
import Derived.Test.YtpnjebpbglgebaaDoorTake3
namespace Go.Proofs.YtpnjebpbglgebaaDoor
open Go Go.RowKit

@[reducible] def nodeFn (bb bk : Nat) : Value := .func (.func 31) #[] #[ptr bb, ptr bk]
@[reducible] def pageFn (bb bk : Nat) : Value := .func (.func 33) #[] #[ptr bb, ptr bk]

/-- What a take leaves that nothing bars. -/
def Took (E : Nat → Addr) (w : World) (D : List Nat) (L : BankL) (LM : MemL) (LD : DomL) (B : BanksS) (M M' : MemS) (dp : List Place) (ds : List DomS) (ps : List Place) (kind id : Int) (l : List Int) (e : Ending) (w' : World) : Prop :=
  Ext D w w' ∧ match freeAt ps with
  | none => e = .returned (.tuple #[.int .i64 0, .int .i64 0, errV E 6]) ∧ TrioRep w' L LM LD B M dp ds
  | some i => e = .returned (.tuple #[.int .i64 i, .int .i64 (verOf ps i), .nilIface]) ∧ TrioRep w' L LM LD (B.took kind i id (verOf ps i) l) M' dp ds

theorem NodeTook.none {E : Nat → Addr} {w w' : World} {L : BankL} {LM : MemL} {LD : DomL} {B : BanksS} {M : MemS} {dp : List Place} {ds : List DomS} {ks : List Key} {e : Ending} (h : NodeTook E w L LM LD B M dp ds ks e w') (hf : freeAt M.np = none) :
    e = .returned (.tuple #[.int .i64 0, .int .i64 0, errV E 6]) ∧ Ext [LM.nod.p, LM.nod.r] w w' ∧ TrioRep w' L LM LD B M dp ds := by
  have h1 := h.made
  unfold ObjMade at h1
  rw [hf] at h1
  have h2 := h.rep
  simp only [MemS.tookNode, hf] at h2
  exact ⟨h1, h.ext, h2⟩
theorem NodeTook.some {E : Nat → Addr} {w w' : World} {L : BankL} {LM : MemL} {LD : DomL} {B : BanksS} {M : MemS} {dp : List Place} {ds : List DomS} {ks : List Key} {e : Ending} {i : Nat} (h : NodeTook E w L LM LD B M dp ds ks e w') (hf : freeAt M.np = some i) :
    e = .returned (.tuple #[.int .i64 i, .int .i64 (verOf M.np i), .nilIface]) ∧ Ext [LM.nod.p, LM.nod.r] w w' ∧ TrioRep w' L LM LD B (M.tookNode ks) dp ds := by
  have h1 := h.made
  unfold ObjMade at h1
  rw [hf] at h1
  exact ⟨h1, h.ext, h.rep⟩
theorem PageTook.none {E : Nat → Addr} {w w' : World} {L : BankL} {LM : MemL} {LD : DomL} {B : BanksS} {M : MemS} {dp : List Place} {ds : List DomS} {ks : List Int} {e : Ending} (h : PageTook E w L LM LD B M dp ds ks e w') (hf : freeAt M.pp = none) :
    e = .returned (.tuple #[.int .i64 0, .int .i64 0, errV E 6]) ∧ Ext [LM.pag.p, LM.pag.r] w w' ∧ TrioRep w' L LM LD B M dp ds := by
  have h1 := h.made
  unfold ObjMade at h1
  rw [hf] at h1
  have h2 := h.rep
  simp only [MemS.tookPage, hf] at h2
  exact ⟨h1, h.ext, h2⟩
theorem PageTook.some {E : Nat → Addr} {w w' : World} {L : BankL} {LM : MemL} {LD : DomL} {B : BanksS} {M : MemS} {dp : List Place} {ds : List DomS} {ks : List Int} {e : Ending} {i : Nat} (h : PageTook E w L LM LD B M dp ds ks e w') (hf : freeAt M.pp = some i) :
    e = .returned (.tuple #[.int .i64 i, .int .i64 (verOf M.pp i), .nilIface]) ∧ Ext [LM.pag.p, LM.pag.r] w w' ∧ TrioRep w' L LM LD B (M.tookPage ks) dp ds := by
  have h1 := h.made
  unfold ObjMade at h1
  rw [hf] at h1
  exact ⟨h1, h.ext, h.rep⟩

theorem BankL.o_apart (L : BankL) (h : L.fp.Nodup) : ∀ b ∈ L.t.fp, b ∉ [L.o] := by
  unfold BankL.fp at h
  intro b hb hm
  exact (List.nodup_append.1 h).2.2 b hb b hm rfl
theorem Small.big {bs : List BankS} (h : Small 100000 bs) : Small 1000000000 bs := h.mono (by omega)

set_option maxRecDepth 100000 in
set_option maxHeartbeats 3200000 in
theorem takeNode_calls {K : List Nat} {B0 : Nat} {E : Nat → Addr} (w : World) (L : BankL) (LM : MemL) (LD : DomL) (B : BanksS) (M : MemS) (dp : List Place) (ds : List DomS) (id : Int) (l : List Int) (v : Value) (ks : List Key) (bb bk : Nat) (h : TrioRep w L LM LD B M dp ds)
    (hb : w.cell? ⟨bb, 0, none⟩ = some (ptr L.t.h)) (hk : w.cell? ⟨bk, 0, none⟩ = some v) (nb : bb ∉ LM.fp) (nk : bk ∉ LM.fp)
    (hks : KeysAt w v ks) (hl16 : ks.length ≤ 16) (hv : ∀ k ∈ ks, ValidOk k) (hvp : Away v LM.fp)
    (ht : there B.bp id = true) (hc : IsChain B.bp B.bs id l) (hl : l.length ≤ 256) (hM : Small 100000 B.bs) (hr : l.any (tight B.bs 1) = false) (he : Errs K B0 E w) (h6 : 6 ∈ K) :
    Calls Tryd.prog 29 #[ptr L.t.h, .int .i64 id, .int .i64 2, .nilIface, nodeFn bb bk] w (Took E w [L.o, L.t.r, LM.nod.p, LM.nod.r] L LM LD B M (M.tookNode ks) dp ds M.np 2 id l) := by
  obtain ⟨cap, hh⟩ := h.ban.tab.hdr
  have c0 := hh.cell 0 _ rfl
  have hA := h.ban.tab.arena
  have H := Lib.hid h
  have HC := Lib.hid hc
  have HR := Lib.hid hr
  have HVP := Lib.hid hvp
  clear hh h hc hr hvp
  cases hf : freeAt M.np with
  | none =>
    go_enter Tryd.func29, Tryd.ntmps29
    go_wp2_with (first
      | (go_at_call 21; refine (there_calls _ _ _ _ _ hA).mono ?_; rintro e w2 ⟨rfl, rfl⟩; rw [ht])
      | (go_at_call 51; refine (room_calls _ L.t B.bp B.bs _ _ l H.out.ban.tab HC.out hl hM.big).mono ?_; rintro e w2 ⟨rfl, hx2⟩; rw [HR.out])
      | (go_at_call 31; refine (node1_calls _ L LM LD B M dp ds v ks bb bk (H.out.ext hx2) (hx2.cell hb (by simp)) (hx2.cell hk (by simp)) nb nk (hks.ext hx2) hl16 hv HVP.out (he.ext hx2 (by simp)) h6).mono ?_; rintro e w3 hm3; obtain ⟨rfl, hx3, hr3⟩ := hm3.none hf))
    go_ret3
    refine ⟨(hx2.nil.trans hx3).mono (by simp), ?_⟩
    rw [hf]
    exact ⟨rfl, hr3⟩
  | some i =>
    go_enter Tryd.func29, Tryd.ntmps29
    go_wp2_with (first
      | (go_at_call 21; refine (there_calls _ _ _ _ _ hA).mono ?_; rintro e w2 ⟨rfl, rfl⟩; rw [ht])
      | (go_at_call 51; refine (room_calls _ L.t B.bp B.bs _ _ l H.out.ban.tab HC.out hl hM.big).mono ?_; rintro e w2 ⟨rfl, hx2⟩; rw [HR.out])
      | (go_at_call 31; refine (node1_calls _ L LM LD B M dp ds v ks bb bk (H.out.ext hx2) (hx2.cell hb (by simp)) (hx2.cell hk (by simp)) nb nk (hks.ext hx2) hl16 hv HVP.out (he.ext hx2 (by simp)) h6).mono ?_; rintro e w3 hm3; obtain ⟨rfl, hx3, hr3⟩ := hm3.some hf
         obtain ⟨cap3, hh3⟩ := hr3.ban.hdr
         have d2 := hh3.cell 2 _ rfl
         have hput := run_ownPut w3 L.o B.own B.clock 2 i id (verOf M.np i) hr3.ban.own
         obtain ⟨w4, hw4⟩ : ∃ w4, w4 = putW w3 L.o (ownPut B.own B.clock 2 i id (verOf M.np i)).1 (ownPut B.own B.clock 2 i id (verOf M.np i)).2 := ⟨_, rfl⟩
         have hput' : (Instr.mapUpdate 70 (.map (some L.o)) (thing 2 i) (thing id (verOf M.np i))).run Tryd.prog w3 = .ok () w4 := by rw [hw4]; exact hput
         have HW4 := Lib.hid hw4
         have HR3 := Lib.hid hr3
         clear hput hw4 hh3 hr3 hm3)
      | (go_at_call 44
         refine (use_calls w4 L.t B.bp B.bs id 1 l (HR3.out.ban.tab.ext (by rw [HW4.out]; exact putW_ext _ _ _ _) (L.o_apart H.out.ban.nd)) HC.out hl hM (by omega)).mono ?_
         rintro e w5 ⟨⟨v5, rfl⟩, ht5, hx5⟩))
    go_ret3
    obtain ⟨hr5, hxx⟩ := took_rep HR3.out HW4.out hx5 ht5
    refine ⟨(hx2.nil.trans (hx3.mono (by simp))).trans (hxx.mono (by simp)), ?_⟩
    rw [hf]
    exact ⟨rfl, hr5⟩
set_option maxRecDepth 100000 in
set_option maxHeartbeats 3200000 in
theorem takePage_calls {K : List Nat} {B0 : Nat} {E : Nat → Addr} (w : World) (L : BankL) (LM : MemL) (LD : DomL) (B : BanksS) (M : MemS) (dp : List Place) (ds : List DomS) (id : Int) (l : List Int) (v : Value) (ws : List Int) (bb bk : Nat) (h : TrioRep w L LM LD B M dp ds)
    (hb : w.cell? ⟨bb, 0, none⟩ = some (ptr L.t.h)) (hk : w.cell? ⟨bk, 0, none⟩ = some v) (nb : bb ∉ LM.fp) (nk : bk ∉ LM.fp)
    (hks : WordsAt w v ws) (hl16 : ws.length ≤ 32) (hvp : Away v LM.fp)
    (ht : there B.bp id = true) (hc : IsChain B.bp B.bs id l) (hl : l.length ≤ 256) (hM : Small 100000 B.bs) (hr : l.any (tight B.bs 1) = false) (he : Errs K B0 E w) (h6 : 6 ∈ K) :
    Calls Tryd.prog 29 #[ptr L.t.h, .int .i64 id, .int .i64 3, .nilIface, pageFn bb bk] w (Took E w [L.o, L.t.r, LM.pag.p, LM.pag.r] L LM LD B M (M.tookPage ws) dp ds M.pp 3 id l) := by
  obtain ⟨cap, hh⟩ := h.ban.tab.hdr
  have c0 := hh.cell 0 _ rfl
  have hA := h.ban.tab.arena
  have H := Lib.hid h
  have HC := Lib.hid hc
  have HR := Lib.hid hr
  have HVP := Lib.hid hvp
  clear hh h hc hr hvp
  cases hf : freeAt M.pp with
  | none =>
    go_enter Tryd.func29, Tryd.ntmps29
    go_wp2_with (first
      | (go_at_call 21; refine (there_calls _ _ _ _ _ hA).mono ?_; rintro e w2 ⟨rfl, rfl⟩; rw [ht])
      | (go_at_call 51; refine (room_calls _ L.t B.bp B.bs _ _ l H.out.ban.tab HC.out hl hM.big).mono ?_; rintro e w2 ⟨rfl, hx2⟩; rw [HR.out])
      | (go_at_call 33; refine (page1_calls _ L LM LD B M dp ds v ws bb bk (H.out.ext hx2) (hx2.cell hb (by simp)) (hx2.cell hk (by simp)) nb nk (WordsAt.ext hx2 hks (fun _ hb => by cases hb)) hl16 HVP.out (he.ext hx2 (by simp)) h6).mono ?_; rintro e w3 hm3; obtain ⟨rfl, hx3, hr3⟩ := hm3.none hf))
    go_ret3
    refine ⟨(hx2.nil.trans hx3).mono (by simp), ?_⟩
    rw [hf]
    exact ⟨rfl, hr3⟩
  | some i =>
    go_enter Tryd.func29, Tryd.ntmps29
    go_wp2_with (first
      | (go_at_call 21; refine (there_calls _ _ _ _ _ hA).mono ?_; rintro e w2 ⟨rfl, rfl⟩; rw [ht])
      | (go_at_call 51; refine (room_calls _ L.t B.bp B.bs _ _ l H.out.ban.tab HC.out hl hM.big).mono ?_; rintro e w2 ⟨rfl, hx2⟩; rw [HR.out])
      | (go_at_call 33; refine (page1_calls _ L LM LD B M dp ds v ws bb bk (H.out.ext hx2) (hx2.cell hb (by simp)) (hx2.cell hk (by simp)) nb nk (WordsAt.ext hx2 hks (fun _ hb => by cases hb)) hl16 HVP.out (he.ext hx2 (by simp)) h6).mono ?_; rintro e w3 hm3; obtain ⟨rfl, hx3, hr3⟩ := hm3.some hf
         obtain ⟨cap3, hh3⟩ := hr3.ban.hdr
         have d2 := hh3.cell 2 _ rfl
         have hput := run_ownPut w3 L.o B.own B.clock 3 i id (verOf M.pp i) hr3.ban.own
         obtain ⟨w4, hw4⟩ : ∃ w4, w4 = putW w3 L.o (ownPut B.own B.clock 3 i id (verOf M.pp i)).1 (ownPut B.own B.clock 3 i id (verOf M.pp i)).2 := ⟨_, rfl⟩
         have hput' : (Instr.mapUpdate 70 (.map (some L.o)) (thing 3 i) (thing id (verOf M.pp i))).run Tryd.prog w3 = .ok () w4 := by rw [hw4]; exact hput
         have HW4 := Lib.hid hw4
         have HR3 := Lib.hid hr3
         clear hput hw4 hh3 hr3 hm3)
      | (go_at_call 44
         refine (use_calls w4 L.t B.bp B.bs id 1 l (HR3.out.ban.tab.ext (by rw [HW4.out]; exact putW_ext _ _ _ _) (L.o_apart H.out.ban.nd)) HC.out hl hM (by omega)).mono ?_
         rintro e w5 ⟨⟨v5, rfl⟩, ht5, hx5⟩))
    go_ret3
    obtain ⟨hr5, hxx⟩ := took_rep HR3.out HW4.out hx5 ht5
    refine ⟨(hx2.nil.trans (hx3.mono (by simp))).trans (hxx.mono (by simp)), ?_⟩
    rw [hf]
    exact ⟨rfl, hr5⟩
end Go.Proofs.YtpnjebpbglgebaaDoor
