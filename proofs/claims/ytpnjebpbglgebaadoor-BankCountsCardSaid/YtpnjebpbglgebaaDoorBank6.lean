/-
  Banks over a memory and domains: what is live.
-/
import Derived.Test.YtpnjebpbglgebaaDoorBank5
namespace Go.Proofs.YtpnjebpbglgebaaDoor
open Go Go.RowKit

/-- Banks, the memory and the domains that they are over. -/
structure TrioRep (w : World) (L : BankL) (LM : MemL) (LD : DomL) (B : BanksS) (M : MemS) (dp : List Place) (ds : List DomS) : Prop where
  ban : BankRep w L LM.m LD.t.h B
  mem : MemRep w LM M
  dom : DomRep w LD dp ds
  sep : Sep [L.fp, LM.fp, LD.fp]

def liveK (M : MemS) (dp : List Place) (kind id ver : Int) : Bool :=
  if kind = 2 then liveAt M.np id ver else if kind = 3 then liveAt M.pp id ver else if kind = 4 then liveAt dp id ver else false

set_option maxHeartbeats 800000 in
theorem bankLive_calls (w : World) (L : BankL) (LM : MemL) (LD : DomL) (B : BanksS) (M : MemS) (dp : List Place) (ds : List DomS) (kind id ver : Int) (h : TrioRep w L LM LD B M dp ds) :
    Calls Tryd.prog 46 #[ptr L.t.h, .int .i64 kind, .int .i64 id, .int .i64 ver] w fun e w' => e = .returned (.bool (liveK M dp kind id ver)) ∧ w = w' := by
  obtain ⟨c0, hh⟩ := h.ban.hdr
  have b3 := hh.cell 3 _ rfl
  have b4 := hh.cell 4 _ rfl
  have m0 := h.mem.hm.cell 0 _ rfl
  have s0 := h.mem.hs.cell 0 _ rfl
  have s1 := h.mem.hs.cell 1 _ rfl
  obtain ⟨cn, hn⟩ := h.mem.nod.hdr
  have n0 := hn.cell 0 _ rfl
  obtain ⟨cp, hp⟩ := h.mem.pag.hdr
  have p0 := hp.cell 0 _ rfl
  obtain ⟨cd, hd⟩ := h.dom.tab.hdr
  have d0 := hd.cell 0 _ rfl
  have an := h.mem.nod.arena
  have ap := h.mem.pag.arena
  have ad := h.dom.tab.arena
  clear h
  by_cases k2 : kind = 2
  · subst k2
    go_enter Tryd.func46, Tryd.ntmps46
    go_wp2_with (go_at_call 23; refine (live_calls _ _ _ _ _ _ an).mono ?_; rintro e w2 ⟨rfl, rfl⟩)
    go_ret
    exact ⟨rfl, rfl⟩
  by_cases k3 : kind = 3
  · subst k3
    clear k2
    go_enter Tryd.func46, Tryd.ntmps46
    go_wp2_with (go_at_call 23; refine (live_calls _ _ _ _ _ _ ap).mono ?_; rintro e w2 ⟨rfl, rfl⟩)
    go_ret
    exact ⟨rfl, rfl⟩
  by_cases k4 : kind = 4
  · subst k4
    clear k2 k3
    go_enter Tryd.func46, Tryd.ntmps46
    go_wp2_with (go_at_call 23; refine (live_calls _ _ _ _ _ _ ad).mono ?_; rintro e w2 ⟨rfl, rfl⟩)
    go_ret
    exact ⟨rfl, rfl⟩
  · have e1 : liveK M dp kind id ver = false := by simp [liveK, k2, k3, k4]
    rw [e1]
    clear e1
    go_enter Tryd.func46, Tryd.ntmps46
    go_wp2
    go_ret
    exact ⟨rfl, rfl⟩
end Go.Proofs.YtpnjebpbglgebaaDoor
