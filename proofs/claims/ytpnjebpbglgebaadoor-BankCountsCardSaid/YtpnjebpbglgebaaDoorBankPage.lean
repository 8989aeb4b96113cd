/-
  Package bank: Page.
-/
import Derived.Test.YtpnjebpbglgebaaDoorBankNode
namespace Go.Proofs.YtpnjebpbglgebaaDoor
open Go Go.RowKit

theorem box0' (w : World) (x y : Value) {T U : TypeId} : ((w.alloc (.cells #[x] T)).alloc (.cells #[y] U)).cell? ⟨w.heap.size, 0, none⟩ = some x := box0 w x y
theorem box1' (w : World) (x y : Value) {T U : TypeId} : ((w.alloc (.cells #[x] T)).alloc (.cells #[y] U)).cell? ⟨w.heap.size + 1, 0, none⟩ = some y := box1 w x y
theorem boxExt' (w : World) (x y : Value) {T U : TypeId} : Ext [] w ((w.alloc (.cells #[x] T)).alloc (.cells #[y] U)) := ((Ext.refl [] w).alloc _).alloc _

set_option maxRecDepth 100000 in
set_option maxHeartbeats 3200000 in
theorem page_bar {K : List Nat} {B0 : Nat} {E : Nat → Addr} (w : World) (L : BankL) (LM : MemL) (LD : DomL) (B : BanksS) (M : MemS) (dp : List Place) (ds : List DomS) (id : Int) (l : List Int) (v : Value) (ws : List Int) (h : TrioRep w L LM LD B M dp ds)
    (hks : WordsAt w v ws) (hl16 : ws.length ≤ 32) 
    (hc : IsChain B.bp B.bs id l) (hl : l.length ≤ 256) (hM : Small 100000 B.bs) (he : Errs K B0 E w) (h5 : 5 ∈ K) (h7 : 7 ∈ K) (hbar : takeBar B id l 0 ≠ 0) :
    Calls Tryd.prog 14 #[ptr L.t.h, .int .i64 id, v] w fun e w' => e = .returned (.tuple #[.int .i64 0, .int .i64 0, errO E (takeBar B id l 0)]) ∧ Ext [] w w' := by
  obtain ⟨A0, c0, rfl, hcw⟩ := hks
  have hks : WordsAt w (.slice A0 ws.length c0) ws := ⟨A0, c0, rfl, hcw⟩
  have HBA := Lib.hid hbar
  have H := Lib.hid h.ban.tab
  have HE := Lib.hid he
  have HC := Lib.hid hc
  have HKS := Lib.hid hks
  have x0 := box0' w (ptr L.t.h) (.slice A0 ws.length c0) (T := 24) (U := 88)
  have x1 := box1' w (ptr L.t.h) (.slice A0 ws.length c0) (T := 24) (U := 88)
  have hcur := boxExt' w (ptr L.t.h) (.slice A0 ws.length c0) (T := 24) (U := 88)
  clear hbar h he hc hcw hks
  go_enter Tryd.func14, Tryd.ntmps14
  go_wp2_with (first
    | (go_at_call 29
       refine (take_bar _ L.t B.bp B.bs B id 3 l 0 _ (H.out.ext hcur (fun _ _ hb => by cases hb)) rfl rfl HC.out hl hM.big (HE.out.ext hcur (by simp)) h5 h7 HBA.out).mono ?_
       rintro e w3 ⟨rfl, hx3⟩))
  go_ret3
  exact ⟨rfl, hcur.trans hx3⟩

set_option maxRecDepth 100000 in
set_option maxHeartbeats 3200000 in
theorem page_go {K : List Nat} {B0 : Nat} {E : Nat → Addr} (w : World) (L : BankL) (LM : MemL) (LD : DomL) (B : BanksS) (M : MemS) (dp : List Place) (ds : List DomS) (id : Int) (l : List Int) (v : Value) (ws : List Int) (h : TrioRep w L LM LD B M dp ds)
    (hks : WordsAt w v ws) (hl16 : ws.length ≤ 32)  (hvp : Away v LM.fp)
    (hc : IsChain B.bp B.bs id l) (hl : l.length ≤ 256) (hM : Small 100000 B.bs) (he : Errs K B0 E w) (h6 : 6 ∈ K) (ht : there B.bp id = true) (hr : l.any (tight B.bs 1) = false) :
    Calls Tryd.prog 14 #[ptr L.t.h, .int .i64 id, v] w (Took E w [L.o, L.t.r, LM.pag.p, LM.pag.r] L LM LD B M (M.tookPage ws) dp ds M.pp 3 id l) := by
  obtain ⟨A0, c0, rfl, hcw⟩ := hks
  have hks : WordsAt w (.slice A0 ws.length c0) ws := ⟨A0, c0, rfl, hcw⟩
  have H := Lib.hid h
  have HE := Lib.hid he
  have HC := Lib.hid hc
  have HKS := Lib.hid hks
  have HR := Lib.hid hr
  have HVP := Lib.hid hvp
  have x0 := box0' w (ptr L.t.h) (.slice A0 ws.length c0) (T := 24) (U := 88)
  have x1 := box1' w (ptr L.t.h) (.slice A0 ws.length c0) (T := 24) (U := 88)
  have hcur := boxExt' w (ptr L.t.h) (.slice A0 ws.length c0) (T := 24) (U := 88)
  have n0 : w.heap.size ∉ LM.fp := fun hm => by have := h.mem.lt _ hm; omega
  have n1 : w.heap.size + 1 ∉ LM.fp := fun hm => by have := h.mem.lt _ hm; omega
  have m0 : w.heap.size ∉ [L.o, L.t.r, LM.pag.p, LM.pag.r] := by
    intro hm
    simp only [List.mem_cons, List.mem_nil_iff, or_false] at hm
    rcases hm with hm | hm | hm
    · have := h.ban.lt L.o L.mem_o; omega
    · have := h.ban.lt L.t.r (L.mem_t (by simp [TabL.fp])); omega
    · exact n0 (page_fp (L := L) _ (by simpa using hm))
  have m1 : w.heap.size + 1 ∉ [L.o, L.t.r, LM.pag.p, LM.pag.r] := by
    intro hm
    simp only [List.mem_cons, List.mem_nil_iff, or_false] at hm
    rcases hm with hm | hm | hm
    · have := h.ban.lt L.o L.mem_o; omega
    · have := h.ban.lt L.t.r (L.mem_t (by simp [TabL.fp])); omega
    · exact n1 (page_fp (L := L) _ (by simpa using hm))
  clear h he hc hcw hks hr hvp
  go_enter Tryd.func14, Tryd.ntmps14
  go_wp2_with (first
    | (go_at_call 29
       refine (takePage_calls _ L LM LD B M dp ds id l _ ws w.heap.size (w.heap.size + 1) (H.out.ext hcur) x0 x1 n0 n1 (WordsAt.ext hcur HKS.out (fun _ hb => by cases hb)) hl16 HVP.out ht HC.out hl hM HR.out (HE.out.ext hcur (by simp)) h6).mono ?_
       rintro e w3 hm3; have hx3 := hm3.1; obtain ⟨x, y, z, rfl, hm4⟩ := hm3.form))
  go_ret3
  exact hm4.shift hcur
end Go.Proofs.YtpnjebpbglgebaaDoor
