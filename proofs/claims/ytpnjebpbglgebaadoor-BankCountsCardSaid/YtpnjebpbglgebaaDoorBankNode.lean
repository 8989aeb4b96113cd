/-
  Package bank: Node, Page.
-/
import Derived.Test.YtpnjebpbglgebaaDoorTake4
namespace Go.Proofs.YtpnjebpbglgebaaDoor
open Go Go.RowKit

theorem box0 (w : World) (x y : Value) {T U : TypeId} : ((w.alloc (.cells #[x] T)).alloc (.cells #[y] U)).drew.cell? ⟨w.heap.size, 0, none⟩ = some x :=
  (((Blk.new (w := w) (cs := [x]) (T := T)).alloc (.cells #[y] U)).drew).cell 0 _ rfl
theorem box1 (w : World) (x y : Value) {T U : TypeId} : ((w.alloc (.cells #[x] T)).alloc (.cells #[y] U)).drew.cell? ⟨w.heap.size + 1, 0, none⟩ = some y := by
  simp
theorem boxExt (w : World) (x y : Value) {T U : TypeId} : Ext [] w ((w.alloc (.cells #[x] T)).alloc (.cells #[y] U)).drew := (((Ext.refl [] w).alloc _).alloc _).drew

theorem Took.form {E : Nat → Addr} {w w' : World} {D : List Nat} {L : BankL} {LM : MemL} {LD : DomL} {B : BanksS} {M M' : MemS} {dp : List Place} {ds : List DomS} {ps : List Place} {kind id : Int} {l : List Int} {e : Ending} (h : Took E w D L LM LD B M M' dp ds ps kind id l e w') :
    ∃ a b c, e = .returned (.tuple #[.int .i64 a, .int .i64 b, c]) ∧ Took E w D L LM LD B M M' dp ds ps kind id l (.returned (.tuple #[.int .i64 a, .int .i64 b, c])) w' := by
  obtain ⟨hx, hm⟩ := h
  cases hf : freeAt ps with
  | none => rw [hf] at hm; obtain ⟨rfl, hr⟩ := hm; exact ⟨0, 0, errV E 6, rfl, hx, by rw [hf]; exact ⟨rfl, hr⟩⟩
  | some i => rw [hf] at hm; obtain ⟨rfl, hr⟩ := hm; exact ⟨i, verOf ps i, .nilIface, rfl, hx, by rw [hf]; exact ⟨rfl, hr⟩⟩
theorem Took.shift {E : Nat → Addr} {w w1 w' : World} {D : List Nat} {L : BankL} {LM : MemL} {LD : DomL} {B : BanksS} {M M' : MemS} {dp : List Place} {ds : List DomS} {ps : List Place} {kind id : Int} {l : List Int} {e : Ending} (h : Took E w1 D L LM LD B M M' dp ds ps kind id l e w') (hx : Ext [] w w1) :
    Took E w D L LM LD B M M' dp ds ps kind id l e w' := ⟨hx.nil.trans h.1, h.2⟩

set_option maxRecDepth 100000 in
set_option maxHeartbeats 3200000 in
theorem node_bar {K : List Nat} {B0 : Nat} {E : Nat → Addr} (w : World) (L : BankL) (LM : MemL) (LD : DomL) (B : BanksS) (M : MemS) (dp : List Place) (ds : List DomS) (id : Int) (l : List Int) (v : Value) (ks : List Key) (h : TrioRep w L LM LD B M dp ds)
    (hks : KeysAt w v ks) (hl16 : ks.length ≤ 16) (hv : ∀ k ∈ ks, ValidOk k)
    (hc : IsChain B.bp B.bs id l) (hl : l.length ≤ 256) (hM : Small 100000 B.bs) (he : Errs K B0 E w) (h5 : 5 ∈ K) (h7 : 7 ∈ K) (hbar : takeBar B id l 0 ≠ 0) :
    Calls Tryd.prog 13 #[ptr L.t.h, .int .i64 id, v] w fun e w' => e = .returned (.tuple #[.int .i64 0, .int .i64 0, errO E (takeBar B id l 0)]) ∧ Ext [] w w' := by
  obtain ⟨A0, c0, rfl, hcw⟩ := hks
  have hks : KeysAt w (.slice A0 ks.length c0) ks := ⟨A0, c0, rfl, hcw⟩
  have HBA := Lib.hid hbar
  have H := Lib.hid h.ban.tab
  have HE := Lib.hid he
  have HC := Lib.hid hc
  have HV := Lib.hid hv
  have HKS := Lib.hid hks
  have x0 := box0 w (ptr L.t.h) (.slice A0 ks.length c0) (T := 24) (U := 39)
  have x1 := box1 w (ptr L.t.h) (.slice A0 ks.length c0) (T := 24) (U := 39)
  have hcur := boxExt w (ptr L.t.h) (.slice A0 ks.length c0) (T := 24) (U := 39)
  clear hbar h he hc hcw hv hks
  go_enter Tryd.func13, Tryd.ntmps13
  go_wp2_with fail
  go_region_held3 (fun w' => w'.cell? ⟨w.heap.size, 0, none⟩ = some (ptr L.t.h) ∧ w'.cell? ⟨w.heap.size + 1, 0, none⟩ = some (.slice A0 ks.length c0))
    (first
      | exact ⟨x0, x1⟩
      | exact ⟨hx2.cell x0 (by simp), hx2.cell x1 (by simp)⟩
      | exact ⟨(hx2.trans hx3).cell x0 (by simp), (hx2.trans hx3).cell x1 (by simp)⟩)
    ((first
      | (go_at_call 30; refine (fits_ok _ _ ks (HKS.out.ext hcur) hl16 HV.out).mono ?_; rintro e w2 ⟨rfl, hx2⟩)
      | (go_at_call 29
         refine (take_bar _ L.t B.bp B.bs B id 2 l 0 _ (H.out.ext (hcur.trans hx2) (fun _ _ hb => by cases hb)) rfl rfl HC.out hl hM.big (HE.out.ext (hcur.trans hx2) (by simp)) h5 h7 HBA.out).mono ?_
         rintro e w3 ⟨rfl, hx3⟩)))
  all_goals go_wp2
  all_goals go_ret3
  all_goals exact ⟨rfl, (hcur.trans hx2).trans hx3⟩

set_option maxRecDepth 100000 in
set_option maxHeartbeats 3200000 in
theorem node_go {K : List Nat} {B0 : Nat} {E : Nat → Addr} (w : World) (L : BankL) (LM : MemL) (LD : DomL) (B : BanksS) (M : MemS) (dp : List Place) (ds : List DomS) (id : Int) (l : List Int) (v : Value) (ks : List Key) (h : TrioRep w L LM LD B M dp ds)
    (hks : KeysAt w v ks) (hl16 : ks.length ≤ 16) (hv : ∀ k ∈ ks, ValidOk k) (hvp : Away v LM.fp)
    (hc : IsChain B.bp B.bs id l) (hl : l.length ≤ 256) (hM : Small 100000 B.bs) (he : Errs K B0 E w) (h6 : 6 ∈ K) (ht : there B.bp id = true) (hr : l.any (tight B.bs 1) = false) :
    Calls Tryd.prog 13 #[ptr L.t.h, .int .i64 id, v] w (Took E w [L.o, L.t.r, LM.nod.p, LM.nod.r] L LM LD B M (M.tookNode ks) dp ds M.np 2 id l) := by
  obtain ⟨A0, c0, rfl, hcw⟩ := hks
  have hks : KeysAt w (.slice A0 ks.length c0) ks := ⟨A0, c0, rfl, hcw⟩
  have H := Lib.hid h
  have HE := Lib.hid he
  have HC := Lib.hid hc
  have HV := Lib.hid hv
  have HKS := Lib.hid hks
  have HR := Lib.hid hr
  have HVP := Lib.hid hvp
  have x0 := box0 w (ptr L.t.h) (.slice A0 ks.length c0) (T := 24) (U := 39)
  have x1 := box1 w (ptr L.t.h) (.slice A0 ks.length c0) (T := 24) (U := 39)
  have hcur := boxExt w (ptr L.t.h) (.slice A0 ks.length c0) (T := 24) (U := 39)
  have n0 : w.heap.size ∉ LM.fp := fun hm => by have := h.mem.lt _ hm; omega
  have n1 : w.heap.size + 1 ∉ LM.fp := fun hm => by have := h.mem.lt _ hm; omega
  have m0 : w.heap.size ∉ [L.o, L.t.r, LM.nod.p, LM.nod.r] := by
    intro hm
    simp only [List.mem_cons, List.mem_nil_iff, or_false] at hm
    rcases hm with hm | hm | hm
    · have := h.ban.lt L.o L.mem_o; omega
    · have := h.ban.lt L.t.r (L.mem_t (by simp [TabL.fp])); omega
    · exact n0 (node_fp (L := L) _ (by simpa using hm))
  have m1 : w.heap.size + 1 ∉ [L.o, L.t.r, LM.nod.p, LM.nod.r] := by
    intro hm
    simp only [List.mem_cons, List.mem_nil_iff, or_false] at hm
    rcases hm with hm | hm | hm
    · have := h.ban.lt L.o L.mem_o; omega
    · have := h.ban.lt L.t.r (L.mem_t (by simp [TabL.fp])); omega
    · exact n1 (node_fp (L := L) _ (by simpa using hm))
  clear h he hc hcw hv hks hr hvp
  go_enter Tryd.func13, Tryd.ntmps13
  go_wp2_with fail
  go_region_held3 (fun w' => w'.cell? ⟨w.heap.size, 0, none⟩ = some (ptr L.t.h) ∧ w'.cell? ⟨w.heap.size + 1, 0, none⟩ = some (.slice A0 ks.length c0))
    (first
      | exact ⟨x0, x1⟩
      | exact ⟨hx2.cell x0 (by simp), hx2.cell x1 (by simp)⟩
      | exact ⟨(hx2.nil.trans hx3).cell x0 m0, (hx2.nil.trans hx3).cell x1 m1⟩)
    ((first
      | (go_at_call 30; refine (fits_ok _ _ ks (HKS.out.ext hcur) hl16 HV.out).mono ?_; rintro e w2 ⟨rfl, hx2⟩)
      | (go_at_call 29
         refine (takeNode_calls _ L LM LD B M dp ds id l _ ks w.heap.size (w.heap.size + 1) (H.out.ext (hcur.trans hx2)) (hx2.cell x0 (by simp)) (hx2.cell x1 (by simp)) n0 n1 (HKS.out.ext (hcur.trans hx2)) hl16 HV.out HVP.out ht HC.out hl hM HR.out (HE.out.ext (hcur.trans hx2) (by simp)) h6).mono ?_
         rintro e w3 hm3; have hx3 := hm3.1; obtain ⟨x, y, z, rfl, hm4⟩ := hm3.form)))
  all_goals go_wp2
  all_goals go_ret3
  all_goals exact hm4.shift (hcur.trans hx2)
end Go.Proofs.YtpnjebpbglgebaaDoor
