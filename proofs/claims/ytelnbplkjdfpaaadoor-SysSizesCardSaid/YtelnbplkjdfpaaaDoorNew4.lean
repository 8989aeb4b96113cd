/-
  The maker of systems.
-/
import Derived.Test.YtelnbplkjdfpaaaDoorNew3
namespace Go.Proofs.YtelnbplkjdfpaaaDoor
open Go Go.RowKit

def SysNew (w : World) (n0 n1 n2 n3 n4 n5 : Nat) (e : Ending) (w' : World) : Prop :=
  ∃ L : SysL, GaveNew e L.s ∧ SysRep w' L (SysS.new n0 n1 n2 n3 n4 n5) ∧ Ext [] w w' ∧ (∀ b ∈ L.fp, w.heap.size ≤ b ∧ b < w'.heap.size)

/-- Parts that lie in stretches of their own, one above the other. -/
theorem sep_of_steps (F : List (List Nat)) (s : Nat → Nat) (hs : ∀ i, s i ≤ s (i + 1)) (h : ∀ i (hi : i < F.length), ∀ b ∈ F[i], s i ≤ b ∧ b < s (i + 1)) : Sep F := by
  have mono : ∀ i d, s i ≤ s (i + d) := by
    intro i d
    induction d with
    | zero => exact Nat.le_refl _
    | succ d ih => exact Nat.le_trans ih (hs _)
  intro i j hi hj hij b hb hb'
  have h1 := h i hi b hb
  have h2 := h j hj b hb'
  rcases Nat.lt_or_gt_of_ne hij with hlt | hlt
  · have := mono (i + 1) (j - (i + 1))
    rw [show i + 1 + (j - (i + 1)) = j by omega] at this
    omega
  · have := mono (j + 1) (i - (j + 1))
    rw [show j + 1 + (i - (j + 1)) = i by omega] at this
    omega

theorem sys_new {w w1 w2 w3 w4 w5 w7 : World} {n0 n1 n2 n3 n4 n5 : Nat} {Lm : MemL} {Ld : DomL} {Lt : TabL} {Lb : BankL} {Lk : TabL} {T T' : TypeId}
    (hm : MemRep w1 Lm (MemS.new n0 n1 16)) (xm : Ext [] w w1) (fm : Fresh w w1 Lm.fp)
    (hd : DomRep w2 Ld (List.replicate n2 default) (List.replicate n2 default)) (xd : Ext [] w1 w2) (fd : Fresh w1 w2 Ld.fp)
    (ht : TabRep MeterS.enc w3 Lt (List.replicate n3 default) (List.replicate n3 default)) (xt : Ext [] w2 w3) (ft : Fresh w2 w3 Lt.fp)
    (hb : BankRep w4 Lb Lm.m Ld.t.h (BanksS.new n4)) (xb : Ext [] w3 w4) (fb : Fresh w3 w4 Lb.fp)
    (hk : TabRep MakerS.enc w5 Lk (List.replicate n5 default) (List.replicate n5 default)) (xk : Ext [] w4 w5) (fk : Fresh w4 w5 Lk.fp)
    (e7 : w7 = (w5.alloc (.cells #[.slice none 0 0] T)).alloc (.cells #[ptr Lm.m, ptr Ld.t.h, ptr Lt.h, ptr Lb.t.h, ptr Lk.h, ptr w5.heap.size, .slice none 0 0, .slice none 0 0, .int .i64 0] T')) :
    SysNew w n0 n1 n2 n3 n4 n5 (.returned (.tuple #[ptr (w5.heap.size + 1), .nilIface])) w7 := by
  have x7 : Ext [] w5 w7 := by rw [e7]; exact ((Ext.refl [] _).alloc _).alloc _
  have s1 := xm.size; have s2 := xd.size; have s3 := xt.size; have s4 := xb.size; have s5 := xk.size
  have e : ∀ F : List Nat, ∀ b ∈ F, b ∉ ([] : List Nat) := fun _ _ _ h => by cases h
  have hs : Blk w7 (w5.heap.size + 1) [ptr Lm.m, ptr Ld.t.h, ptr Lt.h, ptr Lb.t.h, ptr Lk.h, ptr w5.heap.size, .slice none 0 0, .slice none 0 0, .int .i64 0] := by
    rw [e7]
    have := Blk.new (w := w5.alloc (.cells #[.slice none 0 0] T)) (cs := [ptr Lm.m, ptr Ld.t.h, ptr Lt.h, ptr Lb.t.h, ptr Lk.h, ptr w5.heap.size, .slice none 0 0, .slice none 0 0, .int .i64 0]) (T := T')
    simpa using this
  have hq : Blk w7 w5.heap.size [.slice none 0 0] := by
    rw [e7]; exact (Blk.new (cs := [.slice none 0 0])).alloc _
  have z7 : w7.heap.size = w5.heap.size + 1 + 1 := by rw [e7]; simp
  refine ⟨⟨w5.heap.size + 1, w5.heap.size, Lm, Ld, Lt, Lb, Lk, .slice none 0 0, .slice none 0 0, .slice none 0 0⟩, rfl, ⟨hs, hq, ?_, ?_, ?_, ?_, ?_, RowInts.nil _ _ _, RowInts.nil _ _ _, RowInts.nil _ _ _, ?_⟩, ?_, ?_⟩
  · exact ((((hm.ext xd (e _)).ext xt (e _)).ext xb (e _)).ext xk (e _)).ext x7 (e _)
  · exact (((hd.ext xt (e _)).ext xb (e _)).ext xk (e _)).ext x7 (e _)
  · exact ((ht.ext xb (e _)).ext xk (e _)).ext x7 (e _)
  · exact (hb.ext xk (e _)).ext x7 (e _)
  · exact hk.ext x7 (e _)
  · intro i j hi hj hij b hb1 hb2
    have cl : ∀ i (hi : i < 10), b ∈ (SysL.parts ⟨w5.heap.size + 1, w5.heap.size, Lm, Ld, Lt, Lb, Lk, .slice none 0 0, .slice none 0 0, .slice none 0 0⟩)[i]'hi →
        (i = 0 ∧ b = w5.heap.size + 1) ∨ (i = 1 ∧ b = w5.heap.size) ∨ (i = 2 ∧ b < w1.heap.size) ∨ (i = 3 ∧ w1.heap.size ≤ b ∧ b < w2.heap.size) ∨ (i = 4 ∧ w2.heap.size ≤ b ∧ b < w3.heap.size) ∨
        (i = 5 ∧ w3.heap.size ≤ b ∧ b < w4.heap.size) ∨ (i = 6 ∧ w4.heap.size ≤ b ∧ b < w5.heap.size) := by
      intro i hi hb
      match i, hi with
      | 0, _ => simp [SysL.parts] at hb; omega
      | 1, _ => simp [SysL.parts] at hb; omega
      | 2, _ => have := fm b hb; omega
      | 3, _ => have := fd b hb; omega
      | 4, _ => have := ft b hb; omega
      | 5, _ => have := fb b hb; omega
      | 6, _ => have := fk b hb; omega
      | 7, _ => simp [SysL.parts, Value.ownBlock] at hb
      | 8, _ => simp [SysL.parts, Value.ownBlock] at hb
      | 9, _ => simp [SysL.parts, Value.ownBlock] at hb
    have h1 := cl i hi hb1
    have h2 := cl j hj hb2
    omega
  · exact ((((xm.trans xd).trans xt).trans xb).trans xk).trans x7
  · intro b hb
    obtain ⟨F, hF, hb⟩ := List.mem_flatten.1 hb
    simp only [SysL.parts, List.mem_cons, List.mem_nil_iff, or_false] at hF
    rcases hF with rfl | rfl | rfl | rfl | rfl | rfl | rfl | rfl | rfl | rfl
    · simp at hb; omega
    · simp at hb; omega
    · have := fm b hb; omega
    · have := fd b hb; omega
    · have := ft b hb; omega
    · have := fb b hb; omega
    · have := fk b hb; omega
    · simp [Value.ownBlock] at hb
    · simp [Value.ownBlock] at hb
    · simp [Value.ownBlock] at hb

def sizesVal (n0 n1 n2 n3 n4 n5 : Int) : Value := .agg #[.int .i64 n0, .int .i64 n1, .int .i64 n2, .int .i64 n3, .int .i64 n4, .int .i64 n5]

/-- The last four sizes, where they were boxed. -/
def ZCells (w : World) (z : Nat) (n2 n3 n4 n5 : Int) : Prop :=
  w.cell? ⟨z, 2, none⟩ = some (.int .i64 n2) ∧ w.cell? ⟨z, 3, none⟩ = some (.int .i64 n3) ∧ w.cell? ⟨z, 4, none⟩ = some (.int .i64 n4) ∧ w.cell? ⟨z, 5, none⟩ = some (.int .i64 n5)
theorem z_new (w : World) (n0 n1 n2 n3 n4 n5 : Int) {T : TypeId} : ZCells (w.alloc (.cells #[.int .i64 n0, .int .i64 n1, .int .i64 n2, .int .i64 n3, .int .i64 n4, .int .i64 n5] T)) w.heap.size n2 n3 n4 n5 := by
  have h := Blk.new (w := w) (cs := [.int .i64 n0, .int .i64 n1, .int .i64 n2, .int .i64 n3, .int .i64 n4, .int .i64 n5]) (T := T)
  exact ⟨h.cell 2 _ rfl, h.cell 3 _ rfl, h.cell 4 _ rfl, h.cell 5 _ rfl⟩
theorem z_keep {w w' : World} {z : Nat} {n2 n3 n4 n5 : Int} (h : ZCells w z n2 n3 n4 n5) (hx : Ext [] w w') : ZCells w' z n2 n3 n4 n5 :=
  ⟨hx.cell h.1 (by simp), hx.cell h.2.1 (by simp), hx.cell h.2.2.1 (by simp), hx.cell h.2.2.2 (by simp)⟩
theorem fresh_more {w v w' : World} {bs : List Nat} (h : Fresh v w' bs) (hs : w.heap.size ≤ v.heap.size) : Fresh w w' bs := fun b hb => ⟨Nat.le_trans hs (h b hb).1, (h b hb).2⟩

set_option maxHeartbeats 800000 in
theorem sysNew_ok (w : World) (n0 n1 n2 n3 n4 n5 : Nat) (a0 : 1 ≤ n0) (b0 : n0 ≤ 256) (a1 : 1 ≤ n1) (b1 : n1 ≤ 256) (a2 : 1 ≤ n2) (b2 : n2 ≤ 256) (a3 : 1 ≤ n3) (b3 : n3 ≤ 256) (a4 : 1 ≤ n4) (b4 : n4 ≤ 256) (a5 : 1 ≤ n5) (b5 : n5 ≤ 256) :
    Calls Tryd.prog 12 #[sizesVal n0 n1 n2 n3 n4 n5] w (SysNew w n0 n1 n2 n3 n4 n5) := by
  unfold sizesVal
  go_enter Tryd.func12, Tryd.ntmps12
  go_wp2_with (first
    | (go_at_call 65; refine (memNew_ok _ _ _ _ a0 b0 a1 b1 (by omega) (by omega)).mono ?_; rintro e w1 ⟨Lm, rfl, hm, xm, fm⟩; obtain ⟨z2, z3, z4, z5⟩ := z_keep (z_new w n0 n1 n2 n3 n4 n5) xm)
    | (go_at_call 66; refine (domNew_ok _ _ a2 b2).mono ?_; rintro e w2 ⟨Ld, rfl, hd, xd, fd⟩; obtain ⟨y2, y3, y4, y5⟩ := z_keep ⟨z2, z3, z4, z5⟩ xd)
    | (go_at_call 67; refine (meterNew_ok _ _ a3 b3).mono ?_; rintro e w3 ⟨Lt, rfl, ht, xt, ft⟩; obtain ⟨x2, x3, x4, x5⟩ := z_keep ⟨y2, y3, y4, y5⟩ xt)
    | (go_at_call 68; refine (bankNew_ok _ _ _ _ a4 b4).mono ?_; rintro e w4 ⟨Lb, rfl, hb, xb, fb⟩; obtain ⟨v2, v3, v4, v5⟩ := z_keep ⟨x2, x3, x4, x5⟩ xb)
    | (go_at_call 69; refine (makerNew_ok _ _ a5 b5).mono ?_; rintro e w5 ⟨Lk, rfl, hk, xk, fk⟩))
  go_ret2
  exact sys_new hm (((Ext.refl [] w).alloc _).trans xm) (fresh_more fm (by simp)) hd xd fd ht xt ft hb xb fb hk xk fk rfl

set_option maxHeartbeats 2000000 in
theorem sysNew_bad {K : List Nat} {B : Nat} {E : Nat → Addr} (w : World) (n0 n1 n2 n3 n4 n5 : Int)
    (h : ¬ ((1 ≤ n0 ∧ n0 ≤ 256) ∧ (1 ≤ n1 ∧ n1 ≤ 256) ∧ (1 ≤ n2 ∧ n2 ≤ 256) ∧ (1 ≤ n3 ∧ n3 ≤ 256) ∧ (1 ≤ n4 ∧ n4 ≤ 256) ∧ (1 ≤ n5 ∧ n5 ≤ 256))) (he : Errs K B E w) (hK : 3 ∈ K) :
    Calls Tryd.prog 12 #[sizesVal n0 n1 n2 n3 n4 n5] w (NewBad E w) := by
  unfold sizesVal
  by_cases g0 : n0 < 1 ∨ 256 < n0 ∨ n1 < 1 ∨ 256 < n1
  · clear h
    go_enter Tryd.func12, Tryd.ntmps12
    go_wp2_with (go_at_call 65; refine (memNew_bad _ _ _ _ g0 (he.ext ((Ext.refl [] w).alloc _) (by simp)) hK).mono ?_; rintro e w9 ⟨rfl, x9⟩)
    go_ret2
    exact ⟨rfl, ((Ext.refl [] w).alloc _).trans x9⟩
  have pn0 : 1 ≤ n0 := by omega
  have qn0 : n0 ≤ 256 := by omega
  obtain ⟨mn0, rfl⟩ := Int.eq_ofNat_of_zero_le (show 0 ≤ n0 by omega)
  have pn1 : 1 ≤ n1 := by omega
  have qn1 : n1 ≤ 256 := by omega
  obtain ⟨mn1, rfl⟩ := Int.eq_ofNat_of_zero_le (show 0 ≤ n1 by omega)
  by_cases g1 : n2 < 1 ∨ 256 < n2
  · clear h g0
    go_enter Tryd.func12, Tryd.ntmps12
    go_wp2_with (first
      | (go_at_call 65; refine (memNew_ok _ _ _ _ (by omega) (by omega) (by omega) (by omega) (by omega) (by omega)).mono ?_; rintro e w1 ⟨Lm, rfl, hm, xm, fm⟩; obtain ⟨z2, z3, z4, z5⟩ := z_keep (z_new w _ _ _ _ _ _) xm)
      | (go_at_call 66; refine (domNew_bad _ _ g1 (he.ext (((Ext.refl [] w).alloc _).trans xm) (by simp)) hK).mono ?_; rintro e w9 ⟨rfl, x9⟩))
    go_ret2
    exact ⟨rfl, (((Ext.refl [] w).alloc _).trans xm).trans x9⟩
  have pn2 : 1 ≤ n2 := by omega
  have qn2 : n2 ≤ 256 := by omega
  obtain ⟨mn2, rfl⟩ := Int.eq_ofNat_of_zero_le (show 0 ≤ n2 by omega)
  by_cases g2 : n3 < 1 ∨ 256 < n3
  · clear h g0
    go_enter Tryd.func12, Tryd.ntmps12
    go_wp2_with (first
      | (go_at_call 65; refine (memNew_ok _ _ _ _ (by omega) (by omega) (by omega) (by omega) (by omega) (by omega)).mono ?_; rintro e w1 ⟨Lm, rfl, hm, xm, fm⟩; obtain ⟨z2, z3, z4, z5⟩ := z_keep (z_new w _ _ _ _ _ _) xm)
      | (go_at_call 66; refine (domNew_ok _ _ (by omega) (by omega)).mono ?_; rintro e w2 ⟨Ld, rfl, hd, xd, fd⟩; obtain ⟨y2, y3, y4, y5⟩ := z_keep ⟨z2, z3, z4, z5⟩ xd)
      | (go_at_call 67; refine (meterNew_bad _ _ g2 (he.ext ((((Ext.refl [] w).alloc _).trans xm).trans xd) (by simp)) hK).mono ?_; rintro e w9 ⟨rfl, x9⟩))
    go_ret2
    exact ⟨rfl, ((((Ext.refl [] w).alloc _).trans xm).trans xd).trans x9⟩
  have pn3 : 1 ≤ n3 := by omega
  have qn3 : n3 ≤ 256 := by omega
  obtain ⟨mn3, rfl⟩ := Int.eq_ofNat_of_zero_le (show 0 ≤ n3 by omega)
  by_cases g3 : n4 < 1 ∨ 256 < n4
  · clear h g0
    go_enter Tryd.func12, Tryd.ntmps12
    go_wp2_with (first
      | (go_at_call 65; refine (memNew_ok _ _ _ _ (by omega) (by omega) (by omega) (by omega) (by omega) (by omega)).mono ?_; rintro e w1 ⟨Lm, rfl, hm, xm, fm⟩; obtain ⟨z2, z3, z4, z5⟩ := z_keep (z_new w _ _ _ _ _ _) xm)
      | (go_at_call 66; refine (domNew_ok _ _ (by omega) (by omega)).mono ?_; rintro e w2 ⟨Ld, rfl, hd, xd, fd⟩; obtain ⟨y2, y3, y4, y5⟩ := z_keep ⟨z2, z3, z4, z5⟩ xd)
      | (go_at_call 67; refine (meterNew_ok _ _ (by omega) (by omega)).mono ?_; rintro e w3 ⟨Lt, rfl, ht, xt, ft⟩; obtain ⟨x2, x3, x4, x5⟩ := z_keep ⟨y2, y3, y4, y5⟩ xt)
      | (go_at_call 68; refine (bankNew_bad _ _ _ _ g3 (he.ext (((((Ext.refl [] w).alloc _).trans xm).trans xd).trans xt) (by simp)) hK).mono ?_; rintro e w9 ⟨rfl, x9⟩))
    go_ret2
    exact ⟨rfl, (((((Ext.refl [] w).alloc _).trans xm).trans xd).trans xt).trans x9⟩
  have pn4 : 1 ≤ n4 := by omega
  have qn4 : n4 ≤ 256 := by omega
  obtain ⟨mn4, rfl⟩ := Int.eq_ofNat_of_zero_le (show 0 ≤ n4 by omega)
  by_cases g4 : n5 < 1 ∨ 256 < n5
  · clear h g0
    go_enter Tryd.func12, Tryd.ntmps12
    go_wp2_with (first
      | (go_at_call 65; refine (memNew_ok _ _ _ _ (by omega) (by omega) (by omega) (by omega) (by omega) (by omega)).mono ?_; rintro e w1 ⟨Lm, rfl, hm, xm, fm⟩; obtain ⟨z2, z3, z4, z5⟩ := z_keep (z_new w _ _ _ _ _ _) xm)
      | (go_at_call 66; refine (domNew_ok _ _ (by omega) (by omega)).mono ?_; rintro e w2 ⟨Ld, rfl, hd, xd, fd⟩; obtain ⟨y2, y3, y4, y5⟩ := z_keep ⟨z2, z3, z4, z5⟩ xd)
      | (go_at_call 67; refine (meterNew_ok _ _ (by omega) (by omega)).mono ?_; rintro e w3 ⟨Lt, rfl, ht, xt, ft⟩; obtain ⟨x2, x3, x4, x5⟩ := z_keep ⟨y2, y3, y4, y5⟩ xt)
      | (go_at_call 68; refine (bankNew_ok _ _ _ _ (by omega) (by omega)).mono ?_; rintro e w4 ⟨Lb, rfl, hb, xb, fb⟩; obtain ⟨v2, v3, v4, v5⟩ := z_keep ⟨x2, x3, x4, x5⟩ xb)
      | (go_at_call 69; refine (makerNew_bad _ _ g4 (he.ext ((((((Ext.refl [] w).alloc _).trans xm).trans xd).trans xt).trans xb) (by simp)) hK).mono ?_; rintro e w9 ⟨rfl, x9⟩))
    go_ret2
    exact ⟨rfl, ((((((Ext.refl [] w).alloc _).trans xm).trans xd).trans xt).trans xb).trans x9⟩
  omega
end Go.Proofs.YtelnbplkjdfpaaaDoor
