/-
  The maker of the document's system.
-/
import Derived.Test.YtelnbplkjdfpaaaDoorRef
namespace Go.Proofs.YtelnbplkjdfpaaaDoor
open Go Go.RowKit

/-- An array behind a slice: at block b, of n elements. -/
def SliceAt (v : Value) (b n : Nat) : Prop := ∃ c, v = .slice (some ⟨b, 0, none⟩) n c
/-- Where the arrays of a document's system lie: those that banks touch. -/
structure XCoreL where
  x : Nat
  ns : Nat
  ps : Nat
  ds : Nat
  bs : Nat
  n : Nat
  p : Nat
  d : Nat
  b : Nat
def XCoreL.fp (L : XCoreL) : List Nat := [L.x, L.ns, L.ps, L.ds, L.bs, L.n, L.p, L.d, L.b]
/-- The other cells of its head. -/
structure XHead where
  v3 : Value
  v5 : Value
  v9 : Value
  v11 : Value
  rv : Value
  iv : Value
  ov : Value
  steps : Int
structure XCoreS where
  ns : List Slot
  ps : List Slot
  ds : List Slot
  bs : List Slot
  n : List (Vector Key 16)
  p : List (Vector Int 32)
  d : List DomX
  b : List BankS
structure XCoreRep (w : World) (L : XCoreL) (H : XHead) (S : XCoreS) : Prop where
  hx : ∃ c1 c2 c3 c4 c5 c6 c7 c8, Blk w L.x [.slice (some ⟨L.ns, 0, none⟩) S.ns.length c1, .slice (some ⟨L.ps, 0, none⟩) S.ps.length c2, .slice (some ⟨L.ds, 0, none⟩) S.ds.length c3, H.v3,
    .slice (some ⟨L.bs, 0, none⟩) S.bs.length c4, H.v5, .slice (some ⟨L.n, 0, none⟩) S.ns.length c5, .slice (some ⟨L.p, 0, none⟩) S.ps.length c6, .slice (some ⟨L.d, 0, none⟩) S.ds.length c7, H.v9,
    .slice (some ⟨L.b, 0, none⟩) S.bs.length c8, H.v11, H.rv, H.iv, H.ov, .int .i64 H.steps]
  ns : Blk w L.ns (flat Slot.enc S.ns)
  ps : Blk w L.ps (flat Slot.enc S.ps)
  ds : Blk w L.ds (flat Slot.enc S.ds)
  bs : Blk w L.bs (flat Slot.enc S.bs)
  n : Blk w L.n (flat keysEnc S.n)
  p : Blk w L.p (flat wordsEnc S.p)
  d : Blk w L.d (flat DomX.enc S.d)
  b : Blk w L.b (flat BankS.enc S.b)
  nl : S.n.length = S.ns.length
  pl : S.p.length = S.ps.length
  dl : S.d.length = S.ds.length
  bl : S.b.length = S.bs.length
  few : S.ns.length ≤ 256 ∧ S.ps.length ≤ 256 ∧ S.ds.length ≤ 256 ∧ S.bs.length ≤ 256
  nd : L.fp.Nodup
theorem XCoreRep.ext {w w' : World} {L : XCoreL} {H : XHead} {S : XCoreS} {D : List Nat} (h : XCoreRep w L H S) (hx : Ext D w w') (hd : ∀ b ∈ L.fp, b ∉ D) : XCoreRep w' L H S :=
  { hx := by obtain ⟨c1, c2, c3, c4, c5, c6, c7, c8, hc⟩ := h.hx; exact ⟨c1, c2, c3, c4, c5, c6, c7, c8, hx.blk hc (hd _ (by simp [XCoreL.fp]))⟩
    ns := hx.blk h.ns (hd _ (by simp [XCoreL.fp]))
    ps := hx.blk h.ps (hd _ (by simp [XCoreL.fp]))
    ds := hx.blk h.ds (hd _ (by simp [XCoreL.fp]))
    bs := hx.blk h.bs (hd _ (by simp [XCoreL.fp]))
    n := hx.blk h.n (hd _ (by simp [XCoreL.fp]))
    p := hx.blk h.p (hd _ (by simp [XCoreL.fp]))
    d := hx.blk h.d (hd _ (by simp [XCoreL.fp]))
    b := hx.blk h.b (hd _ (by simp [XCoreL.fp]))
    nl := h.nl, pl := h.pl, dl := h.dl, bl := h.bl, few := h.few, nd := h.nd }
theorem XCoreRep.lt {w : World} {L : XCoreL} {H : XHead} {S : XCoreS} (h : XCoreRep w L H S) : ∀ b ∈ L.fp, b < w.heap.size := by
  intro b hb
  simp only [XCoreL.fp, List.mem_cons, List.mem_nil_iff, or_false] at hb
  obtain ⟨c1, c2, c3, c4, c5, c6, c7, c8, hc⟩ := h.hx
  rcases hb with rfl | rfl | rfl | rfl | rfl | rfl | rfl | rfl | rfl
  · exact hc.lt
  · exact h.ns.lt
  · exact h.ps.lt
  · exact h.ds.lt
  · exact h.bs.lt
  · exact h.n.lt
  · exact h.p.lt
  · exact h.d.lt
  · exact h.b.lt
def XCoreS.new (n p d b : Nat) : XCoreS :=
  { ns := List.replicate n default, ps := List.replicate p default, ds := List.replicate d default, bs := List.replicate b default, n := List.replicate n (Vector.replicate 16 void), p := List.replicate p (Vector.replicate 32 0),
    d := List.replicate d default, b := List.replicate b default }

/-- All of it. -/
structure XL where
  core : XCoreL
  hd : XHead
  ms : Nat
  fs : Nat
  m : Nat
  f : Nat
structure XS where
  core : XCoreS
  ms : List Slot
  fs : List Slot
  m : List MeterS
  f : List MakerS
  rdy : List Int
  inn : List Int
  out : List Int
def XL.parts (L : XL) : List (List Nat) := [L.core.fp, [L.ms], [L.fs], [L.m], [L.f], L.hd.rv.ownBlock.toList, L.hd.iv.ownBlock.toList, L.hd.ov.ownBlock.toList]
def XL.fp (L : XL) : List Nat := L.parts.flatten
structure XRep (w : World) (L : XL) (S : XS) : Prop where
  core : XCoreRep w L.core L.hd S.core
  v3 : SliceAt L.hd.v3 L.ms S.ms.length
  v5 : SliceAt L.hd.v5 L.fs S.fs.length
  v9 : SliceAt L.hd.v9 L.m S.ms.length
  v11 : SliceAt L.hd.v11 L.f S.fs.length
  ms : Blk w L.ms (flat Slot.enc S.ms)
  fs : Blk w L.fs (flat Slot.enc S.fs)
  m : Blk w L.m (flat MeterS.enc S.m)
  f : Blk w L.f (flat MakerS.enc S.f)
  ml : S.m.length = S.ms.length
  fl : S.f.length = S.fs.length
  few : S.ms.length ≤ 256 ∧ S.fs.length ≤ 256
  rdy : RowInts w 3 .i64 L.hd.rv S.rdy
  inn : RowInts w 84 .u32 L.hd.iv S.inn
  out : RowInts w 84 .u32 L.hd.ov S.out
  sep : Sep L.parts
theorem XL.mem_parts {L : XL} {F : List Nat} (hF : F ∈ L.parts) {b : Nat} (hb : b ∈ F) : b ∈ L.fp := List.mem_flatten.2 ⟨F, hF, hb⟩
theorem XRep.ext {w w' : World} {L : XL} {S : XS} {D : List Nat} (h : XRep w L S) (hx : Ext D w w') (hd : ∀ b ∈ L.fp, b ∉ D) : XRep w' L S := by
  have hd' : ∀ F ∈ L.parts, ∀ b ∈ F, b ∉ D := fun F hF b hb => hd b (XL.mem_parts hF hb)
  exact { h with
    core := h.core.ext hx (hd' _ (by simp [XL.parts]))
    ms := hx.blk h.ms (hd' [L.ms] (by simp [XL.parts]) _ (by simp))
    fs := hx.blk h.fs (hd' [L.fs] (by simp [XL.parts]) _ (by simp))
    m := hx.blk h.m (hd' [L.m] (by simp [XL.parts]) _ (by simp))
    f := hx.blk h.f (hd' [L.f] (by simp [XL.parts]) _ (by simp))
    rdy := h.rdy.ext hx (hd' _ (by simp [XL.parts]))
    inn := h.inn.ext hx (hd' _ (by simp [XL.parts]))
    out := h.out.ext hx (hd' _ (by simp [XL.parts])) }
theorem XRep.lt {w : World} {L : XL} {S : XS} (h : XRep w L S) : ∀ F ∈ L.parts, ∀ b ∈ F, b < w.heap.size := by
  intro F hF b hb
  simp only [XL.parts, List.mem_cons, List.mem_nil_iff, or_false] at hF
  rcases hF with rfl | rfl | rfl | rfl | rfl | rfl | rfl | rfl
  · exact h.core.lt b hb
  · simp at hb; subst hb; exact h.ms.lt
  · simp at hb; subst hb; exact h.fs.lt
  · simp at hb; subst hb; exact h.m.lt
  · simp at hb; subst hb; exact h.f.lt
  · exact h.rdy.lt b hb
  · exact h.inn.lt b hb
  · exact h.out.lt b hb
def XS.new (n p d m b f : Nat) : XS :=
  { core := XCoreS.new n p d b, ms := List.replicate m default, fs := List.replicate f default, m := List.replicate m default, f := List.replicate f default, rdy := [], inn := [], out := [] }

/-- What the walk leaves. -/
structure RefRaw (w w' : World) (n0 n1 n2 n3 n4 n5 : Nat) (w1 w2 w3 w4 w5 w6 : World) (A0 A1 A2 A3 A4 A5 : Option Addr) (c0 c1 c2 c3 c4 c5 : Nat) : Prop where
  s0 : SlotsNew w n0 (.slice A0 n0 c0) w1
  s1 : SlotsNew w1 n1 (.slice A1 n1 c1) w2
  s2 : SlotsNew w2 n2 (.slice A2 n2 c2) w3
  s3 : SlotsNew w3 n3 (.slice A3 n3 c3) w4
  s4 : SlotsNew w4 n4 (.slice A4 n4 c4) w5
  s5 : SlotsNew w5 n5 (.slice A5 n5 c5) w6
  ext : Ext [] w6 w'
  size : w'.heap.size = w6.heap.size + 7
  hx : Blk w' w6.heap.size [.slice A0 n0 c0, .slice A1 n1 c1, .slice A2 n2 c2, .slice A3 n3 c3, .slice A4 n4 c4, .slice A5 n5 c5, .slice (some ⟨w6.heap.size + 1, 0, none⟩) n0 n0, .slice (some ⟨w6.heap.size + 2, 0, none⟩) n1 n1,
    .slice (some ⟨w6.heap.size + 3, 0, none⟩) n2 n2, .slice (some ⟨w6.heap.size + 4, 0, none⟩) n3 n3, .slice (some ⟨w6.heap.size + 5, 0, none⟩) n4 n4, .slice (some ⟨w6.heap.size + 6, 0, none⟩) n5 n5,
    .slice none 0 0, .slice none 0 0, .slice none 0 0, .int .i64 0]
  r0 : Blk w' (w6.heap.size + 1) (flat keysEnc (List.replicate n0 (Vector.replicate 16 void)))
  r1 : Blk w' (w6.heap.size + 2) (flat wordsEnc (List.replicate n1 (Vector.replicate 32 0)))
  r2 : Blk w' (w6.heap.size + 3) (flat DomX.enc (List.replicate n2 default))
  r3 : Blk w' (w6.heap.size + 4) (flat MeterS.enc (List.replicate n3 default))
  r4 : Blk w' (w6.heap.size + 5) (flat BankS.enc (List.replicate n4 default))
  r5 : Blk w' (w6.heap.size + 6) (flat MakerS.enc (List.replicate n5 default))

theorem blk_new_at {w : World} {cs : List Value} {T : TypeId} {b : Nat} (hb : b = w.heap.size) : Blk (w.alloc (.cells cs.toArray T)) b cs := by subst hb; exact Blk.new

set_option maxHeartbeats 800000 in
theorem refNew_raw (w : World) (n0 n1 n2 n3 n4 n5 : Nat) (h0 : n0 ≤ 256) (h1 : n1 ≤ 256) (h2 : n2 ≤ 256) (h3 : n3 ≤ 256) (h4 : n4 ≤ 256) (h5 : n5 ≤ 256) :
    Calls Tryd.prog 113 #[.int .i64 (n0 : Int), .int .i64 (n1 : Int), .int .i64 (n2 : Int), .int .i64 (n3 : Int), .int .i64 (n4 : Int), .int .i64 (n5 : Int)] w fun e w' => ∃ w1 w2 w3 w4 w5 w6 A0 A1 A2 A3 A4 A5 c0 c1 c2 c3 c4 c5, e = .returned (ptr w6.heap.size) ∧ RefRaw w w' n0 n1 n2 n3 n4 n5 w1 w2 w3 w4 w5 w6 A0 A1 A2 A3 A4 A5 c0 c1 c2 c3 c4 c5 := by
  have m0 := make_run (P := Tryd.prog) (keysEnc (n := 16)) 80 keysLen (by omega) (Vector.replicate 16 void) 51 103 _ 640 Tryd.underlying51 info_keys16X rfl n0 (by omega) (by omega)
  have m1 := make_run (P := Tryd.prog) (wordsEnc (n := 32)) 32 wordsLen (by omega) (Vector.replicate 32 0) 54 221 _ 128 Tryd.underlying54 info_words32X rfl n1 (by omega) (by omega)
  have m2 := make_run (P := Tryd.prog) DomX.enc 108 DomX.len (by omega) default 245 326 _ 848 Tryd.underlying245 info_domX rfl n2 (by omega) (by omega)
  have m3 := make_run (P := Tryd.prog) MeterS.enc 2 MeterS.len (by omega) default 246 328 _ 16 Tryd.underlying246 info_meterX rfl n3 (by omega) (by omega)
  have m4 := make_run (P := Tryd.prog) BankS.enc 3 BankS.len (by omega) default 247 330 _ 24 Tryd.underlying247 info_bankX rfl n4 (by omega) (by omega)
  have m5 := make_run (P := Tryd.prog) MakerS.enc 31 MakerS.len (by omega) default 248 332 _ 248 Tryd.underlying248 info_makerX rfl n5 (by omega) (by omega)
  go_enter Tryd.func113, Tryd.ntmps113
  go_wp2_with fail
  refine (slots_calls _ _ (by omega)).mono ?_; rintro e w1 ⟨A0, c0, rfl, s0⟩
  go_wp2_with fail
  refine (slots_calls _ _ (by omega)).mono ?_; rintro e w2 ⟨A1, c1, rfl, s1⟩
  go_wp2_with fail
  refine (slots_calls _ _ (by omega)).mono ?_; rintro e w3 ⟨A2, c2, rfl, s2⟩
  go_wp2_with fail
  refine (slots_calls _ _ (by omega)).mono ?_; rintro e w4 ⟨A3, c3, rfl, s3⟩
  go_wp2_with fail
  refine (slots_calls _ _ (by omega)).mono ?_; rintro e w5 ⟨A4, c4, rfl, s4⟩
  go_wp2_with fail
  refine (slots_calls _ _ (by omega)).mono ?_; rintro e w6 ⟨A5, c5, rfl, s5⟩
  go_wp2
  go_ret
  refine ⟨w1, w2, w3, w4, w5, w6, A0, A1, A2, A3, A4, A5, c0, c1, c2, c3, c4, c5, rfl, s0, s1, s2, s3, s4, s5, ?_, by simp, ?_, ?_, ?_, ?_, ?_, ?_, ?_⟩
  · repeat (first | exact Ext.refl _ _ | apply Ext.alloc)
  all_goals (repeat (first | exact Blk.new | exact blk_new_at (by simp) | apply Blk.alloc))

theorem own_form {w : World} {base n : Nat} {e : TypeId} {size : Nat} {A : Option Addr} {c : Nat} {xs : List Value} (h : w.ownsRow base e size (.slice A n c) n xs) (hn : 1 ≤ n) : ∃ g, A = some ⟨g, 0, none⟩ ∧ base ≤ g ∧ g < w.heap.size ∧ Blk w g xs := by
  obtain ⟨g, c', e, _, _⟩ := h.form (by omega)
  simp only [Value.slice.injEq] at e
  obtain ⟨rfl, _, rfl⟩ := e
  have := own_lt h g rfl
  exact ⟨g, rfl, this.1, this.2, own_blk h⟩

/-- A new system, whole. -/
theorem refNew_full (w : World) (n0 n1 n2 n3 n4 n5 : Nat) (h0 : n0 ≤ 256) (h1 : n1 ≤ 256) (h2 : n2 ≤ 256) (h3 : n3 ≤ 256) (h4 : n4 ≤ 256) (h5 : n5 ≤ 256) (g0 : 1 ≤ n0) (g1 : 1 ≤ n1) (g2 : 1 ≤ n2) (g3 : 1 ≤ n3) (g4 : 1 ≤ n4) (g5 : 1 ≤ n5) :
    Calls Tryd.prog 113 #[.int .i64 (n0 : Int), .int .i64 (n1 : Int), .int .i64 (n2 : Int), .int .i64 (n3 : Int), .int .i64 (n4 : Int), .int .i64 (n5 : Int)] w
      fun e w' => ∃ L : XL, e = .returned (ptr L.core.x) ∧ XRep w' L (XS.new n0 n1 n2 n3 n4 n5) ∧ L.hd.steps = 0 ∧ Ext [] w w' ∧ (∀ b ∈ L.fp, w.heap.size ≤ b ∧ b < w'.heap.size) := by
  refine (refNew_raw w n0 n1 n2 n3 n4 n5 h0 h1 h2 h3 h4 h5).mono ?_
  rintro e w' ⟨w1, w2, w3, w4, w5, w6, A0, A1, A2, A3, A4, A5, c0, c1, c2, c3, c4, c5, rfl, hr⟩
  obtain ⟨s0, s1, s2, s3, s4, s5, x7, z7, hx, r0, r1, r2, r3, r4, r5⟩ := hr
  obtain ⟨b0, rfl, l0, u0, k0⟩ := own_form s0.row g0
  obtain ⟨b1, rfl, l1, u1, k1⟩ := own_form s1.row g1
  obtain ⟨b2, rfl, l2, u2, k2⟩ := own_form s2.row g2
  obtain ⟨b3, rfl, l3, u3, k3⟩ := own_form s3.row g3
  obtain ⟨b4, rfl, l4, u4, k4⟩ := own_form s4.row g4
  obtain ⟨b5, rfl, l5, u5, k5⟩ := own_form s5.row g5
  have z0 := s0.ext.size; have z1 := s1.ext.size; have z2 := s2.ext.size; have z3 := s3.ext.size; have z4 := s4.ext.size; have z5 := s5.ext.size
  have e5 : Ext [] w5 w' := s5.ext.trans x7
  have e4 : Ext [] w4 w' := s4.ext.trans e5
  have e3 : Ext [] w3 w' := s3.ext.trans e4
  have e2 : Ext [] w2 w' := s2.ext.trans e3
  have e1 : Ext [] w1 w' := s1.ext.trans e2
  have e0 : Ext [] w w' := s0.ext.trans e1
  have nn : ∀ b : Nat, b ∉ ([] : List Nat) := fun _ h => by cases h
  refine ⟨⟨⟨w6.heap.size, b0, b1, b2, b4, w6.heap.size + 1, w6.heap.size + 2, w6.heap.size + 3, w6.heap.size + 5⟩, ⟨.slice (some ⟨b3, 0, none⟩) n3 c3, .slice (some ⟨b5, 0, none⟩) n5 c5, .slice (some ⟨w6.heap.size + 4, 0, none⟩) n3 n3, .slice (some ⟨w6.heap.size + 6, 0, none⟩) n5 n5, .slice none 0 0, .slice none 0 0, .slice none 0 0, 0⟩, b3, b5, w6.heap.size + 4, w6.heap.size + 6⟩, rfl, ?_, rfl, e0, ?_⟩
  · refine ⟨⟨⟨c0, c1, c2, c4, n0, n1, n2, n4, ?_⟩, e1.blk k0 (nn _), e2.blk k1 (nn _), e3.blk k2 (nn _), e5.blk k4 (nn _), r0, r1, r2, r4, by simp [XS.new, XCoreS.new], by simp [XS.new, XCoreS.new], by simp [XS.new, XCoreS.new], by simp [XS.new, XCoreS.new], by simp [XS.new, XCoreS.new]; omega, ?_⟩,
      ⟨c3, by simp [XS.new]⟩, ⟨c5, by simp [XS.new]⟩, ⟨n3, by simp [XS.new]⟩, ⟨n5, by simp [XS.new]⟩, e4.blk k3 (nn _), x7.blk k5 (nn _), r3, r5, by simp [XS.new], by simp [XS.new], by simp [XS.new]; omega, RowInts.nil _ _ _, RowInts.nil _ _ _, RowInts.nil _ _ _, ?_⟩
    · simpa [XS.new, XCoreS.new] using hx
    · simp [XCoreL.fp]; omega
    · intro i j hi hj hij b hb1 hb2
      simp only [XL.parts, List.length_cons, List.length_nil] at hi hj
      have cl : ∀ i (hi : i < 8), b ∈ (XL.parts ⟨⟨w6.heap.size, b0, b1, b2, b4, w6.heap.size + 1, w6.heap.size + 2, w6.heap.size + 3, w6.heap.size + 5⟩, ⟨.slice (some ⟨b3, 0, none⟩) n3 c3, .slice (some ⟨b5, 0, none⟩) n5 c5, .slice (some ⟨w6.heap.size + 4, 0, none⟩) n3 n3, .slice (some ⟨w6.heap.size + 6, 0, none⟩) n5 n5, .slice none 0 0, .slice none 0 0, .slice none 0 0, 0⟩, b3, b5, w6.heap.size + 4, w6.heap.size + 6⟩)[i]'hi →
          (i = 0 ∧ b ≠ b3 ∧ b ≠ b5 ∧ b ≠ w6.heap.size + 4 ∧ b ≠ w6.heap.size + 6) ∨ (i = 1 ∧ b = b3) ∨ (i = 2 ∧ b = b5) ∨ (i = 3 ∧ b = w6.heap.size + 4) ∨ (i = 4 ∧ b = w6.heap.size + 6) := by
        intro i hi hb
        match i, hi with
        | 0, _ => simp [XL.parts, XCoreL.fp] at hb; omega
        | 1, _ => simp [XL.parts] at hb; omega
        | 2, _ => simp [XL.parts] at hb; omega
        | 3, _ => simp [XL.parts] at hb; omega
        | 4, _ => simp [XL.parts] at hb; omega
        | 5, _ => simp [XL.parts, Value.ownBlock] at hb
        | 6, _ => simp [XL.parts, Value.ownBlock] at hb
        | 7, _ => simp [XL.parts, Value.ownBlock] at hb
      have h1 := cl i hi hb1
      have h2 := cl j hj hb2
      omega
  · intro b hb
    simp [XL.fp, XL.parts, XCoreL.fp, Value.ownBlock] at hb
    omega
end Go.Proofs.YtelnbplkjdfpaaaDoor
