/-
  How a memory, banks, a system lie in memory.
-/
import Derived.Test.YtpnjebpbglgebaaDoorNew2
namespace Go.Proofs.YtpnjebpbglgebaaDoor
open Go Go.RowKit

/-! ### Parts that do not meet -/
def Sep (F : List (List Nat)) : Prop := ∀ i j (hi : i < F.length) (hj : j < F.length), i ≠ j → ∀ b ∈ F[i], b ∉ F[j]
theorem Sep.set {F : List (List Nat)} (h : Sep F) (k : Nat) (G : List Nat) (hk : k < F.length) (hG : ∀ b ∈ G, b ∈ F[k] ∨ ∀ i (hi : i < F.length), b ∉ F[i]) : Sep (F.set k G) := by
  intro i j hi hj hij b hb hb'
  have hi2 : i < F.length := by simpa using hi
  have hj2 : j < F.length := by simpa using hj
  rw [List.getElem_set] at hb hb'
  split at hb
  · split at hb'
    · omega
    · subst k
      rcases hG b hb with h1 | h1
      · exact h i j hi2 hj2 hij b h1 hb'
      · exact h1 j hj2 hb'
  · split at hb'
    · subst k
      rcases hG b hb' with h1 | h1
      · exact h i j hi2 hj2 hij b hb h1
      · exact h1 i hi2 hb
    · exact h i j hi2 hj2 hij b hb hb'

/-! ### Memory: nodes, pages, the ways that were found -/
structure MemL where
  m : Nat
  s : Nat
  c : Nat
  nod : TabL
  pag : TabL
def MemL.fp (L : MemL) : List Nat := [L.m, L.s, L.c] ++ (L.nod.fp ++ L.pag.fp)
structure MemS where
  ways : Int
  np : List Place
  ns : List (Vector Key 16)
  pp : List Place
  ps : List (Vector Int 32)
  csize : Int
  cl : Value
  hits : Int
structure MemRep (w : World) (L : MemL) (M : MemS) : Prop where
  hm : Blk w L.m [ptr L.s, .int .i64 M.ways, ptr L.c]
  hs : Blk w L.s [ptr L.nod.h, ptr L.pag.h]
  nod : TabRep keysEnc w L.nod M.np M.ns
  pag : TabRep wordsEnc w L.pag M.pp M.ps
  hc : Blk w L.c [.int .i64 M.csize, M.cl, .int .i64 M.hits]
  nd : L.fp.Nodup
theorem MemL.mem_m (L : MemL) : L.m ∈ L.fp := by simp [MemL.fp]
theorem MemL.mem_s (L : MemL) : L.s ∈ L.fp := by simp [MemL.fp]
theorem MemL.mem_c (L : MemL) : L.c ∈ L.fp := by simp [MemL.fp]
theorem MemL.mem_nod (L : MemL) {b : Nat} (h : b ∈ L.nod.fp) : b ∈ L.fp := List.mem_append.2 (.inr (List.mem_append.2 (.inl h)))
theorem MemL.mem_pag (L : MemL) {b : Nat} (h : b ∈ L.pag.fp) : b ∈ L.fp := List.mem_append.2 (.inr (List.mem_append.2 (.inr h)))
theorem MemRep.ext {w w' : World} {L : MemL} {M : MemS} {D : List Nat} (h : MemRep w L M) (hx : Ext D w w') (hd : ∀ b ∈ L.fp, b ∉ D) : MemRep w' L M :=
  { hm := hx.blk h.hm (hd _ L.mem_m)
    hs := hx.blk h.hs (hd _ L.mem_s)
    nod := h.nod.ext hx (fun b hb => hd b (L.mem_nod hb))
    pag := h.pag.ext hx (fun b hb => hd b (L.mem_pag hb))
    hc := hx.blk h.hc (hd _ L.mem_c)
    nd := h.nd }
theorem MemRep.lt {w : World} {L : MemL} {M : MemS} (h : MemRep w L M) : ∀ b ∈ L.fp, b < w.heap.size := by
  intro b hb
  rcases List.mem_append.1 hb with hb | hb
  · simp at hb
    rcases hb with rfl | rfl | rfl
    · exact h.hm.lt
    · exact h.hs.lt
    · exact h.hc.lt
  · rcases List.mem_append.1 hb with hb | hb
    · exact h.nod.lt b hb
    · exact h.pag.lt b hb

/-! ### Banks -/
/-- An entry of the map 'own': whose an object is, and which version. -/
structure OwnE where
  kind : Int
  id : Int
  bank : Int
  ver : Int
  born : Nat
def OwnE.entry (o : OwnE) : MapEntry := { key := .agg #[.int .i64 o.kind, .int .i64 o.id], val := .agg #[.int .i64 o.bank, .int .i64 o.ver], born := o.born }
/-- No two entries of one key, none of one birth; all births before the clock. -/
structure OwnOk (es : List OwnE) (clock : Nat) : Prop where
  keys : es.Pairwise fun a b => ¬ (a.kind = b.kind ∧ a.id = b.id)
  births : es.Pairwise fun a b => a.born ≠ b.born
  before : ∀ e ∈ es, e.born < clock
structure BankL where
  t : TabL
  o : Nat
def BankL.fp (L : BankL) : List Nat := L.t.fp ++ [L.o]
structure BanksS where
  bp : List Place
  bs : List BankS
  own : List OwnE
  clock : Nat
structure BankRep (w : World) (L : BankL) (mb db : Nat) (B : BanksS) : Prop where
  tab : TabRep BankS.enc w L.t B.bp B.bs
  hdr : ∃ c, Blk w L.t.h [ptr L.t.a, .slice (some ⟨L.t.r, 0, none⟩) B.bp.length c, .map (some L.o), ptr mb, ptr db]
  own : w.heap[L.o]? = some (.map (B.own.map OwnE.entry).toArray B.clock)
  ok : OwnOk B.own B.clock
  nd : L.fp.Nodup
theorem BankL.mem_t (L : BankL) {b : Nat} (h : b ∈ L.t.fp) : b ∈ L.fp := List.mem_append.2 (.inl h)
theorem BankL.mem_o (L : BankL) : L.o ∈ L.fp := by simp [BankL.fp]
theorem BankRep.ext {w w' : World} {L : BankL} {mb db : Nat} {B : BanksS} {D : List Nat} (h : BankRep w L mb db B) (hx : Ext D w w') (hd : ∀ b ∈ L.fp, b ∉ D) : BankRep w' L mb db B :=
  { tab := h.tab.ext hx (fun b hb => hd b (L.mem_t hb))
    hdr := by obtain ⟨c, hc⟩ := h.hdr; exact ⟨c, hx.blk hc (hd _ (L.mem_t (by simp [TabL.fp])))⟩
    own := hx.same h.own (hd _ L.mem_o)
    ok := h.ok
    nd := h.nd }
theorem BankRep.lt {w : World} {L : BankL} {mb db : Nat} {B : BanksS} (h : BankRep w L mb db B) : ∀ b ∈ L.fp, b < w.heap.size := by
  intro b hb
  rcases List.mem_append.1 hb with hb | hb
  · exact h.tab.lt b hb
  · simp at hb; subst hb
    exact (Array.getElem?_eq_some_iff.1 h.own).1

/-! ### Rows of numbers of one's own -/
def nums (k : IntKind) (xs : List Int) : List Value := xs.map fun x => .int k x
theorem nums_length (k : IntKind) (xs : List Int) : (nums k xs).length = xs.length := by simp [nums]
/-- The slice v is one's own row of numbers (its elements' type e). -/
def RowInts (w : World) (e : TypeId) (k : IntKind) (v : Value) (xs : List Int) : Prop := w.ownsRow 0 e 1 v xs.length (nums k xs)
theorem RowInts.nil (w : World) (e : TypeId) (k : IntKind) : RowInts w e k (.slice none 0 0) [] := own_nil w 0 e 1
theorem RowInts.ext {w w' : World} {e : TypeId} {k : IntKind} {v : Value} {xs : List Int} {D : List Nat} (h : RowInts w e k v xs) (hx : Ext D w w') (hd : ∀ b ∈ v.ownBlock.toList, b ∉ D) : RowInts w' e k v xs :=
  hx.own h (fun j hj => hd j (by simp [hj]))
theorem RowInts.lt {w : World} {e : TypeId} {k : IntKind} {v : Value} {xs : List Int} (h : RowInts w e k v xs) : ∀ b ∈ v.ownBlock.toList, b < w.heap.size :=
  fun b hb => (own_lt h b (by simpa using hb)).2

/-! ### A system -/
structure SysL where
  s : Nat
  q : Nat
  mem : MemL
  dom : DomL
  met : TabL
  ban : BankL
  mak : TabL
  rv : Value
  iv : Value
  ov : Value
def SysL.parts (L : SysL) : List (List Nat) :=
  [[L.s], [L.q], L.mem.fp, L.dom.fp, L.met.fp, L.ban.fp, L.mak.fp, L.rv.ownBlock.toList, L.iv.ownBlock.toList, L.ov.ownBlock.toList]
structure SysS where
  mem : MemS
  dp : List Place
  ds : List DomS
  mp : List Place
  ms : List MeterS
  ban : BanksS
  fp : List Place
  fs : List MakerS
  rdy : List Int
  inn : List Int
  out : List Int
  steps : Int
structure SysRep (w : World) (L : SysL) (S : SysS) : Prop where
  hs : Blk w L.s [ptr L.mem.m, ptr L.dom.t.h, ptr L.met.h, ptr L.ban.t.h, ptr L.mak.h, ptr L.q, L.iv, L.ov, .int .i64 S.steps]
  hq : Blk w L.q [L.rv]
  mem : MemRep w L.mem S.mem
  dom : DomRep w L.dom S.dp S.ds
  met : TabRep MeterS.enc w L.met S.mp S.ms
  ban : BankRep w L.ban L.mem.m L.dom.t.h S.ban
  mak : TabRep MakerS.enc w L.mak S.fp S.fs
  rdy : RowInts w 3 .i64 L.rv S.rdy
  inn : RowInts w 42 .u32 L.iv S.inn
  out : RowInts w 42 .u32 L.ov S.out
  sep : Sep L.parts

theorem SysRep.lt {w : World} {L : SysL} {S : SysS} (h : SysRep w L S) : ∀ F ∈ L.parts, ∀ b ∈ F, b < w.heap.size := by
  intro F hF b hb
  simp only [SysL.parts, List.mem_cons, List.mem_nil_iff, or_false] at hF
  rcases hF with rfl | rfl | rfl | rfl | rfl | rfl | rfl | rfl | rfl | rfl
  · simp at hb; subst hb; exact h.hs.lt
  · simp at hb; subst hb; exact h.hq.lt
  · exact h.mem.lt b hb
  · exact h.dom.lt b hb
  · exact h.met.lt b hb
  · exact h.ban.lt b hb
  · exact h.mak.lt b hb
  · exact h.rdy.lt b hb
  · exact h.inn.lt b hb
  · exact h.out.lt b hb
def SysL.fp (L : SysL) : List Nat := L.parts.flatten
theorem SysL.mem_parts {L : SysL} {F : List Nat} (hF : F ∈ L.parts) {b : Nat} (hb : b ∈ F) : b ∈ L.fp := List.mem_flatten.2 ⟨F, hF, hb⟩
theorem SysRep.ext {w w' : World} {L : SysL} {S : SysS} {D : List Nat} (h : SysRep w L S) (hx : Ext D w w') (hd : ∀ b ∈ L.fp, b ∉ D) : SysRep w' L S := by
  have hd' : ∀ F ∈ L.parts, ∀ b ∈ F, b ∉ D := fun F hF b hb => hd b (SysL.mem_parts hF hb)
  refine ⟨hx.blk h.hs (hd' [L.s] (by simp [SysL.parts]) _ (by simp)), hx.blk h.hq (hd' [L.q] (by simp [SysL.parts]) _ (by simp)), h.mem.ext hx (hd' _ (by simp [SysL.parts])), h.dom.ext hx (hd' _ (by simp [SysL.parts])),
    h.met.ext hx (hd' _ (by simp [SysL.parts])), h.ban.ext hx (hd' _ (by simp [SysL.parts])), h.mak.ext hx (hd' _ (by simp [SysL.parts])), h.rdy.ext hx (hd' _ (by simp [SysL.parts])),
    h.inn.ext hx (hd' _ (by simp [SysL.parts])), h.out.ext hx (hd' _ (by simp [SysL.parts])), h.sep⟩

/-- As new. -/
def MemS.new (nodes pages : Nat) (ways : Int) : MemS :=
  { ways := ways, np := List.replicate nodes default, ns := List.replicate nodes (Vector.replicate 16 void), pp := List.replicate pages default, ps := List.replicate pages (Vector.replicate 32 0),
    csize := ways, cl := .slice none 0 0, hits := 0 }
def BanksS.new (n : Nat) : BanksS := { bp := List.replicate n default, bs := List.replicate n default, own := [], clock := 0 }
def SysS.new (nodes pages domains meters banks makers : Nat) : SysS :=
  { mem := MemS.new nodes pages 16, dp := List.replicate domains default, ds := List.replicate domains default, mp := List.replicate meters default, ms := List.replicate meters default,
    ban := BanksS.new banks, fp := List.replicate makers default, fs := List.replicate makers default, rdy := [], inn := [], out := [], steps := 0 }

end Go.Proofs.YtpnjebpbglgebaaDoor
