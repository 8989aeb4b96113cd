/-
  Package arena: what its functions do, over a block of places.
-/
import Derived.Test.YtpnjebpbglgebaaDoorErrs
namespace Go.Proofs.YtpnjebpbglgebaaDoor
open Go Go.RowKit

structure Place where
  there : Bool
  ver : Int
  gone : Bool
  deriving DecidableEq
instance : Inhabited Place := ⟨⟨false, 0, false⟩⟩
def Place.enc (p : Place) : List Value := [.bool p.there, .int .i64 p.ver, .bool p.gone]
theorem Place.len (p : Place) : p.enc.length = 3 := rfl
/-- Versions lie within their bounds. -/
def Vers (l : List Place) : Prop := ∀ p ∈ l, 0 ≤ p.ver ∧ p.ver ≤ 1048575

/-- An arena: its own block a, its places at block p. -/
structure ArenaRep (w : World) (a p : Nat) (l : List Place) : Prop where
  hdr : ∃ c, Blk w a [.slice (some ⟨p, 0, none⟩) l.length c]
  row : Blk w p (flat Place.enc l)
  ne : a ≠ p
  few : l.length ≤ 256
  vers : Vers l

theorem ArenaRep.ext {w w' : World} {a p : Nat} {l : List Place} {D : List Nat} (h : ArenaRep w a p l) (hx : Ext D w w') (ha : a ∉ D) (hp : p ∉ D) : ArenaRep w' a p l :=
  ⟨by obtain ⟨c, hc⟩ := h.hdr; exact ⟨c, hx.blk hc ha⟩, hx.blk h.row hp, h.ne, h.few, h.vers⟩
theorem ArenaRep.drewN {w : World} {a p : Nat} {l : List Place} (h : ArenaRep w a p l) (n : Nat) : ArenaRep (w.drewN n) a p l := ⟨h.hdr, h.row, h.ne, h.few, h.vers⟩

theorem places_at {w : World} {lb : Nat} {l : List Place} (h : Blk w lb (flat Place.enc l)) (i : Nat) (hi : i < l.length) :
    w.cell? ⟨lb, i * 3, none⟩ = some (.bool l[i].there) ∧ w.cell? ⟨lb, i * 3 + 1, none⟩ = some (.int .i64 l[i].ver) ∧ w.cell? ⟨lb, i * 3 + 2, none⟩ = some (.bool l[i].gone) :=
  ⟨h.at0 Place.len i hi (by omega) _ rfl, h.at_ Place.len i 1 hi (by omega) _ rfl, h.at_ Place.len i 2 hi (by omega) _ rfl⟩

/-- Is a place taken? -/
def there (l : List Place) (id : Int) : Bool := decide (0 ≤ id) && (l[id.toNat]?.any (·.there))
theorem there_nat (l : List Place) (i : Nat) (hi : i < l.length) : there l i = l[i].there := by simp [there, List.getElem?_eq_getElem hi]
theorem there_neg (l : List Place) (id : Int) (h : ¬ 0 ≤ id) : there l id = false := by simp [there]; omega
theorem there_big (l : List Place) (id : Int) (h : ¬ id < l.length) : there l id = false := by
  simp only [there, Bool.and_eq_false_iff]
  right
  rw [List.getElem?_eq_none (by omega)]; rfl
theorem there_lt {l : List Place} {id : Int} (h : there l id = true) : 0 ≤ id ∧ id < l.length := by
  constructor
  · exact Decidable.byContradiction fun hn => by rw [there_neg l id hn] at h; cases h
  · exact Decidable.byContradiction fun hn => by rw [there_big l id hn] at h; cases h
def verOf (l : List Place) (id : Int) : Int := if 0 ≤ id then (l[id.toNat]?.map (·.ver)).getD 0 else 0
theorem verOf_nat (l : List Place) (i : Nat) (hi : i < l.length) : verOf l i = l[i].ver := by simp [verOf, List.getElem?_eq_getElem hi]
def liveAt (l : List Place) (id ver : Int) : Bool := there l id && (verOf l id == ver)

set_option maxHeartbeats 400000 in
theorem there_calls (w : World) (a p : Nat) (l : List Place) (id : Int) (h : ArenaRep w a p l) :
    Calls Tryd.prog 21 #[.pointer (some ⟨a, 0, none⟩), .int .i64 id] w fun e w' => e = .returned (.bool (there l id)) ∧ w = w' := by
  obtain ⟨⟨c, hA⟩, hL, _, hf, _⟩ := h
  replace hA := hA.cell 0 _ rfl
  by_cases h0 : 0 ≤ id
  · by_cases h1 : id < l.length
    · obtain ⟨i, rfl⟩ := Int.eq_ofNat_of_zero_le h0
      obtain ⟨c0, c1, c2⟩ := places_at hL i (by omega)
      clear hL
      rw [there_nat l i (by omega)]
      go_enter Tryd.func21, Tryd.ntmps21
      go_wp2
      go_ret
      exact ⟨rfl, rfl⟩
    · rw [there_big l id h1]
      clear hL
      go_enter Tryd.func21, Tryd.ntmps21
      go_wp2
      go_ret
      exact ⟨rfl, rfl⟩
  · rw [there_neg l id h0]
    clear hL
    go_enter Tryd.func21, Tryd.ntmps21
    go_wp2
    go_ret
    exact ⟨rfl, rfl⟩

/-- the least free place -/
def freeAt (l : List Place) : Option Nat := l.findIdx? fun p => !p.there && !p.gone
def taken (l : List Place) (i : Nat) : List Place := l.set i { (l[i]?.getD default) with there := true }
theorem taken_length (l : List Place) (i : Nat) : (taken l i).length = l.length := by simp [taken]

def noneBefore (l : List Place) (k : Nat) : Prop := ∀ j (h : j < l.length), j < k → (!l[j].there && !l[j].gone) = false
theorem noneBefore.step {l : List Place} {k : Nat} (h : noneBefore l k) (hk : ∀ h : k < l.length, (!l[k].there && !l[k].gone) = false) : noneBefore l (k + 1) := by
  intro j hj hjk
  by_cases e : j = k
  · subst e; exact hk hj
  · exact h j hj (by omega)
theorem noneBefore.none {l : List Place} {k : Nat} (h : noneBefore l k) (hk : l.length ≤ k) : freeAt l = .none := by
  unfold freeAt
  rw [List.findIdx?_eq_none_iff]
  intro x hx
  obtain ⟨j, hj, rfl⟩ := List.mem_iff_getElem.1 hx
  exact h j hj (by omega)
theorem noneBefore.some {l : List Place} {k : Nat} (h : noneBefore l k) (hk : k < l.length) (h1 : (!l[k].there && !l[k].gone) = true) : freeAt l = .some k := by
  unfold freeAt
  rw [List.findIdx?_eq_some_iff_getElem]
  refine ⟨hk, h1, fun j hj => by simp [h j (by omega) hj]⟩
theorem freeAt_lt {l : List Place} {i : Nat} (h : freeAt l = .some i) : ∃ hi : i < l.length, l[i].there = false ∧ l[i].gone = false := by
  unfold freeAt at h
  rw [List.findIdx?_eq_some_iff_getElem] at h
  obtain ⟨h1, h2, _⟩ := h
  exact ⟨h1, by simpa using h2⟩
theorem Vers.set {l : List Place} (h : Vers l) (i : Nat) (p : Place) (hp : 0 ≤ p.ver ∧ p.ver ≤ 1048575) : Vers (l.set i p) := by
  intro q hq
  rcases List.mem_or_eq_of_mem_set hq with h1 | h1
  · exact h q h1
  · subst h1; exact hp
theorem Vers.at_ {l : List Place} (h : Vers l) (i : Nat) (hi : i < l.length) : 0 ≤ l[i].ver ∧ l[i].ver ≤ 1048575 := h _ (List.getElem_mem hi)

def TakePost (E : Nat → Addr) (w : World) (a p : Nat) (l : List Place) (e : Ending) (w' : World) : Prop :=
  Ext [p] w w' ∧
  match freeAt l with
  | none => e = .returned (.tuple #[.int .i64 0, .int .i64 0, errV E 6]) ∧ ArenaRep w' a p l
  | some i => e = .returned (.tuple #[.int .i64 i, .int .i64 (verOf l i), .nilIface]) ∧ ArenaRep w' a p (taken l i)

set_option maxHeartbeats 400000 in
theorem take_calls {K : List Nat} {B : Nat} {E : Nat → Addr} (w : World) (a p : Nat) (l : List Place) (h : ArenaRep w a p l) (he : Errs K B E w) (hK : 6 ∈ K) :
    Calls Tryd.prog 50 #[.pointer (some ⟨a, 0, none⟩)] w (TakePost E w a p l) := by
  have hE := he.glob 6 hK
  simp only [glob] at hE
  clear he hK
  have HR := Lib.hid h
  obtain ⟨⟨c, hA⟩, hL, hne, hb, hv⟩ := h
  replace hA := hA.cell 0 _ rfl
  clear hv
  go_enter Tryd.func50, Tryd.ntmps50
  go_wp2
  go_loop [12] (fun i => ∃ k : Nat, k ≤ l.length ∧ i = .int .i64 k ∧ noneBefore l k) (fun i => l.length - (intOf i).toNat)
  case atStart => exact ⟨0, by omega, rfl, fun _ _ h => by omega⟩
  case round =>
    obtain ⟨k, hk, rfl, hbf⟩ := hrel
    have HB := Lib.hid hbf; clear hbf
    by_cases hlt : k < l.length
    · obtain ⟨c0, c1, c2⟩ := places_at hL k hlt
      have HL := Lib.hid hL; clear hL
      have f0 := HL.out.frozen (k * 3)
      go_wp2
      · go_round
        case rel => exact ⟨k + 1, by omega, by go_num, HB.out.step (by simp [*])⟩
        case measure => simp [intOf]; omega
      · go_quiet (fail)
        go_wp2
        go_ret3
        have ht : l[k].there = false := by simp [*]
        have hg : l[k].gone = false := by simp_all
        have hfr := HB.out.some hlt (by simp [ht, hg])
        refine ⟨((Ext.refl _ _).setCell (.inl (by simp)) _).drewN _, ?_⟩
        rw [hfr]
        refine ⟨by rw [verOf_nat l k hlt]; rfl, ?_⟩
        have hset : taken l k = l.set k { l[k] with there := true } := by simp [taken, List.getElem?_eq_getElem hlt]
        refine ArenaRep.drewN ⟨?_, ?_, hne, by rw [taken_length]; exact hb, ?_⟩ _
        · obtain ⟨c, hc⟩ := HR.out.hdr
          exact ⟨c, by rw [taken_length]; exact hc.setCell_other hne _ _⟩
        · rw [hset]; exact HL.out.put Place.len k 0 hlt (by omega) (.bool true) _ rfl
        · rw [hset]; exact HR.out.vers.set _ _ (HR.out.vers.at_ k hlt)
      · go_round
        case rel => exact ⟨k + 1, by omega, by go_num, HB.out.step (by simp [*])⟩
        case measure => simp [intOf]; omega
    · clear hL
      go_wp2
      go_quiet (fail)
      go_wp2
      go_ret3
      exact ⟨(Ext.refl _ _).drewN _, by rw [HB.out.none (by omega)]; exact ⟨rfl, HR.out.drewN _⟩⟩

end Go.Proofs.YtpnjebpbglgebaaDoor
