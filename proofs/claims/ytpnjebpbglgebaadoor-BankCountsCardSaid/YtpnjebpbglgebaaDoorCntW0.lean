/-
  The statement BankCounts: what its walk uses.
-/
import Derived.Test.YtpnjebpbglgebaaDoorCnt3
import Derived.Test.YtpnjebpbglgebaaDoorLaw18
namespace Go.Proofs.YtpnjebpbglgebaaDoor
open Go Go.RowKit

/-- The slice v holds the numbers xs. -/
def IntsAt (w : World) (v : Value) (xs : List Int) : Prop :=
  ∃ A c, v = .slice A xs.length c ∧ (0 < xs.length → ∃ b o, A = some ⟨b, o, none⟩ ∧ ∀ i (h : i < xs.length), w.cell? ⟨b, o + i, none⟩ = some (.int .i64 xs[i]))

/-- A number from 0 to below a bound, of any. -/
def numOf (x : Int) (b : Nat) : Int := if x.tmod b < 0 then x.tmod b + b else x.tmod b
theorem numOf_bd (x : Int) (b : Nat) (h : 0 < b) : 0 ≤ numOf x b ∧ numOf x b < b := by
  have h1 := Int.tmod_lt_of_pos x (show (0 : Int) < b by omega)
  have h2 : -(b : Int) < x.tmod b := Int.lt_tmod_of_pos x (by omega)
  unfold numOf
  split <;> omega
set_option maxHeartbeats 800000 in
theorem number_calls (w : World) (x : Int) (b : Nat) (h : 0 < b) (hb : b ≤ 1000) : Calls Tryd.prog 7 #[.int .i64 x, .int .i64 b] w fun e w' => e = .returned (.int .i64 (numOf x b)) ∧ w = w' := by
  have h1 := Int.tmod_lt_of_pos x (show (0 : Int) < b by omega)
  have h2 : -(b : Int) < x.tmod b := Int.lt_tmod_of_pos x (by omega)
  have h0 : ((b : Int) == 0) = false := by simp; omega
  by_cases hn : x.tmod b < 0
  · have e : numOf x b = x.tmod b + b := if_pos hn
    rw [e]
    clear e
    go_enter Tryd.func7, Tryd.ntmps7
    go_wp2
    go_ret
    exact ⟨rfl, rfl⟩
  · have e : numOf x b = x.tmod b := if_neg hn
    rw [e]
    clear e
    go_enter Tryd.func7, Tryd.ntmps7
    go_wp2
    go_ret
    exact ⟨rfl, rfl⟩

theorem madeR_ok {B : BanksS} {i : Nat} (hf : freeAt B.bp = some i) (p l : Int) (hl : 0 ≤ l ∧ l ≤ 512) (d : Bool) (hd : d = false) : madeR B p l d = ((i : Int), verOf B.bp i, 0, B.made i p l) := by
  subst hd
  unfold madeR
  rw [if_neg (by omega), if_neg (by simp)]
  simp only [hf]

theorem kidSum_bd {n : Nat} {B : BanksS} {M : MemS} {dp : List Place} (h : Cnt n B M dp) (k : Int) : ∀ m : Nat, m ≤ 8 → 0 ≤ kidSum B.bs k m ∧ kidSum B.bs k m ≤ 512 * m
  | 0, _ => by simp [kidSum]
  | m + 1, hm => by
    have ih := kidSum_bd h k m (by omega)
    have hb := h.bankLim m (by omega)
    simp only [kidSum]
    split <;> omega
/-- A bank uses all that it may. -/
def fullB (bs : List BankS) (i : Int) : Bool := decide ((bankOf bs i).used ≥ (bankOf bs i).limit)
theorem full_tight (bs : List BankS) (l : List Int) : l.any (fullB bs) = l.any (tight bs 1) := by
  congr 1
  funext i
  simp only [fullB, tight]
  congr 1
  simp only [eq_iff_iff]
  omega
/-- The error of a take at a bank that is there; 0: none. -/
def takeF (B : BanksS) (ps : List Place) (l : List Int) : Nat := if l.any (tight B.bs 1) = true then 7 else match freeAt ps with | none => 6 | some _ => 0
theorem takeF_cases (B : BanksS) (ps : List Place) (l : List Int) : (takeF B ps l = 7 ∧ l.any (tight B.bs 1) = true) ∨ (takeF B ps l = 6 ∧ l.any (tight B.bs 1) = false) ∨ (takeF B ps l = 0 ∧ l.any (tight B.bs 1) = false) := by
  unfold takeF
  cases h : l.any (tight B.bs 1) with
  | true => simp
  | false => cases freeAt ps <;> simp

def CntAfter (E : Nat → Addr) (k : Nat) (w : World) (L : BankL) (LM : MemL) (LD : DomL) (B : BanksS) (dp : List Place) (ds : List DomS) (a f : Nat) (e : Ending) (w' : World) : Prop :=
  ∃ (x y : Int) (B' : BanksS) (M' : MemS), e = .returned (.tuple #[.int .i64 x, .int .i64 y, errO E f]) ∧ Cnt k B' M' dp ∧ TrioRep w' L LM LD B' M' dp ds ∧ Ext [L.o, L.t.r, LM.nod.p, LM.nod.r, LM.pag.p, LM.pag.r] w w' ∧
    (bankOf B'.bs a).used = (bankOf B.bs a).used + if f = 0 then 1 else 0

theorem used_took {n : Nat} {B : BanksS} {M : MemS} {dp : List Place} (h : Cnt n B M dp) {a : Nat} (ha : a < n) {l : List Int} (hc : ChainOf B.bp B.bs n a l) (kind i v : Int) : (bankOf (B.took kind i a v l).bs a).used = (bankOf B.bs a).used + 1 := by
  show (bankOf (useAll 1 B.bs l) a).used = _
  rw [bankOf_useAll 1 l B.bs hc.nd (fun y hy => (hc.mem y hy).1) a (by rw [h.g.len2]; have := h.g.few; omega)]
  have : (a : Int) ∈ l := by
    have hi := hc.is
    cases l with
    | nil => have ht : there B.bp (a : Int) = false := hi; rw [h.g.thr] at ht; simp at ht; omega
    | cons y l => rw [hi.1]; simp
  simp [this]

theorem node_after {K : List Nat} {B0 : Nat} {E : Nat → Addr} (w : World) (L : BankL) (LM : MemL) (LD : DomL) (B : BanksS) (M : MemS) (dp : List Place) (ds : List DomS) (k a : Nat) (l : List Int) (h : TrioRep w L LM LD B M dp ds) (hC : Cnt k B M dp) (ha : a < k) (hc : ChainOf B.bp B.bs k a l) (hl : l.length ≤ 256)
    (he : Errs K B0 E w) (h5 : 5 ∈ K) (h6 : 6 ∈ K) (h7 : 7 ∈ K) :
    Calls Tryd.prog 13 #[ptr L.t.h, .int .i64 a, .slice none 0 0] w (CntAfter E k w L LM LD B dp ds a (takeF B M.np l)) := by
  have ht : there B.bp (a : Int) = true := by rw [hC.g.thr]; simp; omega
  cases hr : l.any (tight B.bs 1) with
  | true =>
    have hbar : takeBar B a l 0 = 7 := by simp [takeBar, ht, hr]
    have hF : takeF B M.np l = 7 := by simp [takeF, hr]
    refine (node_bar w L LM LD B M dp ds a l _ [] h (KeysAt.nil _) (by simp) (by simp) hc.is hl hC.small he h5 h7 (by omega)).mono ?_
    rintro e w' ⟨rfl, hx⟩
    rw [hbar, hF]
    exact ⟨0, 0, B, M, rfl, hC, h.ext hx, hx.nil, by simp⟩
  | false =>
    refine (node_go w L LM LD B M dp ds a l _ [] h (KeysAt.nil _) (by simp) (by simp) (Away.nil _) hc.is hl hC.small he h6 ht hr).mono ?_
    rintro e w' ⟨hx, hm⟩
    cases hf : freeAt M.np with
    | none =>
      have hF : takeF B M.np l = 6 := by simp [takeF, hr, hf]
      rw [hf] at hm
      obtain ⟨rfl, hT⟩ := hm
      rw [hF]
      exact ⟨0, 0, B, M, rfl, hC, hT, hx.mono (by simp), by simp⟩
    | some i =>
      have hF : takeF B M.np l = 0 := by simp [takeF, hr, hf]
      rw [hf] at hm
      obtain ⟨rfl, hT⟩ := hm
      rw [hF]
      exact ⟨_, _, _, _, rfl, hC.tookNode [] hf ha hc hr, hT, hx.mono (by simp), by rw [used_took hC ha hc]; simp⟩
theorem page_after {K : List Nat} {B0 : Nat} {E : Nat → Addr} (w : World) (L : BankL) (LM : MemL) (LD : DomL) (B : BanksS) (M : MemS) (dp : List Place) (ds : List DomS) (k a : Nat) (l : List Int) (h : TrioRep w L LM LD B M dp ds) (hC : Cnt k B M dp) (ha : a < k) (hc : ChainOf B.bp B.bs k a l) (hl : l.length ≤ 256)
    (he : Errs K B0 E w) (h5 : 5 ∈ K) (h6 : 6 ∈ K) (h7 : 7 ∈ K) :
    Calls Tryd.prog 14 #[ptr L.t.h, .int .i64 a, .slice none 0 0] w (CntAfter E k w L LM LD B dp ds a (takeF B M.pp l)) := by
  have ht : there B.bp (a : Int) = true := by rw [hC.g.thr]; simp; omega
  cases hr : l.any (tight B.bs 1) with
  | true =>
    have hbar : takeBar B a l 0 = 7 := by simp [takeBar, ht, hr]
    have hF : takeF B M.pp l = 7 := by simp [takeF, hr]
    refine (page_bar w L LM LD B M dp ds a l _ [] h (WordsAt.nil _) (by simp) hc.is hl hC.small he h5 h7 (by omega)).mono ?_
    rintro e w' ⟨rfl, hx⟩
    rw [hbar, hF]
    exact ⟨0, 0, B, M, rfl, hC, h.ext hx, hx.nil, by simp⟩
  | false =>
    refine (page_go w L LM LD B M dp ds a l _ [] h (WordsAt.nil _) (by simp) (Away.nil _) hc.is hl hC.small he h6 ht hr).mono ?_
    rintro e w' ⟨hx, hm⟩
    cases hf : freeAt M.pp with
    | none =>
      have hF : takeF B M.pp l = 6 := by simp [takeF, hr, hf]
      rw [hf] at hm
      obtain ⟨rfl, hT⟩ := hm
      rw [hF]
      exact ⟨0, 0, B, M, rfl, hC, hT, hx.mono (by intro x hx; simp at hx ⊢; omega), by simp⟩
    | some i =>
      have hF : takeF B M.pp l = 0 := by simp [takeF, hr, hf]
      rw [hf] at hm
      obtain ⟨rfl, hT⟩ := hm
      rw [hF]
      exact ⟨_, _, _, _, rfl, hC.tookPage [] hf ha hc hr, hT, hx.mono (by intro x hx; simp at hx ⊢; omega), by rw [used_took hC ha hc]; simp⟩
end Go.Proofs.YtpnjebpbglgebaaDoor
