/-
  The statements of chapter 18: small banks made; the chapter's example.
-/
import Derived.Test.YtpnjebpbglgebaaDoorBankPage
import Derived.Test.YtpnjebpbglgebaaDoorNew3
import Derived.Test.YtpnjebpbglgebaaDoorSee2
namespace Go.Proofs.YtpnjebpbglgebaaDoor
open Go Go.RowKit

def Made18 (w : World) (n p d b : Nat) (e : Ending) (w' : World) : Prop :=
  ∃ (L : BankL) (LM : MemL) (LD : DomL), e = .returned (.tuple #[ptr L.t.h, ptr LM.m, ptr LD.t.h]) ∧ TrioRep w' L LM LD (BanksS.new b) (MemS.new n p 4) (List.replicate d default) (List.replicate d default) ∧ Ext [] w w' ∧
    (∀ x ∈ L.fp ++ (LM.fp ++ LD.fp), w.heap.size ≤ x)

theorem sep3 {A B C : List Nat} {x y : Nat} (ha : ∀ b ∈ A, b < x) (hb : ∀ b ∈ B, x ≤ b ∧ b < y) (hc : ∀ b ∈ C, y ≤ b) (hxy : x ≤ y) : Sep [C, A, B] := by
  intro i j hi hj hij b h1 h2
  match i, j, hi, hj with
  | 0, 0, _, _ => omega
  | 0, 1, _, _ => have := hc b h1; have := ha b h2; omega
  | 0, 2, _, _ => have := hc b h1; have := hb b h2; omega
  | 1, 0, _, _ => have := ha b h1; have := hc b h2; omega
  | 1, 1, _, _ => omega
  | 1, 2, _, _ => have := ha b h1; have := hb b h2; omega
  | 2, 0, _, _ => have := hb b h1; have := hc b h2; omega
  | 2, 1, _, _ => have := hb b h1; have := ha b h2; omega
  | 2, 2, _, _ => omega

set_option maxHeartbeats 1600000 in
theorem made18_calls (w : World) (n p d b : Nat) (hn : 1 ≤ n ∧ n ≤ 256) (hp : 1 ≤ p ∧ p ≤ 256) (hd : 1 ≤ d ∧ d ≤ 256) (hb : 1 ≤ b ∧ b ≤ 256) :
    Calls Tryd.prog 6 #[.int .i64 n, .int .i64 p, .int .i64 d, .int .i64 b] w (Made18 w n p d b) := by
  obtain ⟨n1, n2⟩ := hn
  obtain ⟨p1, p2⟩ := hp
  obtain ⟨d1, d2⟩ := hd
  obtain ⟨b1, b2⟩ := hb
  go_enter Tryd.func6, Tryd.ntmps6
  go_wp2_with (first
    | (go_at_call 25; refine (memNew_ok _ n p 4 n1 n2 p1 p2 (by omega) (by omega)).mono ?_; rintro e w1 ⟨LM, rfl, hM, hx1, hf1⟩)
    | (go_at_call 26; refine (domNew_ok _ d d1 d2).mono ?_; rintro e w2 ⟨LD, rfl, hD, hx2, hf2⟩)
    | (go_at_call 27; refine (bankNew_ok _ b LM.m LD.t.h b1 b2).mono ?_; rintro e w3 ⟨L, rfl, hB, hx3, hf3⟩))
  go_ret3
  have z1 := hx1.size
  have z2 := hx2.size
  refine ⟨L, LM, LD, rfl, ⟨hB, hM.ext (hx2.trans hx3) (by simp), hD.ext hx3 (by simp), ?_⟩, (hx1.trans hx2).trans hx3, ?_⟩
  · exact sep3 (x := w1.heap.size) (y := w2.heap.size) (fun b hb => (hf1 b hb).2) (fun b hb => hf2 b hb) (fun b hb => (hf3 b hb).1) z2
  · intro x hx
    rcases List.mem_append.1 hx with hx | hx
    · have := hf3 x hx; omega
    · rcases List.mem_append.1 hx with hx | hx
      · have := hf1 x hx; omega
      · have := hf2 x hx; omega

/-- The example's banks: one made; one page taken. -/
def exB : BanksS := (BanksS.new 2).made 0 (-1) 1
def exB2 : BanksS := exB.took 3 ((0 : Nat) : Int) 0 (verOf (List.replicate 2 default) ((0 : Nat) : Int)) [0]

set_option maxHeartbeats 1600000 in
theorem first18_calls {K : List Nat} {B0 : Nat} {E : Nat → Addr} (w : World) (he : Errs K B0 E w) (hK : All12 K) :
    Calls Tryd.prog 5 #[] w fun e w' => e = .returned (.bool true) ∧ Ext [] w w' := by
  have h3 := hK 3 (by omega) (by omega)
  have h4 := hK 4 (by omega) (by omega)
  have h5 := hK 5 (by omega) (by omega)
  have h6 := hK 6 (by omega) (by omega)
  have h7 := hK 7 (by omega) (by omega)
  have HE := Lib.hid he
  have HK := Lib.hid hK
  clear he hK
  have hR : madeR (BanksS.new 2) (-1) 1 false = (0, 0, 0, exB) := rfl
  have hf : freeAt (MemS.new 2 2 4).pp = some 0 := rfl
  have HR := Lib.hid hR
  have HF := Lib.hid hf
  clear hR hf
  go_enter Tryd.func5, Tryd.ntmps5
  go_wp2_with fail
  refine (made18_calls _ 2 2 1 2 (by omega) (by omega) (by omega) (by omega)).mono ?_
  rintro e w1 ⟨L, LM, LD, rfl, hT, hx1, hf1⟩
  have HT := Lib.hid hT; clear hT
  have n1 : ∀ x ∈ L.fp, w.heap.size ≤ x := fun x hx => hf1 x (List.mem_append_left _ hx)
  have n2 : ∀ x ∈ LM.fp, w.heap.size ≤ x := fun x hx => hf1 x (List.mem_append_right _ (List.mem_append_left _ hx))
  have N1 := Lib.hid n1
  have N2 := Lib.hid n2
  clear hf1 n1 n2
  go_wp2_with fail
  refine (root_calls _ L LM.m LD.t.h _ 1 HT.out.ban (HE.out.ext hx1 (by simp)) h3 h4 h6).mono ?_
  rintro e w2 ⟨rfl, hx2, hb2⟩
  rw [HR.out] at hb2 ⊢
  have hd2 : ∀ b ∈ [L.t.p, L.t.r], b ∈ L.fp := fun b hb => L.mem_t (TabL.two b hb)
  have hT2 := HT.out.banTurn hx2 hd2 hb2
  have HT2 := Lib.hid hT2
  have hX2 : Ext [L.t.p, L.t.r] w w2 := hx1.nil.trans hx2
  have hq2 : ∀ b ∈ [L.t.p, L.t.r], B0 ≤ b := fun b hb => Nat.le_trans HE.out.size (N1.out b (hd2 b hb))
  have HE2 := Lib.hid (HE.out.ext hX2 hq2)
  have HD2 := Lib.hid hd2
  clear hb2 hT2 hq2 hd2
  go_wp2_with fail
  refine (page_go _ L LM LD exB (MemS.new 2 2 4) _ _ 0 [0] _ [] HT2.out (WordsAt.nil _) (by simp) (Away.nil _) ⟨rfl, rfl, rfl⟩ (by simp) (by unfold Small; decide) HE2.out h6 rfl rfl).mono ?_
  rintro e w3 ⟨hx3, hm3⟩
  rw [HF.out] at hm3
  obtain ⟨rfl, hT3⟩ := hm3
  have HT3 := Lib.hid hT3
  have hd3 : ∀ b ∈ [L.o, L.t.r, LM.pag.p, LM.pag.r], w.heap.size ≤ b := by
    intro b hb
    simp only [List.mem_cons, List.mem_nil_iff, or_false] at hb
    rcases hb with rfl | rfl | hb
    · exact N1.out _ L.mem_o
    · exact N1.out _ (L.mem_t (by simp [TabL.fp]))
    · exact N2.out _ (page_fp (L := L) _ (by simpa using hb))
  have HE3 := Lib.hid (HE2.out.ext hx3 (fun b hb => Nat.le_trans HE.out.size (hd3 b hb)))
  have HX3 := Lib.hid hx3
  have HD3 := Lib.hid hd3
  clear hT3 hx3 hd3
  go_wp2_with fail
  refine (page_bar _ L LM LD exB2 _ _ _ 0 [0] _ [] HT3.out (WordsAt.nil _) (by simp) ⟨rfl, rfl, rfl⟩ (by simp) (by unfold Small; decide) HE3.out h5 h7 (by decide)).mono ?_
  rintro e w4 ⟨rfl, hx4⟩
  have hbar : takeBar exB2 0 [0] 0 = 7 := rfl
  rw [hbar]
  have HE4 := Lib.hid (HE3.out.ext hx4 (by simp))
  clear hbar
  go_wp2_with (go_at_call 15; refine (is_calls _ HE4.out HK.out 7 (by omega) 107).mono ?_; rintro e w5 ⟨rfl, hx5⟩)
  go_ret
  refine ⟨rfl, ?_⟩
  have hX := ((hX2.then (D' := [L.o, L.t.r, LM.pag.p, LM.pag.r]) HX3.out (fun x hx => .inr (HD3.out x hx))).trans hx4.nil).trans hx5.nil
  refine ⟨hX.os, hX.tape, hX.output, hX.size, fun k hk _ => hX.block k hk (fun hm => ?_)⟩
  have := N1.out k (HD2.out k hm)
  omega
end Go.Proofs.YtpnjebpbglgebaaDoor
