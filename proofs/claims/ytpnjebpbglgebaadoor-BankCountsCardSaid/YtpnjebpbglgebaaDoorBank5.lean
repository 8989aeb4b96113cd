/-
  Package bank: use.
-/
import Derived.Test.YtpnjebpbglgebaaDoorBank4
namespace Go.Proofs.YtpnjebpbglgebaaDoor
open Go Go.RowKit

/-- One bank uses n more; all of a list do. -/
def useOne (n : Int) (bs : List BankS) (i : Int) : List BankS := bs.set i.toNat { bankOf bs i with used := (bankOf bs i).used + n }
def useAll (n : Int) (bs : List BankS) (l : List Int) : List BankS := l.foldl (useOne n) bs
theorem useOne_length (n : Int) (bs : List BankS) (i : Int) : (useOne n bs i).length = bs.length := by simp [useOne]
theorem useAll_length (n : Int) : ∀ (l : List Int) (bs : List BankS), (useAll n bs l).length = bs.length
  | [], _ => rfl
  | x :: l, bs => by rw [useAll, List.foldl_cons]; exact (useAll_length n l _).trans (useOne_length _ _ _)
theorem useAll_snoc (n : Int) (bs : List BankS) (l : List Int) (x : Int) : useAll n bs (l ++ [x]) = useOne n (useAll n bs l) x := by simp [useAll, List.foldl_append]

theorem Small.useOne {M n : Int} {bs : List BankS} (h : Small M bs) (hn : -1000 ≤ n ∧ n ≤ 1000) (i : Nat) (hi : i < bs.length) : Small (M + 1000) (useOne n bs i) := by
  intro b hb
  rcases List.mem_or_eq_of_mem_set hb with hb | hb
  · have := h b hb; omega
  · subst hb
    rw [bankOf_nat bs i hi]
    have := h.at_ i hi
    simp only; omega
theorem Small.mono {M M' : Int} {bs : List BankS} (h : Small M bs) (hM : M ≤ M') : Small M' bs := fun b hb => by have := h b hb; omega

structure UseRound (w wr : World) (L : TabL) (bp : List Place) (bs : List BankS) (l : List Int) (n : Int) (v : Value) (k : Nat) : Prop where
  ext : Ext [L.r] w wr
  tab : TabRep BankS.enc wr L bp (useAll n bs (l.take k))
  small : Small (100000 + 1000 * k) (useAll n bs (l.take k))
  own : wr.ownsRow w.heap.size 3 1 v l.length (nums .i64 l)

theorem use_step {w wr : World} {L : TabL} {bp : List Place} {bs : List BankS} {l : List Int} {n : Int} {v : Value} {k j : Nat} (hr : UseRound w wr L bp bs l n v k) (hk : k < l.length) (hj : l[k] = (j : Int)) (hjl : j < bs.length)
    (hn : -1000 ≤ n ∧ n ≤ 1000) (hL : L.r < w.heap.size) : UseRound w (wr.setCell ⟨L.r, j * 3 + 2, none⟩ (.int .i64 ((bankOf (useAll n bs (l.take k)) (j : Int)).used + n))) L bp bs l n v (k + 1) := by
  have hjl' : j < (useAll n bs (l.take k)).length := by rw [useAll_length]; exact hjl
  have e1 : useAll n bs (l.take (k + 1)) = (useAll n bs (l.take k)).set j { bankOf (useAll n bs (l.take k)) (j : Int) with used := (bankOf (useAll n bs (l.take k)) (j : Int)).used + n } := by
    have : l.take (k + 1) = l.take k ++ [l[k]] := by simp
    rw [this, useAll_snoc, hj]; simp [useOne]
  have nd := hr.tab.nd
  simp only [TabL.fp, List.nodup_cons, List.mem_cons, List.mem_nil_iff, or_false, not_or] at nd
  have hx : Ext [L.r] wr (wr.setCell ⟨L.r, j * 3 + 2, none⟩ (.int .i64 ((bankOf (useAll n bs (l.take k)) (j : Int)).used + n))) := Ext.setCell (Ext.refl _ _) (.inl (by simp)) _
  refine ⟨hr.ext.trans hx, ?_, ?_, ?_⟩
  · obtain ⟨c, hc⟩ := hr.tab.hdr
    refine ⟨⟨c, hx.blk hc (by simp; omega)⟩, hr.tab.arena.ext hx (by simp; omega) (by simp; omega), ?_, ?_, hr.tab.nd⟩
    · rw [e1]
      exact hr.tab.rows.put BankS.len j 2 hjl' (by omega) _ _ (by simp [BankS.enc, bankOf_nat _ j hjl'])
    · rw [useAll_length]; have := hr.tab.len; rw [useAll_length] at this; exact this
  · have : useAll n bs (l.take (k + 1)) = Go.Proofs.YtpnjebpbglgebaaDoor.useOne n (useAll n bs (l.take k)) (j : Int) := by rw [e1]; simp [Go.Proofs.YtpnjebpbglgebaaDoor.useOne]
    rw [this]
    exact (hr.small.useOne hn j hjl').mono (by omega)
  · exact hx.own hr.own (fun g hg => by have := own_lt hr.own g hg; simp; omega)

set_option maxHeartbeats 800000 in
theorem use_calls (w : World) (L : TabL) (bp : List Place) (bs : List BankS) (id n : Int) (l : List Int) (h : TabRep BankS.enc w L bp bs) (hc : IsChain bp bs id l) (hl : l.length ≤ 256) (hM : Small 100000 bs) (hn : -1000 ≤ n ∧ n ≤ 1000) :
    Calls Tryd.prog 44 #[ptr L.h, .int .i64 id, .int .i64 n] w fun e w' => (∃ v, e = .returned v) ∧ TabRep BankS.enc w' L bp (useAll n bs l) ∧ Ext [L.r] w w' := by
  have hLr := h.lt L.r (by simp [TabL.fp])
  have HC := Lib.hid hc
  have H := Lib.hid h
  have hmem := Lib.hid hc.mem
  clear hc h
  go_enter Tryd.func44, Tryd.ntmps44
  go_wp2_with (go_at_call 42; refine (chain_calls _ L bp bs _ l H.out HC.out hl).mono ?_; rintro e w1 ⟨v, rfl, hown, hx⟩; obtain ⟨A, c, rfl⟩ := own_slice hown)
  go_loopw [12] (fun i wr => ∃ k : Nat, k ≤ l.length ∧ i = .int .i64 k ∧ UseRound w wr L bp bs l n (.slice A l.length c) k) (fun i _ => l.length - (intOf i).toNat)
  case atStart => exact ⟨0, by omega, rfl, hx.nil, H.out.ext hx (fun _ _ hb => by cases hb), by simpa [useAll] using hM, hown⟩
  case round =>
    obtain ⟨k, hk, rfl, hr⟩ := hrel
    have HR := Lib.hid hr; clear hr
    by_cases hlt : k < l.length
    · obtain ⟨A', c', hv, hcell⟩ := RowAt.of_own HR.out.own
      simp only [Value.slice.injEq] at hv
      obtain ⟨rfl, -, rfl⟩ := hv
      obtain ⟨g, rfl, hcg⟩ := hcell k hlt
      have hth := hmem.out _ (List.getElem_mem hlt)
      obtain ⟨hy0, hy1⟩ := there_lt hth
      obtain ⟨j, hj⟩ := Int.eq_ofNat_of_zero_le hy0
      rw [hj] at hcg hy1
      have HJ := Lib.hid hj
      have hjl : j < bs.length := by have := H.out.len; omega
      have hjl' : j < (useAll n bs (l.take k)).length := by rw [useAll_length]; exact hjl
      obtain ⟨cap, hh⟩ := HR.out.tab.hdr
      have c1 := hh.cell 1 _ rfl
      obtain ⟨-, -, r2⟩ := banks_at HR.out.tab.rows j hjl'
      rw [← bankOf_nat _ j hjl'] at r2
      have f2 := HR.out.tab.rows.frozen (j * 3 + 2)
      have hs := HR.out.small.at_ j hjl'
      rw [← bankOf_nat _ j hjl'] at hs
      clear hcell hj
      go_wp2
      go_roundw
      case rel => exact ⟨k + 1, by omega, by go_num, by first | exact use_step HR.out hlt HJ.out hjl hn hLr | (go_show; skip)⟩
      case measure => simp [intOf]; omega
    · obtain rfl : k = l.length := by omega
      go_wp2
      go_end0
      have ht := HR.out.tab
      rw [List.take_length] at ht
      exact ⟨⟨_, rfl⟩, ht, HR.out.ext⟩
end Go.Proofs.YtpnjebpbglgebaaDoor
