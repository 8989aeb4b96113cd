/-
  Package bank: made, Root, Sub.
-/
import Derived.Test.YtpnjebpbglgebaaDoorBank
namespace Go.Proofs.YtpnjebpbglgebaaDoor
open Go Go.RowKit

theorem banks_put {w : World} {r : Nat} {bs : List BankS} (h : Blk w r (flat BankS.enc bs)) (i : Nat) (hi : i < bs.length) (p l u : Int) :
    Blk (((w.setCell ⟨r, i * 3, none⟩ (.int .i64 p)).setCell ⟨r, i * 3 + 1, none⟩ (.int .i64 l)).setCell ⟨r, i * 3 + 2, none⟩ (.int .i64 u)) r (flat BankS.enc (bs.set i ⟨p, l, u⟩)) := by
  have h1 := h.put BankS.len i 0 hi (by omega) (.int .i64 p) { bs[i] with parent := p } rfl
  have h2 := h1.put BankS.len i 1 (by simpa using hi) (by omega) (.int .i64 l) { bs[i] with parent := p, limit := l } (by simp [BankS.enc])
  have h3 := h2.put BankS.len i 2 (by simpa using hi) (by omega) (.int .i64 u) ⟨p, l, u⟩ (by simp [BankS.enc])
  simpa [List.set_set] using h3

/-- Banks whose places or rows have turned. -/
theorem BankRep.turn {w w' : World} {L : BankL} {mb db : Nat} {B : BanksS} {bp : List Place} {bs : List BankS} (h : BankRep w L mb db B) (hx : Ext [L.t.p, L.t.r] w w') (ht : TabRep BankS.enc w' L.t bp bs) (hl : bp.length = B.bp.length) :
    BankRep w' L mb db { B with bp := bp, bs := bs } := by
  have nd := h.tab.nd
  have nd2 := h.nd
  simp only [TabL.fp, List.nodup_cons, List.mem_cons, List.mem_nil_iff, or_false, not_or] at nd
  refine ⟨ht, ?_, hx.same h.own ?_, h.ok, h.nd⟩
  · obtain ⟨c, hc⟩ := h.hdr
    exact ⟨c, by rw [hl]; exact hx.blk hc (by simp; omega)⟩
  · intro hm
    simp only [BankL.fp, List.nodup_append] at nd2
    simp only [List.mem_cons, List.mem_nil_iff, or_false] at hm
    rcases hm with hm | hm
    · exact nd2.2.2 _ (by simp [TabL.fp]) _ (by simp) hm.symm
    · exact nd2.2.2 _ (by simp [TabL.fp]) _ (by simp) hm.symm

/-- The state behind a bank taken at place i. -/
def BanksS.made (B : BanksS) (i : Nat) (parent limit : Int) : BanksS := { B with bp := taken B.bp i, bs := B.bs.set i ⟨parent, limit, 0⟩ }

def madeR (B : BanksS) (parent limit : Int) (deep : Bool) : Int × Int × Nat × BanksS :=
  if limit < 0 ∨ 512 < limit then (0, 0, 3, B)
  else if deep = true then (0, 0, 4, B)
  else match freeAt B.bp with
    | none => (0, 0, 6, B)
    | some i => (i, verOf B.bp i, 0, B.made i parent limit)

def MadePost (E : Nat → Addr) (w : World) (L : BankL) (mb db : Nat) (R : Int × Int × Nat × BanksS) (e : Ending) (w' : World) : Prop :=
  e = .returned (.tuple #[.int .i64 R.1, .int .i64 R.2.1, errO E R.2.2.1]) ∧ Ext [L.t.p, L.t.r] w w' ∧ BankRep w' L mb db R.2.2.2

set_option maxHeartbeats 1600000 in
theorem made_calls {K : List Nat} {B0 : Nat} {E : Nat → Addr} (w : World) (L : BankL) (mb db : Nat) (B : BanksS) (parent limit : Int) (l : List Int) (h : BankRep w L mb db B) (hc : IsChain B.bp B.bs parent l) (hl : l.length ≤ 256)
    (he : Errs K B0 E w) (h3 : 3 ∈ K) (h4 : 4 ∈ K) (h6 : 6 ∈ K) :
    Calls Tryd.prog 28 #[ptr L.t.h, .int .i64 parent, .int .i64 limit] w (MadePost E w L mb db (madeR B parent limit (decide (8 ≤ l.length)))) := by
  have nd := h.tab.nd
  simp only [TabL.fp, List.nodup_cons, List.mem_cons, List.mem_nil_iff, or_false, not_or] at nd
  have he3 := he.glob 3 h3
  simp only [glob] at he3
  by_cases hlo : limit < 0
  · have hlo' : decide (limit < 0) = true := by simpa using hlo
    have H := Lib.hid h
    clear h hc he
    go_enter Tryd.func28, Tryd.ntmps28
    go_wp2
    go_quiet (fail)
    go_wp2
    go_ret3
    have hR : madeR B parent limit (decide (8 ≤ l.length)) = (0, 0, 3, B) := if_pos (.inl hlo)
    rw [hR]
    exact ⟨rfl, ((Ext.refl [] w).drewN _).nil, H.out.ext ((Ext.refl [] w).drewN _) (fun _ _ hb => by cases hb)⟩
  by_cases hhi : 512 < limit
  · have H := Lib.hid h
    clear h hc he
    go_enter Tryd.func28, Tryd.ntmps28
    go_wp2
    go_quiet (fail)
    go_wp2
    go_ret3
    have hR : madeR B parent limit (decide (8 ≤ l.length)) = (0, 0, 3, B) := if_pos (.inr hhi)
    rw [hR]
    exact ⟨rfl, ((Ext.refl [] w).drewN _).nil, H.out.ext ((Ext.refl [] w).drewN _) (fun _ _ hb => by cases hb)⟩
  have HN0 : ¬ (limit < 0 ∨ 512 < limit) := by omega
  have HN := Lib.hid HN0
  clear HN0
  by_cases hd : 8 ≤ l.length
  · have H := Lib.hid h
    have ht := h.tab
    clear h
    go_enter Tryd.func28, Tryd.ntmps28
    go_wp2_with (go_at_call 42; refine (chain_calls _ L.t B.bp B.bs _ l ht hc hl).mono ?_; rintro e w1 ⟨v, rfl, hown, hx⟩; obtain ⟨A, c, rfl⟩ := own_slice hown; have he4 := (he.ext hx (by simp)).glob 4 h4; simp only [glob] at he4)
    go_quiet (fail)
    go_wp2
    go_ret3
    have hR : madeR B parent limit (decide (8 ≤ l.length)) = (0, 0, 4, B) := by unfold madeR; rw [if_neg HN.out, if_pos (by simpa using hd)]
    rw [hR]
    exact ⟨rfl, (hx.drewN _).nil, H.out.ext (hx.drewN _) (fun _ _ hb => by cases hb)⟩
  · have H := Lib.hid h
    have ht := h.tab
    obtain ⟨cap, hh⟩ := ht.hdr
    have HH := Lib.hid hh
    clear h
    cases hf : freeAt B.bp with
    | none =>
      go_enter Tryd.func28, Tryd.ntmps28
      go_wp2_with (first
        | (go_at_call 42; refine (chain_calls _ L.t B.bp B.bs _ l ht hc hl).mono ?_; rintro e w1 ⟨v, rfl, hown, hx⟩; obtain ⟨A, c, rfl⟩ := own_slice hown; have d0 := (hx.blk HH.out (by simp)).cell 0 _ rfl; have hA := ht.arena.ext hx (by simp) (by simp))
        | (go_at_call 50; refine (take_calls _ _ _ _ hA (he.ext hx (by simp)) h6).mono ?_; rintro e w2 ⟨hx2, hp2⟩; rw [hf] at hp2; obtain ⟨rfl, hA2⟩ := hp2))
      go_ret3
      have hx3 : Ext [L.t.p] w w2 := hx.nil.trans hx2
      have hR : madeR B parent limit (decide (8 ≤ l.length)) = (0, 0, 6, B) := by unfold madeR; rw [if_neg HN.out, if_neg (by simpa using hd)]; simp only [hf]
      rw [hR]
      exact ⟨rfl, hx3.mono (by simp), H.out.turn (hx3.mono (by simp)) ⟨⟨_, (hx3.blk HH.out (by simp; omega))⟩, hA2, hx3.blk ht.rows (by simp; omega), ht.len, ht.nd⟩ rfl⟩
    | some i =>
      obtain ⟨hi, hi1, hi2⟩ := freeAt_lt hf
      go_enter Tryd.func28, Tryd.ntmps28
      go_wp2_with (first
        | (go_at_call 42; refine (chain_calls _ L.t B.bp B.bs _ l ht hc hl).mono ?_; rintro e w1 ⟨v, rfl, hown, hx⟩; obtain ⟨A, c, rfl⟩ := own_slice hown; have d0 := (hx.blk HH.out (by simp)).cell 0 _ rfl; have hA := ht.arena.ext hx (by simp) (by simp))
        | (go_at_call 50; refine (take_calls _ _ _ _ hA (he.ext hx (by simp)) h6).mono ?_; rintro e w2 ⟨hx2, hp2⟩; rw [hf] at hp2; obtain ⟨rfl, hA2⟩ := hp2; have hx3 : Ext [L.t.p] w w2 := hx.nil.trans hx2; have hh2 := hx3.blk HH.out (by simp; omega); have d1 := hh2.cell 1 _ rfl; have hr2 := hx3.blk ht.rows (by simp; omega); have f0 := hr2.frozen (i * 3); have f1 := hr2.frozen (i * 3 + 1); have f2 := hr2.frozen (i * 3 + 2); obtain ⟨r0, r1, r2⟩ := banks_at hr2 i (by have := ht.len; omega)))
      go_ret3
      have hx4 : Ext [L.t.p, L.t.r] w (((w2.setCell ⟨L.t.r, i * 3, none⟩ (.int .i64 parent)).setCell ⟨L.t.r, i * 3 + 1, none⟩ (.int .i64 limit)).setCell ⟨L.t.r, i * 3 + 2, none⟩ (.int .i64 0)) :=
        Ext.setCell (Ext.setCell (Ext.setCell (hx3.mono (by simp)) (.inl (by simp)) _) (.inl (by simp)) _) (.inl (by simp)) _
      have hx5 : Ext [L.t.r] w2 (((w2.setCell ⟨L.t.r, i * 3, none⟩ (.int .i64 parent)).setCell ⟨L.t.r, i * 3 + 1, none⟩ (.int .i64 limit)).setCell ⟨L.t.r, i * 3 + 2, none⟩ (.int .i64 0)) :=
        Ext.setCell (Ext.setCell (Ext.setCell (Ext.refl _ _) (.inl (by simp)) _) (.inl (by simp)) _) (.inl (by simp)) _
      have hR : madeR B parent limit (decide (8 ≤ l.length)) = ((i : Int), verOf B.bp i, 0, B.made i parent limit) := by unfold madeR; rw [if_neg HN.out, if_neg (by simpa using hd)]; simp only [hf]
      rw [hR]
      refine ⟨rfl, hx4, H.out.turn hx4 ⟨⟨cap, ?_⟩, hA2.ext hx5 (by simp; omega) (by simp; omega), banks_put hr2 i (by have := ht.len; omega) parent limit 0, ?_, ht.nd⟩ (taken_length _ _)⟩
      · rw [taken_length]; exact hx5.blk hh2 (by simp; omega)
      · rw [taken_length, List.length_set]; exact ht.len

theorem root_calls {K : List Nat} {B0 : Nat} {E : Nat → Addr} (w : World) (L : BankL) (mb db : Nat) (B : BanksS) (limit : Int) (h : BankRep w L mb db B) (he : Errs K B0 E w) (h3 : 3 ∈ K) (h4 : 4 ∈ K) (h6 : 6 ∈ K) :
    Calls Tryd.prog 8 #[ptr L.t.h, .int .i64 limit] w (MadePost E w L mb db (madeR B (-1) limit false)) := by
  go_enter Tryd.func8, Tryd.ntmps8
  go_wp2_with (go_at_call 28; refine (made_calls _ L mb db B (-1) limit [] h (there_neg _ _ (by omega)) (by simp) he h3 h4 h6).mono ?_; rintro e w1 ⟨rfl, hp⟩)
  go_ret3
  exact ⟨rfl, hp⟩

theorem sub_calls {K : List Nat} {B0 : Nat} {E : Nat → Addr} (w : World) (L : BankL) (mb db : Nat) (B : BanksS) (id limit : Int) (l : List Int) (h : BankRep w L mb db B) (hc : IsChain B.bp B.bs id l) (hl : l.length ≤ 256) (ht : there B.bp id = true)
    (he : Errs K B0 E w) (h3 : 3 ∈ K) (h4 : 4 ∈ K) (h6 : 6 ∈ K) :
    Calls Tryd.prog 9 #[ptr L.t.h, .int .i64 id, .int .i64 limit] w (MadePost E w L mb db (madeR B id limit (decide (8 ≤ l.length)))) := by
  obtain ⟨cap, hh⟩ := h.tab.hdr
  have c0 := hh.cell 0 _ rfl
  have hA := h.tab.arena
  go_enter Tryd.func9, Tryd.ntmps9
  go_wp2_with (first
    | (go_at_call 21; refine (there_calls _ _ _ _ _ hA).mono ?_; rintro e w2 ⟨rfl, rfl⟩)
    | (go_at_call 28; refine (made_calls _ L mb db B id limit l h hc hl he h3 h4 h6).mono ?_; rintro e w1 ⟨rfl, hp⟩))
  go_ret3
  exact ⟨rfl, hp⟩
theorem used_calls' (w : World) (L : TabL) (bp : List Place) (bs : List BankS) (id : Int) (h : TabRep BankS.enc w L bp bs) :
    Calls Tryd.prog 11 #[ptr L.h, .int .i64 id] w fun e w' => e = .returned (.int .i64 (if there bp id then (bankOf bs id).used else 0)) ∧ w = w' := by
  obtain ⟨cap, hh⟩ := h.hdr
  have c0 := hh.cell 0 _ rfl
  have c1 := hh.cell 1 _ rfl
  have hA := h.arena
  by_cases ht : there bp id = true
  · obtain ⟨hy0, hy1⟩ := there_lt ht
    obtain ⟨k, rfl⟩ := Int.eq_ofNat_of_zero_le hy0
    have hkl : k < bs.length := by have := h.len; omega
    obtain ⟨r0, r1, r2⟩ := banks_at h.rows k hkl
    rw [if_pos ht, bankOf_nat bs k hkl]
    clear h
    go_enter Tryd.func11, Tryd.ntmps11
    go_wp2_with (go_at_call 21; refine (there_calls _ _ _ _ _ hA).mono ?_; rintro e w2 ⟨rfl, rfl⟩)
    go_ret
    exact ⟨rfl, rfl⟩
  · rw [if_neg ht]
    have ht' : there bp id = false := by simpa using ht
    go_enter Tryd.func11, Tryd.ntmps11
    go_wp2_with (go_at_call 21; refine (there_calls _ _ _ _ _ hA).mono ?_; rintro e w2 ⟨rfl, rfl⟩)
    go_ret
    exact ⟨rfl, rfl⟩
theorem limit_calls (w : World) (L : TabL) (bp : List Place) (bs : List BankS) (id : Int) (h : TabRep BankS.enc w L bp bs) :
    Calls Tryd.prog 12 #[ptr L.h, .int .i64 id] w fun e w' => e = .returned (.int .i64 (if there bp id then (bankOf bs id).limit else 0)) ∧ w = w' := by
  obtain ⟨cap, hh⟩ := h.hdr
  have c0 := hh.cell 0 _ rfl
  have c1 := hh.cell 1 _ rfl
  have hA := h.arena
  by_cases ht : there bp id = true
  · obtain ⟨hy0, hy1⟩ := there_lt ht
    obtain ⟨k, rfl⟩ := Int.eq_ofNat_of_zero_le hy0
    have hkl : k < bs.length := by have := h.len; omega
    obtain ⟨r0, r1, r2⟩ := banks_at h.rows k hkl
    rw [if_pos ht, bankOf_nat bs k hkl]
    clear h
    go_enter Tryd.func12, Tryd.ntmps12
    go_wp2_with (go_at_call 21; refine (there_calls _ _ _ _ _ hA).mono ?_; rintro e w2 ⟨rfl, rfl⟩)
    go_ret
    exact ⟨rfl, rfl⟩
  · rw [if_neg ht]
    have ht' : there bp id = false := by simpa using ht
    go_enter Tryd.func12, Tryd.ntmps12
    go_wp2_with (go_at_call 21; refine (there_calls _ _ _ _ _ hA).mono ?_; rintro e w2 ⟨rfl, rfl⟩)
    go_ret
    exact ⟨rfl, rfl⟩
theorem parent_calls (w : World) (L : TabL) (bp : List Place) (bs : List BankS) (id : Int) (h : TabRep BankS.enc w L bp bs) :
    Calls Tryd.prog 10 #[ptr L.h, .int .i64 id] w fun e w' => e = .returned (.int .i64 (if there bp id then (bankOf bs id).parent else -1)) ∧ w = w' := by
  obtain ⟨cap, hh⟩ := h.hdr
  have c0 := hh.cell 0 _ rfl
  have c1 := hh.cell 1 _ rfl
  have hA := h.arena
  by_cases ht : there bp id = true
  · obtain ⟨hy0, hy1⟩ := there_lt ht
    obtain ⟨k, rfl⟩ := Int.eq_ofNat_of_zero_le hy0
    have hkl : k < bs.length := by have := h.len; omega
    obtain ⟨r0, r1, r2⟩ := banks_at h.rows k hkl
    rw [if_pos ht, bankOf_nat bs k hkl]
    clear h
    go_enter Tryd.func10, Tryd.ntmps10
    go_wp2_with (go_at_call 21; refine (there_calls _ _ _ _ _ hA).mono ?_; rintro e w2 ⟨rfl, rfl⟩)
    go_ret
    exact ⟨rfl, rfl⟩
  · rw [if_neg ht]
    have ht' : there bp id = false := by simpa using ht
    go_enter Tryd.func10, Tryd.ntmps10
    go_wp2_with (go_at_call 21; refine (there_calls _ _ _ _ _ hA).mono ?_; rintro e w2 ⟨rfl, rfl⟩)
    go_ret
    exact ⟨rfl, rfl⟩
end Go.Proofs.YtpnjebpbglgebaaDoor
