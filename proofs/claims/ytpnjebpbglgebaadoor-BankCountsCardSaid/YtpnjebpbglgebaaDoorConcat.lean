/-
  slices.Concat of rows of keys.
-/
import Derived.Test.YtpnjebpbglgebaaDoorAppRow
namespace Go.Proofs.YtpnjebpbglgebaaDoor
open Go Go.RowKit

/-- Rows of keys, each known whole. -/
structure RowsK (w : World) (b : Nat) (rs : List (Value × List Key)) : Prop where
  cell : ∀ i (h : i < rs.length), w.cell? ⟨b, i, none⟩ = some rs[i].1
  row : ∀ i (h : i < rs.length), ∃ base, w.ownsRow base 44 5 rs[i].1 rs[i].2.length (flat Key.enc rs[i].2)
  few : ∀ i (h : i < rs.length), rs[i].2.length ≤ 256
theorem RowsK.ext {w w' : World} {b : Nat} {rs : List (Value × List Key)} (h : RowsK w b rs) (hx : Ext [] w w') : RowsK w' b rs :=
  ⟨fun i hi => hx.cell (h.cell i hi) (by simp), fun i hi => by obtain ⟨base, hr⟩ := h.row i hi; exact ⟨base, hx.own hr (by simp)⟩, h.few⟩

def allK (rs : List (Value × List Key)) (k : Nat) : List Key := (rs.take k).flatMap (·.2)
theorem allK_succ (rs : List (Value × List Key)) (k : Nat) (h : k < rs.length) : allK rs (k + 1) = allK rs k ++ rs[k].2 := by
  unfold allK
  rw [List.take_succ_eq_append_getElem h, List.flatMap_append, List.flatMap_singleton]
theorem allK_le {w : World} {b : Nat} {rs : List (Value × List Key)} (h : RowsK w b rs) : ∀ k, k ≤ rs.length → (allK rs k).length ≤ 256 * k
  | 0, _ => by simp [allK]
  | k + 1, hk => by
    have := allK_le h k (by omega)
    have := h.few k (by omega)
    rw [allK_succ rs k (by omega), List.length_append]
    omega
theorem flat_append {α : Type} (enc : α → List Value) (a b : List α) : flat enc (a ++ b) = flat enc a ++ flat enc b := by simp [flat]
theorem one_flat_key (l : List Key) : ∀ u ∈ flat Key.enc l, u.oneCell' = true := by
  intro u hu
  obtain ⟨k, -, hk⟩ := List.mem_flatMap.1 hu
  simp [Key.enc] at hk
  rcases hk with rfl | rfl | rfl | rfl | rfl <;> rfl

set_option maxHeartbeats 1600000 in
theorem concat_calls (w : World) (b c : Nat) (rs : List (Value × List Key)) (h : RowsK w b rs) (hm : rs.length ≤ 8) :
    Calls Tryd.prog 37 #[.slice (some ⟨b, 0, none⟩) rs.length c] w fun e w' => ∃ v, e = .returned v ∧
      w'.ownsRow w.heap.size 44 5 v (allK rs rs.length).length (flat Key.enc (allK rs rs.length)) ∧ Ext [] w w' := by
  have H := Lib.hid h
  have HL := Lib.hid (allK_le h)
  clear h
  go_enter Tryd.func37, Tryd.ntmps37
  go_wp2
  go_loop [3, 11] (fun s i => ∃ k : Nat, k ≤ rs.length ∧ i = .int .i64 k ∧ s = .int .i64 (allK rs k).length) (fun _ i => rs.length - (intOf i).toNat)
  case atStart => exact ⟨0, by omega, rfl, rfl⟩
  case round =>
    obtain ⟨k, hk, rfl, rfl⟩ := hrel
    have hle := HL.out k hk
    by_cases hlt : k < rs.length
    · have c0 := H.out.cell k hlt
      have hf := H.out.few k hlt
      obtain ⟨base, hr⟩ := H.out.row k hlt
      obtain ⟨A, cc, hv⟩ := own_slice hr
      have HS : Hid ((allK rs (k + 1)).length = (allK rs k).length + rs[k].2.length) := by
        show (allK rs (k + 1)).length = _
        rw [allK_succ rs k hlt, List.length_append]
      rw [hv] at c0
      generalize rs[k].2.length = n at *
      clear hr hv
      go_wp2
      go_round
      case rel => exact ⟨k + 1, by omega, by go_num, by rw [HS.out]; go_num⟩
      case measure => simp [intOf]; omega
    · obtain rfl : k = rs.length := by omega
      clear hlt hk
      go_wp2_with (go_at_call 55; refine (growKeys_calls _ _ (by omega)).mono ?_; rintro e w1 ⟨v1, rfl, hown1, hx1⟩; obtain ⟨A1, c1, rfl⟩ := own_slice hown1)
      go_loopw [6, 27] (fun v i wr => ∃ k : Nat, k ≤ rs.length ∧ i = .int .i64 k ∧ wr.ownsRow w.heap.size 44 5 v (allK rs k).length (flat Key.enc (allK rs k)) ∧ Ext [] w wr) (fun _ i _ => rs.length - (intOf i).toNat)
      case atStart => exact ⟨0, by omega, rfl, hown1, hx1⟩
      case round =>
        obtain ⟨k, hk, rfl, hO, hX⟩ := hrel
        have hle' := HL.out k hk
        by_cases hlt : k < rs.length
        · have H2 := H.out.ext hX
          have c0 := H2.cell k hlt
          have hf := H2.few k hlt
          obtain ⟨base, hr⟩ := H2.row k hlt
          have hsz := hX.size
          obtain ⟨v2, hv2⟩ : ∃ v2, v2 = rs[k].1 := ⟨_, rfl⟩
          rw [← hv2] at c0 hr
          clear hv2
          clear H2
          have HS : Hid (allK rs (k + 1) = allK rs k ++ rs[k].2) := by
            show allK rs (k + 1) = _
            exact allK_succ rs k hlt
          obtain ⟨l2, hl2⟩ : ∃ l2, l2 = rs[k].2 := ⟨_, rfl⟩
          rw [← hl2] at hr hf
          have HL2 := Lib.hid hl2
          clear hl2
          go_wp2_with (at_builtin; refine append_row w.heap.size base rfl (.tmp 31) (.tmp 32) 39 44 _ 5 40 rfl Tryd.underlying39 info_key rfl (by decide) (by decide) u6 _ _ v2 l2.length _ rfl rfl (one_flat_key l2) hO hr hsz (by omega) ?_; intro v' w3 hown3 hg3)
          go_roundw
          case rel =>
            refine ⟨k + 1, by omega, by go_num, ?_, hX.grown hg3 (fun j hj => .inr (own_lt hO j hj).1)⟩
            rw [HS.out, ← HL2.out, flat_append, List.length_append]
            exact hown3
          case measure => simp [intOf]; omega
        · obtain rfl : k = rs.length := by omega
          go_wp2
          go_ret
          exact ⟨_, rfl, hO, hX⟩
end Go.Proofs.YtpnjebpbglgebaaDoor
