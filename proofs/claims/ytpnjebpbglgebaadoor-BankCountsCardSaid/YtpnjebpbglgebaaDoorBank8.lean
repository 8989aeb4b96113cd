/-
  Package bank: all, walked.
-/
import Derived.Test.YtpnjebpbglgebaaDoorBank7
namespace Go.Proofs.YtpnjebpbglgebaaDoor
open Go Go.RowKit

theorem TrioRep.ext {w w' : World} {L : BankL} {LM : MemL} {LD : DomL} {B : BanksS} {M : MemS} {dp : List Place} {ds : List DomS} (h : TrioRep w L LM LD B M dp ds) (hx : Ext [] w w') : TrioRep w' L LM LD B M dp ds :=
  ⟨h.ban.ext hx (fun _ _ hb => by cases hb), h.mem.ext hx (fun _ _ hb => by cases hb), h.dom.ext hx (fun _ _ hb => by cases hb), h.sep⟩

theorem flat_snoc {α : Type} (enc : α → List Value) (l : List α) (x : α) : flat enc (l ++ [x]) = flat enc l ++ enc x := by simp [flat]

set_option maxHeartbeats 1600000 in
theorem all_calls (w : World) (L : BankL) (LM : MemL) (LD : DomL) (B : BanksS) (M : MemS) (dp : List Place) (ds : List DomS) (id kind : Int) (n : Nat) (h : TrioRep w L LM LD B M dp ds) (hn : n ≤ 256) :
    Calls Tryd.prog 38 #[ptr L.t.h, .int .i64 id, .int .i64 kind, .int .i64 n] w fun e w' =>
      ∃ v, e = .returned v ∧ w'.ownsRow w.heap.size 44 5 v (ownKeys B.own (liveK M dp) id kind n).length (flat Key.enc (ownKeys B.own (liveK M dp) id kind n)) ∧ Ext [] w w' := by
  go_enter Tryd.func38, Tryd.ntmps38
  go_wp2
  go_loopw [9, 14] (fun v i wr => ∃ k : Nat, k ≤ n ∧ i = .int .i64 k ∧ wr.ownsRow w.heap.size 44 5 v (ownKeys B.own (liveK M dp) id kind k).length (flat Key.enc (ownKeys B.own (liveK M dp) id kind k)) ∧ Ext [] w wr) (fun _ i _ => n - (intOf i).toNat)
  case atStart => exact ⟨0, by omega, rfl, own_nil _ _ _ _, Ext.refl _ _⟩
  case round =>
    obtain ⟨k, hk, rfl, hO, hX⟩ := hrel
    by_cases hlt : k < n
    · have hT := h.ext hX
      obtain ⟨c0, hh⟩ := hT.ban.hdr
      have b2 := hh.cell 2 _ rfl
      have hget := run_ownGet wr L.o B.own B.clock kind k hT.ban.own
      have hsz := hX.size
      have HT := Lib.hid hT; clear hT
      cases hat : ownAt B.own kind k with
      | none =>
        rw [ownGet_none hat] at hget
        have HS : Hid (ownKeys B.own (liveK M dp) id kind (k + 1) = ownKeys B.own (liveK M dp) id kind k) := by
          show ownKeys B.own (liveK M dp) id kind (k + 1) = ownKeys B.own (liveK M dp) id kind k
          rw [ownKeys_succ]; simp [ownKey, hat]
        clear hat
        go_wp2
        go_roundw
        case rel => exact ⟨k + 1, by omega, by go_num, by rw [HS.out]; exact hO.alloc _, hX.alloc _⟩
        case measure => simp [intOf]; omega
      | some p =>
        obtain ⟨b, v⟩ := p
        rw [ownGet_some hat] at hget
        by_cases hb : b = id
        · subst hb
          cases hlv : liveK M dp kind k v with
          | false =>
            have HS : Hid (ownKeys B.own (liveK M dp) b kind (k + 1) = ownKeys B.own (liveK M dp) b kind k) := by
              show ownKeys B.own (liveK M dp) b kind (k + 1) = ownKeys B.own (liveK M dp) b kind k
              rw [ownKeys_succ]; simp [ownKey, hat, hlv]
            clear hat
            go_wp2_with (go_at_call 46; refine (bankLive_calls _ L LM LD B M dp ds _ _ _ (HT.out.ext (by repeat (first | exact Ext.refl _ _ | apply Ext.setCell | apply Ext.alloc | (right; simp))))).mono ?_; rintro e w2 ⟨rfl, rfl⟩; rw [hlv])
            go_roundw
            case rel => exact ⟨k + 1, by omega, by go_num, by rw [HS.out]; exact Ext.own (D := []) (by repeat (first | exact Ext.refl _ _ | apply Ext.setCell | apply Ext.alloc | (right; simp))) hO (by simp), hX.trans (by repeat (first | exact Ext.refl _ _ | apply Ext.setCell | apply Ext.alloc | (right; simp)))⟩
            case measure => simp [intOf]; omega
          | true =>
            have HS : Hid (ownKeys B.own (liveK M dp) b kind (k + 1) = ownKeys B.own (liveK M dp) b kind k ++ [⟨kind, k, v, 0, 0⟩]) := by
              show ownKeys B.own (liveK M dp) b kind (k + 1) = _
              rw [ownKeys_succ]; simp [ownKey, hat, hlv]
            have hle := ownKeys_le B.own (liveK M dp) b kind k
            clear hat
            go_wp2_with (first
              | (go_at_call 46; refine (bankLive_calls _ L LM LD B M dp ds _ _ _ (HT.out.ext (by repeat (first | exact Ext.refl _ _ | apply Ext.setCell | apply Ext.alloc | (right; simp))))).mono ?_; rintro e w2 ⟨rfl, rfl⟩; rw [hlv])
              | (at_builtin; refine append_one w.heap.size rfl (.tmp 43) (.tmp 49) 39 44 _ 5 40 rfl Tryd.underlying39 info_key rfl (by decide) (by decide) u9 _ _ (Key.enc ⟨kind, k, v, 0, 0⟩) rfl rfl _ rfl (by simp) (by intro u hu; simp [Key.enc] at hu; rcases hu with rfl | rfl | rfl | rfl | rfl <;> rfl) (Ext.own (D := []) (by repeat (first | exact Ext.refl _ _ | apply Ext.setCell | apply Ext.alloc | (right; simp))) hO (by simp)) (by simp; omega) (by omega) ?_; intro g c' w3 hown3 hg3 hat3))
            go_roundw
            case rel =>
              refine ⟨k + 1, by omega, by go_num, ?_, ?_⟩
              · rw [HS.out, flat_snoc, List.length_append]; exact hown3
              · refine Ext.grown (hX.trans (by repeat (first | exact Ext.refl _ _ | apply Ext.setCell | apply Ext.alloc | (right; simp)))) hg3 (fun j hj => .inr (own_lt hO j hj).1)
            case measure => simp [intOf]; omega
        · have HS : Hid (ownKeys B.own (liveK M dp) id kind (k + 1) = ownKeys B.own (liveK M dp) id kind k) := by
            show ownKeys B.own (liveK M dp) id kind (k + 1) = ownKeys B.own (liveK M dp) id kind k
            rw [ownKeys_succ]; simp [ownKey, hat, hb]
          clear hat
          go_wp2
          go_roundw
          case rel => exact ⟨k + 1, by omega, by go_num, by rw [HS.out]; exact Ext.own (D := []) (by repeat (first | exact Ext.refl _ _ | apply Ext.setCell | apply Ext.alloc | (right; simp))) hO (by simp), hX.trans (by repeat (first | exact Ext.refl _ _ | apply Ext.setCell | apply Ext.alloc | (right; simp)))⟩
          case measure => simp [intOf]; omega
    · obtain rfl : k = n := by omega
      go_wp2
      go_ret
      exact ⟨_, rfl, hO, hX⟩
end Go.Proofs.YtpnjebpbglgebaaDoor
