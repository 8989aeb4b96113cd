/-
  Package code: fits, walked.
-/
import Derived.Test.YtgpmhfbkgcljbaaDoorCode2
namespace Go.Proofs.YtgpmhfbkgcljbaaDoor
open Go Go.RowKit

theorem Ext.iterAt {D : List Nat} {w w' : World} (h : Ext D w w') {k : Nat} (hk : k ∈ D ∨ w.heap.size ≤ k) (s : ByteArray) (pos : Nat) : Ext D w (w'.iterAt k s pos) :=
  ⟨h.os, h.tape, h.output, by rw [Lib.iterAt_size]; exact h.size, fun i hi hd => by
    rw [Lib.iterAt_other _ _ _ _ _ (by rintro rfl; rcases hk with hk | hk; exact hd hk; exact absurd hi (Nat.not_lt.2 hk))]; exact h.block i hi hd⟩

/-- A letter of a form. -/
def Letter (x : UInt8) : Prop := x = 110 ∨ x = 111 ∨ x = 104 ∨ x = 107 ∨ x = 114
instance (x : UInt8) : Decidable (Letter x) := by unfold Letter; infer_instance
theorem letters (op : Int) : ∀ x ∈ formL op, Letter x := by
  unfold formL
  repeat' split
  all_goals decide
theorem formL_len (op : Int) : (formL op).length ≤ 4 := by
  unfold formL
  repeat' split
  all_goals decide
theorem Letter.ascii {x : UInt8} (h : Letter x) : x.toNat < 128 := by
  rcases h with rfl | rfl | rfl | rfl | rfl <;> decide

/-- One letter gone over. -/
theorem fitsGo_n (cs : List UInt8) (l : List Int) (m h : Int) : fitsGo (110 :: cs) l m h = fitsGo cs l 4095 h := by simp [fitsGo]
theorem enough_free {ch : UInt8} (cs : List UInt8) (n : Nat) (h : ch = 110 ∨ ch = 111 ∨ ch = 104) : enough (ch :: cs) n = enough cs n := by simp [enough, h]
theorem enough_reg {ch : UInt8} (cs : List UInt8) (n : Nat) (h : ch = 107 ∨ ch = 114) (he : enough (ch :: cs) n = true) : ∃ k, n = k + 1 ∧ enough cs k = true := by
  have hn : ¬ (ch = 110 ∨ ch = 111 ∨ ch = 104) := by rcases h with rfl | rfl <;> decide
  cases n with
  | zero => simp [enough, hn] at he
  | succ k => exact ⟨k, rfl, by simpa [enough, hn] using he⟩

theorem formS_list (op : Int) : (formS op).data.toList = formL op := rfl
theorem formS_size (op : Int) : (formS op).size = (formL op).length := by simp [ByteArray.size, formS]
theorem formS_get (op : Int) (k : Nat) (h : k < (formS op).size) : (formS op)[k]'h = (formL op)[k]'(by rw [← formS_size]; exact h) := rfl

theorem regs_tail {w : World} {b o : Nat} {x y : Int} {ys : List Int} (h : ∀ j (hj : j < (x :: y :: ys).length), w.cell? ⟨b, o + j, none⟩ = some (.int .i64 (x :: y :: ys)[j])) :
    RegsAt w (.slice (some ⟨b, o + 1, none⟩) (ys.length + 1) (ys.length + 1)) (y :: ys) :=
  ⟨_, rfl, fun _ => ⟨b, o + 1, rfl, fun j hj => by have := h (j + 1) (by simpa using hj); rw [Nat.add_assoc, Nat.add_comm 1 j]; simpa using this⟩⟩

set_option maxRecDepth 100000 in
set_option maxHeartbeats 6400000 in
theorem fits_calls (w : World) (i : Ins) (h1 : 1 ≤ i.op) (h2 : i.op ≤ 13) :
    Calls Tryd.prog 25 #[i.val] w fun e w' => e = .returned (.bool (fitsB i)) ∧ Ext [] w w' := by
  have hen := enough_form i
  have HEN := Lib.hid hen
  have hfl := formL_len i.op
  have HLE := Lib.hid (letters i.op)
  have hsz := formS_size i.op
  have HSZ := Lib.hid hsz
  have hrl : i.regs.length ≤ 3 := by unfold Ins.regs; split <;> simp
  have HFB : Hid (fitsB i = match fitsGo (formL i.op) i.regs 0 0 with | none => false | some (l, m, h) => !(i.op == 11 && (decide (i.a < 0) || decide (h < i.a))) && (decide (0 ≤ i.imm) && (decide (i.imm ≤ m) && !(l.any (· != 0))))) := by
    show fitsB i = _
    rfl
  obtain ⟨R, hR⟩ : ∃ R, R = fitsGo (formL i.op) i.regs 0 0 := ⟨_, rfl⟩
  have HR := Lib.hid hR
  clear hen hsz hR
  obtain ⟨op, a, b, c, imm⟩ := i
  simp only at h1 h2 hfl
  go_enter Tryd.func25, Tryd.ntmps25
  have hB := box5 w (.int .i64 op) (.int .i64 a) (.int .i64 b) (.int .i64 c) (.int .i64 imm) (T := 23)
  have hX0 : Ext [] w (w.alloc (.cells #[.int .i64 op, .int .i64 a, .int .i64 b, .int .i64 c, .int .i64 imm] 23)) := (Ext.refl _ _).alloc _
  have HB := Lib.hid hB
  have HX0 := Lib.hid hX0
  clear hB hX0
  go_wp2_with (first
    | (go_at_call 27; refine (regs_calls _ ⟨op, a, b, c, imm⟩).mono ?_; rintro e w1 ⟨v, rfl, hv, hx1⟩
       have c0 := (hx1.blk HB.out (by simp)).cell 0 _ rfl)
    | (go_at_call 28; refine (form_calls _ op).mono ?_; rintro e w2 ⟨rfl, hx2⟩))
  have hX2 := hx1.trans hx2
  have hit : (w2.iter (formS op) 0).heap[w2.heap.size]? = some (.stringIter (formS op) 0) := World.iter_heap _ _ _
  have HV := Lib.hid (hv.ext hx2)
  have hlt2 : w.heap.size < w2.heap.size := by have := hX2.size; simp at this; omega
  have hxi : Ext [] w2 (w2.iter (formS op) 0) := (Ext.refl _ _).alloc _
  have HBB := Lib.hid (hX2.blk HB.out (by simp))
  have HXX := Lib.hid (HX0.out.trans hX2)
  obtain ⟨N, hN⟩ : ∃ N, N = w2.heap.size := ⟨_, rfl⟩
  rw [← hN] at hit hlt2 ⊢
  have HN := Lib.hid hN
  obtain ⟨s, hs⟩ : ∃ s, s = formS op := ⟨_, rfl⟩
  rw [← hs] at hit hxi ⊢
  have HS := Lib.hid hs
  have hss : s.size ≤ 4 := by rw [hs, HSZ.out]; exact hfl
  clear hN hs hv hx1 hx2 hX2 c0 hfl
  go_loopw [3, 4, 5] (fun v m h wr => ∃ (k : Nat) (l : List Int) (mi hi : Int), k ≤ s.size ∧ RegsAt w2 v l ∧ l.length ≤ 3 ∧ m = .int .i64 mi ∧ h = .int .i64 hi ∧ (0 ≤ mi ∧ mi ≤ 4095) ∧ (0 ≤ hi ∧ hi ≤ 2) ∧ fitsGo ((formL op).drop k) l mi hi = R ∧ enough ((formL op).drop k) l.length = true ∧
      wr.heap[N]? = some (.stringIter s k) ∧ Ext [] w2 wr) (fun _ _ _ wr => s.size - wr.iterPos N)
  case atStart => exact ⟨0, _, 0, 0, by omega, HV.out, hrl, rfl, rfl, by omega, by omega, HR.out.symm, HEN.out, hit, hxi⟩
  case round =>
    clear hit hxi
    obtain ⟨k, l, mi, hi, hk, hv, hl3, rfl, rfl, hm, hh, hgo, hen, hit, hX⟩ := hrel
    have HGO := Lib.hid hgo
    have HEN2 := Lib.hid hen
    clear hgo hen
    by_cases hlt : k < s.size
    · have hlf : k < (formL op).length := by have := HSZ.out; rw [← HS.out] at this; omega
      have hch : s[k]'hlt = (formL op)[k] := by have := HS.out; subst this; rfl
      have hlet := HLE.out _ (List.getElem_mem hlf)
      have hnx := fun ty => Lib.run_next_ascii_at (P := Tryd.prog) wr N s k ty hit hlt (by rw [hch]; exact hlet.ascii)
      have hdrop : (formL op).drop k = (formL op)[k] :: (formL op).drop (k + 1) := List.drop_eq_getElem_cons hlf
      rw [hch] at hnx
      rw [hdrop] at HGO HEN2
      have hit' := Lib.iterAt_heap wr N s k (k + 1) hit
      have hX' : Ext [] w2 (wr.iterAt N s (k + 1)) := hX.iterAt (.inr (by rw [HN.out]; exact Nat.le_refl _)) s (k + 1)
      generalize (formL op)[k] = ch at *
      have HP : Hid (wr.iterPos N = k) := by show wr.iterPos N = k; simp [World.iterPos, hit]
      have HP2 : Hid ((wr.iterAt N s (k + 1)).iterPos N = k + 1) := by show (wr.iterAt N s (k + 1)).iterPos N = k + 1; simp [World.iterPos, hit']
      clear hch hdrop hit
      rcases hlet with rfl | rfl | rfl | rfl | rfl
      · replace hnx : ∀ ty, (Instr.next (.pointer (some ⟨N, 0, none⟩)) true ty).run Tryd.prog wr = .ok (.tuple #[.bool true, .int .i64 k, .int .i32 110]) (wr.iterAt N s (k + 1)) := hnx
        go_wp2
        go_roundw
        case rel => exact ⟨k + 1, l, 4095, hi, by omega, hv, hl3, rfl, rfl, by omega, by omega, by have := HGO.out; simpa [fitsGo] using this, by have := HEN2.out; rwa [enough_free _ _ (by decide)] at this, hit', hX'⟩
        case measure => rw [HP.out, HP2.out]; omega
      · replace hnx : ∀ ty, (Instr.next (.pointer (some ⟨N, 0, none⟩)) true ty).run Tryd.prog wr = .ok (.tuple #[.bool true, .int .i64 k, .int .i32 111]) (wr.iterAt N s (k + 1)) := hnx
        go_wp2
        go_roundw
        case rel => exact ⟨k + 1, l, 11, hi, by omega, hv, hl3, rfl, rfl, by omega, by omega, by have := HGO.out; simpa [fitsGo] using this, by have := HEN2.out; rwa [enough_free _ _ (by decide)] at this, hit', hX'⟩
        case measure => rw [HP.out, HP2.out]; omega
      · replace hnx : ∀ ty, (Instr.next (.pointer (some ⟨N, 0, none⟩)) true ty).run Tryd.prog wr = .ok (.tuple #[.bool true, .int .i64 k, .int .i32 104]) (wr.iterAt N s (k + 1)) := hnx
        go_wp2
        go_roundw
        case rel => exact ⟨k + 1, l, mi, 2, by omega, hv, hl3, rfl, rfl, by omega, by omega, by have := HGO.out; simpa [fitsGo] using this, by have := HEN2.out; rwa [enough_free _ _ (by decide)] at this, hit', hX'⟩
        case measure => rw [HP.out, HP2.out]; omega
      · replace hnx : ∀ ty, (Instr.next (.pointer (some ⟨N, 0, none⟩)) true ty).run Tryd.prog wr = .ok (.tuple #[.bool true, .int .i64 k, .int .i32 107]) (wr.iterAt N s (k + 1)) := hnx
        obtain ⟨q, hq, hen'⟩ := enough_reg _ _ (by decide) HEN2.out
        obtain ⟨A, rfl, hA⟩ := hv
        obtain ⟨b0, o0, rfl, hc⟩ := hA (by omega)
        clear hA
        rcases l with _ | ⟨x, _ | ⟨y, ys⟩⟩
        · simp at hq
        · obtain rfl : q = 0 := by simp at hq; omega
          have c0' : wr.cell? ⟨b0, o0, none⟩ = some (.int .i64 x) := by have := hX.cell (hc 0 (by simp)) (by simp); simpa using this
          have c1' := (hX'.cell (hc 0 (by simp)) (by simp))
          have c1 : (wr.iterAt N s (k + 1)).cell? ⟨b0, o0, none⟩ = some (.int .i64 x) := by simpa using c1'
          clear c0' c1'
          have HC := Lib.hid hc
          clear hc
          by_cases hx0 : x < 0
          · go_wp2
            go_ret
            have hfb := HFB.out
            have := HGO.out
            simp [fitsGo, hx0] at this
            rw [← HR.out, ← this] at hfb
            refine ⟨?_, HXX.out.trans hX'⟩
            show Ending.returned (Value.bool false) = _
            rw [hfb]
          · by_cases hx8 : 16 ≤ x
            · go_wp2
              go_ret
              have hfb := HFB.out
              have := HGO.out
              simp [fitsGo, hx8] at this
              rw [← HR.out, ← this] at hfb
              refine ⟨?_, HXX.out.trans hX'⟩
              show Ending.returned (Value.bool false) = _
              rw [hfb]
            · go_wp2
              go_roundw
              case rel => exact ⟨k + 1, [], mi, hi, by omega, ⟨_, rfl, fun hp => by simp at hp⟩, by simp, rfl, rfl, hm, hh, by have := HGO.out; simpa [fitsGo, hx0, hx8] using this, by simpa using hen', hit', hX'⟩
              case measure => rw [HP.out, HP2.out]; omega
        · obtain rfl : q = ys.length + 1 := by simp at hq; omega
          have c0' : wr.cell? ⟨b0, o0, none⟩ = some (.int .i64 x) := by have := hX.cell (hc 0 (by simp)) (by simp); simpa using this
          have c1' := (hX'.cell (hc 0 (by simp)) (by simp))
          have c1 : (wr.iterAt N s (k + 1)).cell? ⟨b0, o0, none⟩ = some (.int .i64 x) := by simpa using c1'
          clear c0' c1'
          have HC := Lib.hid hc
          clear hc
          by_cases hx0 : x < 0
          · go_wp2
            go_ret
            have hfb := HFB.out
            have := HGO.out
            simp [fitsGo, hx0] at this
            rw [← HR.out, ← this] at hfb
            refine ⟨?_, HXX.out.trans hX'⟩
            show Ending.returned (Value.bool false) = _
            rw [hfb]
          · by_cases hx8 : 16 ≤ x
            · go_wp2
              go_ret
              have hfb := HFB.out
              have := HGO.out
              simp [fitsGo, hx8] at this
              rw [← HR.out, ← this] at hfb
              refine ⟨?_, HXX.out.trans hX'⟩
              show Ending.returned (Value.bool false) = _
              rw [hfb]
            · go_wp2
              go_roundw
              case rel => exact ⟨k + 1, y :: ys, mi, hi, by omega, regs_tail HC.out, by simp at hl3 ⊢; omega, rfl, rfl, hm, hh, by have := HGO.out; simpa [fitsGo, hx0, hx8] using this, by simpa using hen', hit', hX'⟩
              case measure => rw [HP.out, HP2.out]; omega
      · replace hnx : ∀ ty, (Instr.next (.pointer (some ⟨N, 0, none⟩)) true ty).run Tryd.prog wr = .ok (.tuple #[.bool true, .int .i64 k, .int .i32 114]) (wr.iterAt N s (k + 1)) := hnx
        obtain ⟨q, hq, hen'⟩ := enough_reg _ _ (by decide) HEN2.out
        obtain ⟨A, rfl, hA⟩ := hv
        obtain ⟨b0, o0, rfl, hc⟩ := hA (by omega)
        clear hA
        rcases l with _ | ⟨x, _ | ⟨y, ys⟩⟩
        · simp at hq
        · obtain rfl : q = 0 := by simp at hq; omega
          have c0' : wr.cell? ⟨b0, o0, none⟩ = some (.int .i64 x) := by have := hX.cell (hc 0 (by simp)) (by simp); simpa using this
          have c1' := (hX'.cell (hc 0 (by simp)) (by simp))
          have c1 : (wr.iterAt N s (k + 1)).cell? ⟨b0, o0, none⟩ = some (.int .i64 x) := by simpa using c1'
          clear c0' c1'
          have HC := Lib.hid hc
          clear hc
          by_cases hx0 : x < 0
          · go_wp2
            go_ret
            have hfb := HFB.out
            have := HGO.out
            simp [fitsGo, hx0] at this
            rw [← HR.out, ← this] at hfb
            refine ⟨?_, HXX.out.trans hX'⟩
            show Ending.returned (Value.bool false) = _
            rw [hfb]
          · by_cases hx8 : 8 ≤ x
            · go_wp2
              go_ret
              have hfb := HFB.out
              have := HGO.out
              simp [fitsGo, hx8] at this
              rw [← HR.out, ← this] at hfb
              refine ⟨?_, HXX.out.trans hX'⟩
              show Ending.returned (Value.bool false) = _
              rw [hfb]
            · go_wp2
              go_roundw
              case rel => exact ⟨k + 1, [], mi, hi, by omega, ⟨_, rfl, fun hp => by simp at hp⟩, by simp, rfl, rfl, hm, hh, by have := HGO.out; simpa [fitsGo, hx0, hx8] using this, by simpa using hen', hit', hX'⟩
              case measure => rw [HP.out, HP2.out]; omega
        · obtain rfl : q = ys.length + 1 := by simp at hq; omega
          have c0' : wr.cell? ⟨b0, o0, none⟩ = some (.int .i64 x) := by have := hX.cell (hc 0 (by simp)) (by simp); simpa using this
          have c1' := (hX'.cell (hc 0 (by simp)) (by simp))
          have c1 : (wr.iterAt N s (k + 1)).cell? ⟨b0, o0, none⟩ = some (.int .i64 x) := by simpa using c1'
          clear c0' c1'
          have HC := Lib.hid hc
          clear hc
          by_cases hx0 : x < 0
          · go_wp2
            go_ret
            have hfb := HFB.out
            have := HGO.out
            simp [fitsGo, hx0] at this
            rw [← HR.out, ← this] at hfb
            refine ⟨?_, HXX.out.trans hX'⟩
            show Ending.returned (Value.bool false) = _
            rw [hfb]
          · by_cases hx8 : 8 ≤ x
            · go_wp2
              go_ret
              have hfb := HFB.out
              have := HGO.out
              simp [fitsGo, hx8] at this
              rw [← HR.out, ← this] at hfb
              refine ⟨?_, HXX.out.trans hX'⟩
              show Ending.returned (Value.bool false) = _
              rw [hfb]
            · go_wp2
              go_roundw
              case rel => exact ⟨k + 1, y :: ys, mi, hi, by omega, regs_tail HC.out, by simp at hl3 ⊢; omega, rfl, rfl, hm, hh, by have := HGO.out; simpa [fitsGo, hx0, hx8] using this, by simpa using hen', hit', hX'⟩
              case measure => rw [HP.out, HP2.out]; omega
    · obtain rfl : k = s.size := by omega
      have hnx := fun ty => Lib.run_next_end_at (P := Tryd.prog) wr N s s.size ty hit (by omega)
      have hdrop : (formL op).drop s.size = [] := List.drop_eq_nil_of_le (by have := HSZ.out; rw [← HS.out] at this; omega)
      have hgo := HGO.out
      rw [hdrop] at hgo
      have hr : R = some (l, mi, hi) := hgo.symm
      have hfb := HFB.out
      rw [← HR.out, hr] at hfb
      have HFB2 := Lib.hid hfb
      have d0 := (HBB.out.cell 0 _ rfl)
      have e0 := hX.cell (HBB.out.cell 0 _ rfl) (by simp)
      have e1 := hX.cell (HBB.out.cell 1 _ rfl) (by simp)
      have e4 := hX.cell (HBB.out.cell 4 _ rfl) (by simp)
      have HVR := Lib.hid (hv.ext hX)
      clear hdrop hgo hr hfb d0 HGO HEN2 HFB
      by_cases h11 : op = 11
      · have hb11 : (op == 11) = true := by simp [h11]
        clear h11
        by_cases ha0 : a < 0
        · have ha0' : decide (a < 0) = true := by simpa using ha0
          go_wp2_with (go_at_call 40; refine (containsNon0_calls _ _ l HVR.out (by omega)).mono ?_; rintro e w3 ⟨rfl, rfl⟩)
          go_ret
          refine ⟨?_, HXX.out.trans hX⟩
          show Ending.returned (Value.bool false) = _
          rw [HFB2.out]
          simp [hb11, ha0']
        · have ha0' : decide (a < 0) = false := by simpa using ha0
          by_cases hah : hi < a
          · have hah' : decide (hi < a) = true := by simpa using hah
            go_wp2_with (go_at_call 40; refine (containsNon0_calls _ _ l HVR.out (by omega)).mono ?_; rintro e w3 ⟨rfl, rfl⟩)
            go_ret
            refine ⟨?_, HXX.out.trans hX⟩
            show Ending.returned (Value.bool false) = _
            rw [HFB2.out]
            simp [hb11, ha0', hah']
          · have hah' : decide (hi < a) = false := by simpa using hah
            by_cases hi0 : 0 ≤ imm
            · by_cases him : imm ≤ mi
              · go_wp2_with (go_at_call 40; refine (containsNon0_calls _ _ l HVR.out (by omega)).mono ?_; rintro e w3 ⟨rfl, rfl⟩)
                go_ret
                refine ⟨?_, HXX.out.trans hX⟩
                show Ending.returned (Value.bool (!l.any (· != 0))) = _
                rw [HFB2.out]
                simp [hb11, ha0', hah', hi0, him]
              · have him' : decide (imm ≤ mi) = false := by simpa using him
                go_wp2_with (go_at_call 40; refine (containsNon0_calls _ _ l HVR.out (by omega)).mono ?_; rintro e w3 ⟨rfl, rfl⟩)
                go_ret
                refine ⟨?_, HXX.out.trans hX⟩
                show Ending.returned (Value.bool false) = _
                rw [HFB2.out]
                simp [hb11, ha0', hah', hi0, him']
            · have hi0' : decide (0 ≤ imm) = false := by simpa using hi0
              go_wp2_with (go_at_call 40; refine (containsNon0_calls _ _ l HVR.out (by omega)).mono ?_; rintro e w3 ⟨rfl, rfl⟩)
              go_ret
              refine ⟨?_, HXX.out.trans hX⟩
              show Ending.returned (Value.bool false) = _
              rw [HFB2.out]
              simp [hb11, ha0', hah', hi0']
      · have hb11 : (op == 11) = false := by simpa using h11
        by_cases hi0 : 0 ≤ imm
        · by_cases him : imm ≤ mi
          · go_wp2_with (go_at_call 40; refine (containsNon0_calls _ _ l HVR.out (by omega)).mono ?_; rintro e w3 ⟨rfl, rfl⟩)
            go_ret
            refine ⟨?_, HXX.out.trans hX⟩
            show Ending.returned (Value.bool (!l.any (· != 0))) = _
            rw [HFB2.out]
            simp [hb11, hi0, him]
          · have him' : decide (imm ≤ mi) = false := by simpa using him
            go_wp2_with (go_at_call 40; refine (containsNon0_calls _ _ l HVR.out (by omega)).mono ?_; rintro e w3 ⟨rfl, rfl⟩)
            go_ret
            refine ⟨?_, HXX.out.trans hX⟩
            show Ending.returned (Value.bool false) = _
            rw [HFB2.out]
            simp [hb11, hi0, him']
        · have hi0' : decide (0 ≤ imm) = false := by simpa using hi0
          go_wp2_with (go_at_call 40; refine (containsNon0_calls _ _ l HVR.out (by omega)).mono ?_; rintro e w3 ⟨rfl, rfl⟩)
          go_ret
          refine ⟨?_, HXX.out.trans hX⟩
          show Ending.returned (Value.bool false) = _
          rw [HFB2.out]
          simp [hb11, hi0']
end Go.Proofs.YtgpmhfbkgcljbaaDoor
