/-
  Package code: Text, walked.
-/
import Derived.Test.YtgpmhfbkgcljbaaDoorCode6
namespace Go.Proofs.YtgpmhfbkgcljbaaDoor
open Go Go.RowKit

theorem names_at {w : World} {b : Nat} (h : Blk w b ((List.range 13).map fun i => strV (nameW (i + 1)))) (op : Nat) (h1 : 1 ≤ op) (h2 : op < 14) : w.cell? ⟨b, op - 1, none⟩ = some (strV (nameW op)) :=
  h.cell _ _ (by rw [List.getElem?_map, List.getElem?_range (by omega)]; simp only [Option.map_some]; congr 3; omega)
theorem hows_at {w : World} {b : Nat} (h : Blk w b ((List.range 3).map fun i => strV (howW i))) (a : Nat) (h2 : a < 3) : w.cell? ⟨b, a, none⟩ = some (strV (howW a)) :=
  h.cell _ _ (by rw [List.getElem?_map, List.getElem?_range (by omega)]; rfl)

theorem TextRound.pos {w wr : World} {N rb g0 : Nat} {s : ByteArray} {F : List Value} {k : Nat} {l : List Nat} {v rv : Value} {pre : List (List UInt8)} (h : TextRound w wr N rb g0 s F k l v rv pre) : wr.iterPos N = k := by
  have := h.it
  simp [World.iterPos, this]
theorem RegsB.tail1 {w : World} {b o : Nat} {x n m : Nat} (h : RegsB w b (.slice (some ⟨b, o, none⟩) n m) [x]) : RegsB w b (.slice (some ⟨b, o, none⟩) 0 0) [] := ⟨o, rfl, fun j hj => by simp at hj⟩
theorem RegsB.tail2 {w : World} {b o : Nat} {x y n m : Nat} {ys : List Nat} (h : RegsB w b (.slice (some ⟨b, o, none⟩) n m) (x :: y :: ys)) : RegsB w b (.slice (some ⟨b, o + 1, none⟩) (ys.length + 1) (ys.length + 1)) (y :: ys) := by
  obtain ⟨o', he, hc⟩ := h
  simp only [Value.slice.injEq, Option.some.injEq, Addr.mk.injEq] at he
  obtain ⟨⟨-, rfl, -⟩, -, -⟩ := he
  exact RegsB.tail hc
theorem dec_len (n : Nat) (h : n < 100) : (Lib.decDigits n).length ≤ 2 := by
  by_cases h1 : n < 10
  · rw [Lib.decDigits_one h1]; simp
  · rw [Lib.decDigits_two h1 h]; simp
theorem enc_cat107 (n : Nat) : Utf8.encode 107 ++ (⟨(Lib.decDigits n).toArray⟩ : ByteArray) = ⟨(107 :: Lib.decDigits n).toArray⟩ := by
  have e : Utf8.encode 107 = ⟨#[107]⟩ := by decide
  rw [e]; apply ByteArray.ext; simp
theorem enc_cat114 (n : Nat) : Utf8.encode 114 ++ (⟨(Lib.decDigits n).toArray⟩ : ByteArray) = ⟨(114 :: Lib.decDigits n).toArray⟩ := by
  have e : Utf8.encode 114 = ⟨#[114]⟩ := by decide
  rw [e]; apply ByteArray.ext; simp
theorem enc_len107 (n : Nat) (h : n < 100) : (Utf8.encode 107).size + (Lib.decDigits n).length ≤ 9223372036854775807 := by
  have e : (Utf8.encode 107).size = 1 := by decide
  have := dec_len n h
  omega
theorem enc_len114 (n : Nat) (h : n < 100) : (Utf8.encode 114).size + (Lib.decDigits n).length ≤ 9223372036854775807 := by
  have e : (Utf8.encode 114).size = 1 := by decide
  have := dec_len n h
  omega
theorem own_form {w : World} {base n : Nat} {v : Value} {xs : List Value} (h : w.ownsRow base 9 1 v n xs) (hn : 0 < n) : ∃ g c, v = .slice (some ⟨g, 0, none⟩) n c ∧ g < w.heap.size ∧ n ≤ c := by
  rcases h.2 with ⟨-, h0⟩ | ⟨g, cap, cur, hv, hb, hh, hc, -⟩
  · omega
  · exact ⟨g, cap, hv, (Array.getElem?_eq_some_iff.1 hh).1, hc⟩
theorem dec_len4 (n : Nat) (h : n < 10000) : (Lib.decDigits n).length ≤ 4 := by
  by_cases h1 : n < 100
  · have := dec_len n h1; omega
  · rw [dec_step (by omega)]
    by_cases h2 : n < 1000
    · have := dec_len (n / 10) (by omega); simp; omega
    · rw [dec_step (n := n / 10) (by omega)]
      have := dec_len (n / 10 / 10) (by omega); simp; omega
theorem join_len : ∀ (xs : List (List UInt8)), (∀ x ∈ xs, x.length ≤ 10) → (Lib.join xs [32]).length ≤ 11 * xs.length
  | [], _ => by simp [Lib.join_nil]
  | [x], h => by rw [Lib.join_one]; have := h x (by simp); simp; omega
  | x :: y :: r, h => by
    have ih := join_len (y :: r) (fun z hz => h z (List.mem_cons_of_mem _ hz))
    rw [join_two]
    have := h x (by simp)
    simp at ih ⊢
    omega
theorem name_len : ∀ i, i < 14 → (nameW i).length ≤ 10 := by decide
theorem op_len : ∀ i, i < 12 → (opW i).length ≤ 10 := by decide
theorem how_len : ∀ i, i < 3 → (howW i).length ≤ 10 := by decide
theorem text_len {op a b c imm : Nat} (h : OkN op a b c imm) : (textW op a b c imm).length ≤ 100 := by
  have hs := h.small
  have r : ∀ n, n < 16 → (regW n).length ≤ 10 := fun n hn => by have := dec_len n (by omega); simp [regW]; omega
  have q : ∀ n, n < 16 → (keyW n).length ≤ 10 := fun n hn => by have := dec_len n (by omega); simp [keyW]; omega
  have d : (Lib.decDigits imm).length ≤ 10 := by have := dec_len4 imm (by omega); omega
  have hall : ∀ x ∈ nameW op :: argsW op a b c imm, x.length ≤ 10 := by
    intro x hx
    rcases List.mem_cons.1 hx with rfl | hx
    · exact name_len op h.op.2
    · rcases h.ops with rfl | rfl | rfl | rfl | rfl | rfl | rfl | rfl | rfl | rfl | rfl | rfl | rfl <;> simp only [OkN, argsW, List.mem_cons, List.mem_nil_iff, or_false] at h hx
      · rcases hx with rfl | rfl <;> first | exact d | exact r _ (by omega)
      · rcases hx with rfl | rfl <;> first | exact d | exact r _ (by omega)
      · rcases hx with rfl | rfl | rfl | rfl <;> first | exact op_len _ (by omega) | exact r _ (by omega)
      · subst hx; exact d
      · rcases hx with rfl | rfl <;> first | exact d | exact r _ (by omega)
      · rcases hx with rfl | rfl | rfl <;> first | exact d | exact r _ (by omega)
      · rcases hx with rfl | rfl | rfl <;> first | exact d | exact r _ (by omega)
      · rcases hx with rfl | rfl <;> exact q _ (by omega)
      · rcases hx with rfl | rfl <;> first | exact q _ (by omega) | exact r _ (by omega)
      · rcases hx with rfl | rfl <;> first | exact r _ (by omega) | exact q _ (by omega)
      · rcases hx with rfl | rfl | rfl <;> first | exact how_len _ (by omega) | exact q _ (by omega)
  have h1 := join_len _ hall
  have h2 : (nameW op :: argsW op a b c imm).length ≤ 5 := by
    rcases h.ops with rfl | rfl | rfl | rfl | rfl | rfl | rfl | rfl | rfl | rfl | rfl | rfl | rfl <;> simp [argsW]
  unfold textW
  omega
theorem own_one {w : World} {base : Nat} {x : List UInt8} (hb : base ≤ w.heap.size) : (w.alloc (.cells #[strV x] 9)).ownsRow base 9 1 (.slice (some ⟨w.heap.size, 0, none⟩) 1 1) 1 ([x].map strV) :=
  ⟨by simp, .inr ⟨w.heap.size, 1, #[strV x], rfl, hb, heap_alloc_new w _, by omega, by unfold maxLen; omega, by simp, by simp⟩⟩

set_option maxRecDepth 100000 in
set_option maxHeartbeats 12800000 in
theorem text_calls {K : List Nat} {B : Nat} {E : Nat → Addr} (w : World) (op a b c imm : Nat) (hk : OkN op a b c imm) (he : Errs K B E w) (h3 : 3 ∈ K) (h11 : 11 ∈ K) (ht : Tabs w) :
    Calls Tryd.prog 16 #[Ins.val ⟨op, a, b, c, imm⟩] w fun e w' => e = .returned (strV (textW op a b c imm)) ∧ Ext [] w w' := by
  have hv : validI ⟨op, a, b, c, imm⟩ = 0 := (valid_ok_iff _).2 ⟨by simp, by simp, by simp, by simp, by simp, by simpa using hk⟩
  have HV := Lib.hid hv
  have hop := hk.op
  have hsm := hk.small
  have HW := Lib.hid (textGo_args hk)
  have HK := Lib.hid hk
  have HE := Lib.hid he
  have HTB := Lib.hid ht
  have hB := box5 w (.int .i64 op) (.int .i64 a) (.int .i64 b) (.int .i64 c) (.int .i64 imm) (T := 23)
  have hX0 : Ext [] w (w.alloc (.cells #[.int .i64 op, .int .i64 a, .int .i64 b, .int .i64 c, .int .i64 imm] 23)) := (Ext.refl _ _).alloc _
  have HB := Lib.hid hB
  have HX0 := Lib.hid hX0
  clear hv hk hB hX0 he ht
  go_enter Tryd.func16, Tryd.ntmps16
  go_wp2_with (first
    | (go_at_call 13; refine (valid_calls _ ⟨op, a, b, c, imm⟩ (HE.out.ext HX0.out (by simp)) h3 h11).mono ?_; rintro e w1 ⟨rfl, hx1⟩; rw [HV.out, errO_zero]
       have HX1 := Lib.hid (HX0.out.trans hx1)
       have HB1 := Lib.hid (hx1.blk HB.out (by simp))))
  have c0 := HB1.out.cell 0 _ rfl
  have hw1 : IntKind.i64.wrap ((op : Int) - 1) = (op : Int) - 1 := IntWalk.i64_in _ (by omega)
  have hw2 : (0 : Int) ≤ (op : Int) - 1 := by omega
  have hw3 : (op : Int) - 1 < 13 := by omega
  have hw4 : (1 : Int) ≤ (op : Int) := by omega
  have hw5 : 1 ≤ op := by omega
  have hw6 : ((op : Int) - 1).toNat = op - 1 := by omega
  have hcur : Ext [] w1 w1.drew := (Ext.refl [] w1).drew
  have c0d : w1.drew.cell? ⟨w.heap.size, 0, none⟩ = some (.int .i64 (op : Int)) := hcur.cell c0 (by simp)
  go_region_with (first
    | (go_at_call 26; refine (names_calls _ (HTB.out.ext (HX1.out.trans hcur))).mono ?_; rintro e w2 ⟨rfl, hb2, hx2⟩; have hX2 := hcur.trans hx2
       have hnm := names_at hb2 op hop.1 hop.2
       have hnm' : w2.cell? ⟨w1.heap.size, op - 1, none⟩ = some (strV (nameW op)) := hnm
       have d0 := hx2.cell c0d (by simp)))
  all_goals
    have hg0 : w.heap.size < w2.heap.size := by have := (HX0.out.size); have := hX2.size; have := HX1.out.size; have := World.block_lt_of_cell? w2 _ d0; simpa using this
    have HXX := Lib.hid (((HX1.out.trans hX2)).alloc (.cells #[strV (nameW op)] 9))
    have HBX := Lib.hid (((hX2.blk HB1.out (by simp))).alloc (.cells #[strV (nameW op)] 9))
    have HOW := Lib.hid (own_one (w := w2) (x := nameW op) (show w.heap.size ≤ w2.heap.size by omega))
    have d1 := HBX.out.cell 0 _ rfl
    have d2 := HBX.out.cell 1 _ rfl
    have d3 := HBX.out.cell 2 _ rfl
    have d4 := HBX.out.cell 3 _ rfl
    have d5 := HBX.out.cell 4 _ rfl
    clear hnm hnm' d0 hcur hw1 hw2 hw3 hw4 hw5 hw6 c0 c0d hb2 hx2 hX2
    go_wp2_with (first
      | (go_at_call 27; refine (regsB_calls _ op a b c imm).mono ?_; rintro e w3 ⟨v3, rfl, hr3, hx3, hz3⟩
         have e0 := hx3.cell d1 (by simp))
      | (go_at_call 28; refine (form_calls _ (op : Int)).mono ?_; rintro e w4 ⟨rfl, hx4⟩))
    have hX4 := hx3.trans hx4
    have hz4 := hx4.size
    have hit : (w4.iter (formS op) 0).heap[w4.heap.size]? = some (.stringIter (formS op) 0) := World.iter_heap _ _ _
    have hxi : Ext [] w4 (w4.iter (formS op) 0) := (Ext.refl _ _).alloc _
    have hround : TextRound w (w4.iter (formS op) 0) w4.heap.size ((w2.alloc (.cells #[strV (nameW op)] 9)).heap.size + 1) w2.heap.size (formS op) [.int .i64 op, .int .i64 a, .int .i64 b, .int .i64 c, .int .i64 imm] 0 (regsN op a b c) (.slice (some ⟨w2.heap.size, 0, none⟩) 1 1) v3 [nameW op] :=
      ⟨(hr3.ext hx4 (by simp)).ext hxi (by simp), (hX4.trans hxi).own HOW.out (by simp), fun g hg => .inl (by simpa [Value.ownBlock] using hg.symm), hit, HXX.out.trans (hX4.trans hxi), (hX4.trans hxi).blk HBX.out (by simp), by simp at hz3 hz4 ⊢; omega⟩
    obtain ⟨N, hN⟩ : ∃ N, N = w4.heap.size := ⟨_, rfl⟩
    obtain ⟨s, hs⟩ : ∃ s, s = formS op := ⟨_, rfl⟩
    obtain ⟨rb, hrb⟩ : ∃ rb, rb = (w2.alloc (.cells #[strV (nameW op)] 9)).heap.size + 1 := ⟨_, rfl⟩
    rw [← hN, ← hs, ← hrb] at hround
    rw [← hN, ← hs]
    have hss : s.size ≤ 4 := by rw [hs, formS_size]; exact formL_len op
    have HS := Lib.hid hs
    have HR := Lib.hid hround
    have hen : enough (formL op) (regsN op a b c).length = true := by have := enough_form ⟨op, a, b, c, imm⟩; rw [regsN_regs] at this; simpa using this
    have HEN := Lib.hid hen
    have hrl : (regsN op a b c).length ≤ 3 := by unfold regsN; split <;> simp
    clear hN hs hrb hround hen d1 d2 d3 d4 d5 hx3 hx4 hX4 hz3 hz4 hr3 e0 hit hxi
    go_loopw [3, 4] (fun v rv wr => ∃ (k : Nat) (l : List Nat) (pre : List (List UInt8)), k ≤ s.size ∧ l.length ≤ 3 ∧ TextRound w wr N rb w2.heap.size s [.int .i64 op, .int .i64 a, .int .i64 b, .int .i64 c, .int .i64 imm] k l v rv pre ∧
      pre ++ textGo a imm ((formL op).drop k) l = nameW op :: argsW op a b c imm ∧ enough ((formL op).drop k) l.length = true ∧ pre.length ≤ 1 + k ∧ ∀ x ∈ l, x < 16) (fun _ _ wr => s.size - wr.iterPos N)
    case atStart => exact ⟨0, _, _, by omega, hrl, HR.out, by rw [List.drop_zero, HW.out]; rfl, HEN.out, by simp, by unfold regsN; split <;> simp <;> omega⟩
    case round =>
      clear HR HEN
      obtain ⟨k, l, pre, hk, hl3, hr, hgo, hen, hpl, hl16⟩ := hrel
      have HRR := Lib.hid hr
      have HGO := Lib.hid hgo
      have HEN := Lib.hid hen
      have hit := hr.it
      clear hgo hen hr
      by_cases hlt : k < s.size
      · have hlf : k < (formL op).length := by have := formS_size op; rw [← HS.out] at this; omega
        have hch : s[k]'hlt = (formL op)[k] := by have := HS.out; subst this; rfl
        have hlet := letters op _ (List.getElem_mem hlf)
        have hmem : (formL op)[k] ∈ formL op := List.getElem_mem hlf
        have hnx := fun ty => Lib.run_next_ascii_at (P := Tryd.prog) wr N s k ty hit hlt (by rw [hch]; exact hlet.ascii)
        have hdrop : (formL op).drop k = (formL op)[k] :: (formL op).drop (k + 1) := List.drop_eq_getElem_cons hlf
        rw [hch] at hnx
        rw [hdrop] at HGO HEN
        have HP : Hid (wr.iterPos N = k) := by show wr.iterPos N = k; simp [World.iterPos, hit]
        have hR1 := HRR.out.next (Ext.refl [] _)
        have HP2 : ∀ w', TextRound w w' N rb w2.heap.size s [.int .i64 op, .int .i64 a, .int .i64 b, .int .i64 c, .int .i64 imm] (k + 1) l v3 v3 pre → True := fun _ _ => trivial
        clear HP2
        have d1 := hR1.box.cell 1 _ rfl
        have d4 := hR1.box.cell 4 _ rfl
        have hcur : Ext [] (wr.iterAt N s (k + 1)) (wr.iterAt N s (k + 1)) := Ext.refl _ _
        generalize (formL op)[k] = ch at *
        clear hch hdrop hit hlf
        rcases hlet with rfl | rfl | rfl | rfl | rfl
        · replace hnx : ∀ ty, (Instr.next (.pointer (some ⟨N, 0, none⟩)) true ty).run Tryd.prog wr = .ok (.tuple #[.bool true, .int .i64 k, .int .i32 110]) (wr.iterAt N s (k + 1)) := hnx
          go_wp2_with (first
            | (go_at_call 29; refine (itoa_calls _ imm (by omega) (HTB.out.ext hR1.ext)).mono ?_; rintro e w5 ⟨rfl, hx5⟩
               have hR5 := HRR.out.next hx5)
            | (at_builtin; refine append_one w.heap.size rfl (.tmp 41) (.tmp 45) 60 9 _ 1 16 rfl Tryd.underlying60 info_str rfl (by decide) (by decide) _ pre.length (pre.map strV) [strV (Lib.decDigits imm)] rfl rfl _ rfl rfl (by intro u hu; simp at hu; subst hu; rfl) hR5.own (by have := hR5.ext.size; omega) (by omega) ?_; intro g c' w6 hown6 hg6 hat6))
          go_roundw
          case rel => exact ⟨k + 1, l, pre ++ [Lib.decDigits imm], by omega, by (try simp at hl3 ⊢); omega, (hR5.put hg6 hown6 hat6), by have := HGO.out; simpa [textGo] using this, by have := HEN.out; rwa [enough_free _ _ (by decide)] at this, by simp; omega, hl16⟩
          case measure => rw [HP.out, ((hR5.put hg6 hown6 hat6)).pos]; omega
        · replace hnx : ∀ ty, (Instr.next (.pointer (some ⟨N, 0, none⟩)) true ty).run Tryd.prog wr = .ok (.tuple #[.bool true, .int .i64 k, .int .i32 111]) (wr.iterAt N s (k + 1)) := hnx
          have h12 : imm < 12 := by
            have h0 := HK.out
            rcases h0.ops with rfl | rfl | rfl | rfl | rfl | rfl | rfl | rfl | rfl | rfl | rfl | rfl | rfl <;> first | (simp [formL] at hmem; done) | (simp only [OkN] at h0; omega)
          go_wp2_with (first
            | (go_at_call 30; refine (opName_calls _ imm h12).mono ?_; rintro e w5 ⟨rfl, hx5⟩
               have hR5 := HRR.out.next hx5)
            | (at_builtin; refine append_one w.heap.size rfl (.tmp 49) (.tmp 53) 60 9 _ 1 16 rfl Tryd.underlying60 info_str rfl (by decide) (by decide) _ pre.length (pre.map strV) [strV (opW imm)] rfl rfl _ rfl rfl (by intro u hu; simp at hu; subst hu; rfl) hR5.own (by have := hR5.ext.size; omega) (by omega) ?_; intro g c' w6 hown6 hg6 hat6))
          go_roundw
          case rel => exact ⟨k + 1, l, pre ++ [opW imm], by omega, by (try simp at hl3 ⊢); omega, (hR5.put hg6 hown6 hat6), by have := HGO.out; simpa [textGo] using this, by have := HEN.out; rwa [enough_free _ _ (by decide)] at this, by simp; omega, hl16⟩
          case measure => rw [HP.out, ((hR5.put hg6 hown6 hat6)).pos]; omega
        · replace hnx : ∀ ty, (Instr.next (.pointer (some ⟨N, 0, none⟩)) true ty).run Tryd.prog wr = .ok (.tuple #[.bool true, .int .i64 k, .int .i32 104]) (wr.iterAt N s (k + 1)) := hnx
          have h3a : a < 3 := by
            have h0 := HK.out
            rcases h0.ops with rfl | rfl | rfl | rfl | rfl | rfl | rfl | rfl | rfl | rfl | rfl | rfl | rfl <;> first | (simp [formL] at hmem; done) | (simp only [OkN] at h0; omega)
          have d1d : (wr.iterAt N s (k + 1)).drew.cell? ⟨w.heap.size, 1, none⟩ = some (.int .i64 (a : Int)) := d1
          have hcd : Ext [] (wr.iterAt N s (k + 1)) (wr.iterAt N s (k + 1)).drew := (Ext.refl _ _).drew
          obtain ⟨i0, hi0, hz0, hz1, hz2⟩ := info_parts info_str
          have ha1 : (0 : Int) ≤ (a : Int) := by omega
          have ha2 : (a : Int) < 3 := by omega
          go_wp2_with fail
          go_region_law (first
            | (go_simp; go_at_call 31; refine (hows_calls _).mono ?_; rintro e w5 ⟨rfl, hb5, hx5⟩
               have hhw := hows_at hb5 a h3a
               have hhw' : w5.cell? ⟨(wr.iterAt N s (k + 1)).heap.size, a, none⟩ = some (strV (howW a)) := hhw
               have dd1 := hx5.cell d1d (by simp)
               have hR5 := HRR.out.next ((hcd.trans hx5).alloc (.cells #[strV (howW a)] 9)))
            | (refine step_append_lies _ rfl (.tmp 57) (.tmp 63) 60 rfl w.heap.size 9 i0 _ 1 16 Tryd.underlying60 hi0 hz0 hz1 hz2 rfl (by omega) _ pre.length (pre.map strV) rfl hR5.own ⟨w5.heap.size, 0, none⟩ 1 1 [strV (howW a)] rfl rfl (World.news_of_block (cs := #[strV (howW a)]) (t := 9) (fr := (0, 0)) (heap_alloc_new w5 _)) (by intro u hu; simp at hu; subst hu; rfl) (by omega) (by unfold maxLen; omega) (by omega) (by have := hR5.ext.size; simp at this ⊢; omega) _ rfl ?_; intro g c' w6 hown6 hg6 hat6 hlt6))
          all_goals
            go_wp2
            go_roundw
            case rel => (repeat apply Exists.intro); exact ⟨⟨k + 1, l, pre ++ [howW a], by omega, by (try simp at hl3 ⊢); omega, (hR5.put hg6 hown6 (hat6.imp_right (fun e => by rw [e]; exact Nat.le_refl _))), by have := HGO.out; simpa [textGo] using this, by have := HEN.out; rwa [enough_free _ _ (by decide)] at this, by simp; omega, hl16⟩, rfl⟩
            case measure => rw [HP.out, ((hR5.put hg6 hown6 (hat6.imp_right (fun e => by rw [e]; exact Nat.le_refl _)))).pos]; omega
        · replace hnx : ∀ ty, (Instr.next (.pointer (some ⟨N, 0, none⟩)) true ty).run Tryd.prog wr = .ok (.tuple #[.bool true, .int .i64 k, .int .i32 107]) (wr.iterAt N s (k + 1)) := hnx
          obtain ⟨q, hq, hen'⟩ := enough_reg _ _ (by decide) HEN.out
          obtain ⟨o0, hrv, hc⟩ := hR1.regs
          subst hrv
          rcases l with _ | ⟨x, _ | ⟨y, ys⟩⟩
          · simp at hq
          · obtain rfl : q = 0 := by simp at hq; omega
            have hx16 : x < 16 := hl16 x (by simp)
            have c1 : (wr.iterAt N s (k + 1)).cell? ⟨rb, o0, none⟩ = some (.int .i64 (x : Int)) := hc 0 (by simp)
            clear hc
            have hcat := enc_cat107 x
            have hsz := enc_len107 x (by omega)
            go_wp2_with (first
              | (go_at_call 29; refine (itoa_calls _ x (by omega) (HTB.out.ext hR1.ext)).mono ?_; rintro e w5 ⟨rfl, hx5⟩
                 have hR5 := HRR.out.next hx5)
              | (at_builtin; refine append_one w.heap.size rfl (.tmp 27) (.tmp 35) 60 9 _ 1 16 rfl Tryd.underlying60 info_str rfl (by decide) (by decide) _ pre.length (pre.map strV) [strV (107 :: Lib.decDigits x)] rfl rfl _ rfl rfl (by intro u hu; simp at hu; subst hu; rfl) hR5.own (by have := hR5.ext.size; omega) (by omega) ?_; intro g c' w6 hown6 hg6 hat6))
            go_roundw
            case rel => exact ⟨k + 1, [], pre ++ [107 :: Lib.decDigits x], by omega, by simp, (hR5.put hg6 hown6 hat6).turn ((hR5.put hg6 hown6 hat6).regs.tail1), by have := HGO.out; simpa [textGo] using this, by simpa using hen', by simp; omega, by simp⟩
            case measure => rw [HP.out, ((hR5.put hg6 hown6 hat6)).pos]; omega
          · obtain rfl : q = ys.length + 1 := by simp at hq; omega
            have hx16 : x < 16 := hl16 x (by simp)
            have c1 : (wr.iterAt N s (k + 1)).cell? ⟨rb, o0, none⟩ = some (.int .i64 (x : Int)) := hc 0 (by simp)
            clear hc
            have hcat := enc_cat107 x
            have hsz := enc_len107 x (by omega)
            go_wp2_with (first
              | (go_at_call 29; refine (itoa_calls _ x (by omega) (HTB.out.ext hR1.ext)).mono ?_; rintro e w5 ⟨rfl, hx5⟩
                 have hR5 := HRR.out.next hx5)
              | (at_builtin; refine append_one w.heap.size rfl (.tmp 27) (.tmp 35) 60 9 _ 1 16 rfl Tryd.underlying60 info_str rfl (by decide) (by decide) _ pre.length (pre.map strV) [strV (107 :: Lib.decDigits x)] rfl rfl _ rfl rfl (by intro u hu; simp at hu; subst hu; rfl) hR5.own (by have := hR5.ext.size; omega) (by omega) ?_; intro g c' w6 hown6 hg6 hat6))
            go_roundw
            case rel => exact ⟨k + 1, y :: ys, pre ++ [107 :: Lib.decDigits x], by omega, by simp at hl3 ⊢; omega, (hR5.put hg6 hown6 hat6).turn ((hR5.put hg6 hown6 hat6).regs.tail2), by have := HGO.out; simpa [textGo] using this, by simpa using hen', by simp; omega, fun z hz => hl16 z (List.mem_cons_of_mem _ hz)⟩
            case measure => rw [HP.out, ((hR5.put hg6 hown6 hat6)).pos]; omega
        · replace hnx : ∀ ty, (Instr.next (.pointer (some ⟨N, 0, none⟩)) true ty).run Tryd.prog wr = .ok (.tuple #[.bool true, .int .i64 k, .int .i32 114]) (wr.iterAt N s (k + 1)) := hnx
          obtain ⟨q, hq, hen'⟩ := enough_reg _ _ (by decide) HEN.out
          obtain ⟨o0, hrv, hc⟩ := hR1.regs
          subst hrv
          rcases l with _ | ⟨x, _ | ⟨y, ys⟩⟩
          · simp at hq
          · obtain rfl : q = 0 := by simp at hq; omega
            have hx16 : x < 16 := hl16 x (by simp)
            have c1 : (wr.iterAt N s (k + 1)).cell? ⟨rb, o0, none⟩ = some (.int .i64 (x : Int)) := hc 0 (by simp)
            clear hc
            have hcat := enc_cat114 x
            have hsz := enc_len114 x (by omega)
            go_wp2_with (first
              | (go_at_call 29; refine (itoa_calls _ x (by omega) (HTB.out.ext hR1.ext)).mono ?_; rintro e w5 ⟨rfl, hx5⟩
                 have hR5 := HRR.out.next hx5)
              | (at_builtin; refine append_one w.heap.size rfl (.tmp 27) (.tmp 35) 60 9 _ 1 16 rfl Tryd.underlying60 info_str rfl (by decide) (by decide) _ pre.length (pre.map strV) [strV (114 :: Lib.decDigits x)] rfl rfl _ rfl rfl (by intro u hu; simp at hu; subst hu; rfl) hR5.own (by have := hR5.ext.size; omega) (by omega) ?_; intro g c' w6 hown6 hg6 hat6))
            go_roundw
            case rel => exact ⟨k + 1, [], pre ++ [114 :: Lib.decDigits x], by omega, by simp, (hR5.put hg6 hown6 hat6).turn ((hR5.put hg6 hown6 hat6).regs.tail1), by have := HGO.out; simpa [textGo] using this, by simpa using hen', by simp; omega, by simp⟩
            case measure => rw [HP.out, ((hR5.put hg6 hown6 hat6)).pos]; omega
          · obtain rfl : q = ys.length + 1 := by simp at hq; omega
            have hx16 : x < 16 := hl16 x (by simp)
            have c1 : (wr.iterAt N s (k + 1)).cell? ⟨rb, o0, none⟩ = some (.int .i64 (x : Int)) := hc 0 (by simp)
            clear hc
            have hcat := enc_cat114 x
            have hsz := enc_len114 x (by omega)
            go_wp2_with (first
              | (go_at_call 29; refine (itoa_calls _ x (by omega) (HTB.out.ext hR1.ext)).mono ?_; rintro e w5 ⟨rfl, hx5⟩
                 have hR5 := HRR.out.next hx5)
              | (at_builtin; refine append_one w.heap.size rfl (.tmp 27) (.tmp 35) 60 9 _ 1 16 rfl Tryd.underlying60 info_str rfl (by decide) (by decide) _ pre.length (pre.map strV) [strV (114 :: Lib.decDigits x)] rfl rfl _ rfl rfl (by intro u hu; simp at hu; subst hu; rfl) hR5.own (by have := hR5.ext.size; omega) (by omega) ?_; intro g c' w6 hown6 hg6 hat6))
            go_roundw
            case rel => exact ⟨k + 1, y :: ys, pre ++ [114 :: Lib.decDigits x], by omega, by simp at hl3 ⊢; omega, (hR5.put hg6 hown6 hat6).turn ((hR5.put hg6 hown6 hat6).regs.tail2), by have := HGO.out; simpa [textGo] using this, by simpa using hen', by simp; omega, fun z hz => hl16 z (List.mem_cons_of_mem _ hz)⟩
            case measure => rw [HP.out, ((hR5.put hg6 hown6 hat6)).pos]; omega
      · obtain rfl : k = s.size := by omega
        have hnx := fun ty => Lib.run_next_end_at (P := Tryd.prog) wr N s s.size ty hit (by omega)
        have hdrop : (formL op).drop s.size = [] := List.drop_eq_nil_of_le (by have := formS_size op; rw [← HS.out] at this; omega)
        have hgo := HGO.out
        rw [hdrop] at hgo
        have hpre : pre = nameW op :: argsW op a b c imm := by simpa [textGo] using hgo
        have HPRE := Lib.hid hpre
        have hown := HRR.out.own
        have hX := HRR.out.ext
        have hn0 : 0 < pre.length := by rw [hpre]; simp
        obtain ⟨g, cg, hvv, hgl, hcap⟩ := own_form hown hn0
        have hblk := own_blk (by rw [hvv] at hown; exact hown)
        have hj := Tryd.strings_Join g 0 cg (pre.map fun x => ⟨x.toArray⟩) ⟨#[32]⟩ wr (fun j x hx => by
          have := hblk.cell j (.string x) (by
            rw [List.getElem?_map] at hx ⊢
            cases hq : pre[j]? with
            | none => rw [hq] at hx; simp at hx
            | some y => rw [hq] at hx; simp at hx; subst hx; rfl)
          simpa using this) hgl (by simp; omega) (by simpa using hcap) (by
            have e : (List.map (fun (x : ByteArray) => x.data.toList) (pre.map fun x => (⟨x.toArray⟩ : ByteArray))) = pre := by simp [List.map_map, Function.comp_def]
            rw [e, hpre]
            have := text_len HK.out
            unfold textW at this
            exact Nat.le_trans this (by omega))
        have hjl : (pre.map fun x => (⟨x.toArray⟩ : ByteArray)).length = pre.length := by simp
        have hje : (Lib.join (List.map (fun (x : ByteArray) => x.data.toList) (pre.map fun x => (⟨x.toArray⟩ : ByteArray))) (⟨#[32]⟩ : ByteArray).data.toList) = textW op a b c imm := by
          have e : (List.map (fun (x : ByteArray) => x.data.toList) (pre.map fun x => (⟨x.toArray⟩ : ByteArray))) = pre := by simp [List.map_map, Function.comp_def]
          rw [e, hpre]; rfl
        rw [hjl, hje] at hj
        have HJ := Lib.hid hj
        subst hvv
        clear hj hjl hje hblk hown hpre hgo hdrop
        go_wp2_with (go_at_call 32; refine HJ.out.mono ?_; rintro e w7 ⟨rfl, hx7⟩)
        go_ret
        exact ⟨rfl, hX.trans (Ext.of_below hx7)⟩
end Go.Proofs.YtgpmhfbkgcljbaaDoor
