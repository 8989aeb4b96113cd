/-
  Package page: Make.
-/
import Derived.Test.YtpnjebpbglgebaaDoorNode2
namespace Go.Proofs.YtpnjebpbglgebaaDoor
open Go Go.RowKit

@[reducible] def u32v (x : Int) : Value := .int .u32 x
/-- The slice v holds the words ws. -/
def WordsAt (w : World) (v : Value) (ws : List Int) : Prop :=
  ∃ A c, v = .slice A ws.length c ∧ (0 < ws.length → ∃ b o, A = some ⟨b, o, none⟩ ∧ ∀ (j : Nat) (u : Value), (ws.map u32v)[j]? = some u → w.cell? ⟨b, o + j, none⟩ = some u)
theorem WordsAt.nil (w : World) : WordsAt w (.slice none 0 0) [] := ⟨none, 0, rfl, fun h => by simp at h⟩
theorem WordsAt.ext {D : List Nat} {w w' : World} (hx : Ext D w w') {v : Value} {ws : List Int} (h : WordsAt w v ws) (hd : ∀ b ∈ D, ∀ o n c, v ≠ .slice (some ⟨b, o, none⟩) n c) : WordsAt w' v ws := by
  obtain ⟨A, c, rfl, h⟩ := h
  refine ⟨A, c, rfl, fun hp => ?_⟩
  obtain ⟨b, o, rfl, hc⟩ := h hp
  exact ⟨b, o, rfl, fun j u hu => hx.cell (hc j u hu) (fun hm => hd b hm _ _ _ rfl)⟩

def padW (ws : List Int) : Vector Int 32 := Vector.ofFn fun i => ws[i.val]?.getD 0
theorem padW_list (ws : List Int) (h : ws.length ≤ 32) : (padW ws).toList = ws ++ List.replicate (32 - ws.length) 0 := by
  apply List.ext_getElem?
  intro i
  by_cases hi : i < 32
  · simp only [padW, Vector.toList_ofFn]
    rw [List.getElem?_eq_getElem (by simpa using hi), List.getElem_ofFn]
    by_cases h2 : i < ws.length
    · rw [List.getElem?_append_left h2]; simp [List.getElem?_eq_getElem h2]
    · have hn : ws[i]? = none := List.getElem?_eq_none (by omega)
      rw [List.getElem?_append_right (by omega)]
      simp [hn, List.getElem?_replicate]; omega
  · rw [List.getElem?_eq_none (by simp; omega), List.getElem?_eq_none (by simp; omega)]

theorem zeroW : (#[Value.int .u32 0, Value.int .u32 0, Value.int .u32 0, Value.int .u32 0, Value.int .u32 0, Value.int .u32 0, Value.int .u32 0, Value.int .u32 0, Value.int .u32 0, Value.int .u32 0, Value.int .u32 0, Value.int .u32 0, Value.int .u32 0, Value.int .u32 0, Value.int .u32 0, Value.int .u32 0, Value.int .u32 0, Value.int .u32 0, Value.int .u32 0, Value.int .u32 0, Value.int .u32 0, Value.int .u32 0, Value.int .u32 0, Value.int .u32 0, Value.int .u32 0, Value.int .u32 0, Value.int .u32 0, Value.int .u32 0, Value.int .u32 0, Value.int .u32 0, Value.int .u32 0, Value.int .u32 0] : Array Value).toList = List.replicate 32 (u32v 0) := rfl
theorem infoSize_u32 : (Tryd.prog.info? 42).map (·.size) = some 1 := by kernel_rfl
theorem infoSize_words32 : (Tryd.prog.info? 123).map (·.size) = some 32 := by kernel_rfl

theorem copyWordsZ (z : Array Value) (zl : z.toList = List.replicate 32 (u32v 0)) (w2 : World) (v : Value) (ws : List Int) (hk : WordsAt w2 v ws) (hl : ws.length ≤ 32) :
    ∃ w3, (Builtin.copy_ #[88, 88] 3 #[.slice (some ⟨w2.heap.size, 0, none⟩) 32 32, v]).run Tryd.prog (w2.alloc (.cells z 123)) = .ok (goInt ws.length) w3 ∧
      Copied w2 w3 (wordsEnc (padW ws)) := by
  have hz : z = (List.replicate 32 (u32v 0)).toArray := by rw [← zl]
  have hpad : wordsEnc (padW ws) = ws.map u32v ++ List.replicate (32 - ws.length) (u32v 0) := by
    rw [wordsEnc, padW_list ws hl]; simp [u32v]
  obtain ⟨A, c, rfl, hc⟩ := hk
  have hx : Ext [] w2 (w2.alloc (.cells z 123)) := (Ext.refl _ _).alloc _
  have hnew : (w2.alloc (.cells z 123)).heap[w2.heap.size]? = some (.cells z 123 (0, 0)) := heap_alloc_new w2 _
  by_cases h0 : ws.length = 0
  · obtain rfl : ws = [] := List.length_eq_zero_iff.1 h0
    refine ⟨_, run_copy_noneK _ _ _ _ _ _ _ _ _ 1 Tryd.underlying88 infoSize_u32 A c, hx, by simp, ⟨123, [], ?_⟩⟩
    rw [hnew, hpad, hz]; rfl
  · obtain ⟨b, o, rfl, hcc⟩ := hc (by omega)
    have hlen : (ws.map u32v).length = ws.length := by simp
    refine ⟨_, run_copy_rowK (w2.alloc (.cells z 123)) _ _ _ _ w2.heap.size 0 32 32 ⟨b, o, none⟩ ws.length c 1 ws.length _ _ (ws.map u32v) Tryd.underlying88 infoSize_u32 hnew
      (by show ws.length = Nat.min ws.length 32; exact (Nat.min_eq_left hl).symm) (by omega) (fun j u hu => ?_) ?_ ?_, ?_⟩
    · rw [Addr.add_mid]; exact hx.cell (hcc j u hu) (by simp)
    · rw [hz]; simp; omega
    · intro u hu
      obtain ⟨k, -, hk⟩ := List.mem_map.1 hu
      subst hk; rfl
    · have hb := setRow_heap (w2.alloc (.cells z 123)) w2.heap.size _ (List.take 0 z.toList ++ ws.map u32v ++ List.drop (0 + (ws.map u32v).length) z.toList).toArray _ _ hnew
      refine ⟨?_, ?_, ⟨123, [], ?_⟩⟩
      · refine ⟨rfl, rfl, rfl, ?_, ?_⟩
        · simp [World.setRow]
        · intro k hk hd
          simp only [World.setRow]
          rw [Array.getElem?_modify, if_neg (by omega)]
          exact hx.block k hk hd
      · simp [World.setRow]
      · rw [hb, hpad, zl]
        simp only [List.take_zero, List.nil_append, Nat.zero_add, List.append_nil, hlen, List.drop_replicate]
theorem copyWords (w2 : World) (v : Value) (ws : List Int) (hk : WordsAt w2 v ws) (hl : ws.length ≤ 32) :
    ∃ w3, (Builtin.copy_ #[88, 88] 3 #[.slice (some ⟨w2.heap.size, 0, none⟩) 32 32, v]).run Tryd.prog (w2.alloc (.cells #[Value.int .u32 0, Value.int .u32 0, Value.int .u32 0, Value.int .u32 0, Value.int .u32 0, Value.int .u32 0, Value.int .u32 0, Value.int .u32 0, Value.int .u32 0, Value.int .u32 0, Value.int .u32 0, Value.int .u32 0, Value.int .u32 0, Value.int .u32 0, Value.int .u32 0, Value.int .u32 0, Value.int .u32 0, Value.int .u32 0, Value.int .u32 0, Value.int .u32 0, Value.int .u32 0, Value.int .u32 0, Value.int .u32 0, Value.int .u32 0, Value.int .u32 0, Value.int .u32 0, Value.int .u32 0, Value.int .u32 0, Value.int .u32 0, Value.int .u32 0, Value.int .u32 0, Value.int .u32 0] 123)) = .ok (goInt ws.length) w3 ∧
      Copied w2 w3 (wordsEnc (padW ws)) := copyWordsZ _ zeroW w2 v ws hk hl
theorem one_words {n : Nat} (v : Vector Int n) : ∀ u ∈ wordsEnc v, u.oneCell' = true := by
  intro u hu
  obtain ⟨k, -, hk⟩ := List.mem_map.1 hu
  subst hk; rfl

def PageMade (E : Nat → Addr) (w : World) (L : TabL) (np : List Place) (ns : List (Vector Int 32)) (ws : List Int) (e : Ending) (w' : World) : Prop :=
  Ext [L.p, L.r] w w' ∧
  match freeAt np with
  | none => e = .returned (.tuple #[.int .i64 0, .int .i64 0, errV E 6]) ∧ TabRep wordsEnc w' L np ns
  | some i => e = .returned (.tuple #[.int .i64 i, .int .i64 (verOf np i), .nilIface]) ∧ TabRep wordsEnc w' L (taken np i) (ns.set i (padW ws))

set_option maxRecDepth 100000 in
set_option maxHeartbeats 3200000 in
theorem pageMake_ok {K : List Nat} {B0 : Nat} {E : Nat → Addr} (w : World) (L : TabL) (np : List Place) (ns : List (Vector Int 32)) (v : Value) (ws : List Int) (h : TabRep wordsEnc w L np ns) (hk : WordsAt w v ws) (hl : ws.length ≤ 32) (hvp : ∀ o n c, v ≠ .slice (some ⟨L.p, o, none⟩) n c)
    (he : Errs K B0 E w) (h6 : 6 ∈ K) :
    Calls Tryd.prog 34 #[ptr L.h, v] w (PageMade E w L np ns ws) := by
  have nd := h.nd
  simp only [TabL.fp, List.nodup_cons, List.mem_cons, List.mem_nil_iff, or_false, not_or] at nd
  have ht := h.arena
  obtain ⟨cap, hh⟩ := h.hdr
  have HH := Lib.hid hh
  have d0 := hh.cell 0 _ rfl
  have H := Lib.hid h
  clear h
  obtain ⟨A0, c0, rfl, hcw⟩ := hk
  have hk : WordsAt w (.slice A0 ws.length c0) ws := ⟨A0, c0, rfl, hcw⟩
  cases hf : freeAt np with
  | none =>
    go_enter Tryd.func34, Tryd.ntmps34
    go_wp2_with (first
      | (go_at_call 50; refine (take_calls _ _ _ _ ht he h6).mono ?_; rintro e w2 ⟨hx2, hp2⟩; rw [hf] at hp2; obtain ⟨rfl, hA2⟩ := hp2))
    go_ret3
    have hx3 : Ext [L.p] w w2 := hx2
    refine ⟨hx3.mono (by simp), ?_⟩
    rw [hf]
    exact ⟨rfl, ⟨cap, hx3.blk HH.out (by simp; omega)⟩, hA2, hx3.blk H.out.rows (by simp; omega), H.out.len, H.out.nd⟩
  | some i =>
    obtain ⟨hi, hi1, hi2⟩ := freeAt_lt hf
    have hin : i < ns.length := by have := H.out.len; omega
    go_enter Tryd.func34, Tryd.ntmps34
    go_wp2_with (first
      | (go_at_call 50; refine (take_calls _ _ _ _ ht he h6).mono ?_; rintro e w2 ⟨hx2, hp2⟩; rw [hf] at hp2; obtain ⟨rfl, hA2⟩ := hp2
         have hx3 : Ext [L.p] w w2 := hx2
         obtain ⟨w3, hrun, hcp⟩ := copyWords w2 (.slice A0 ws.length c0) ws (WordsAt.ext hx3 hk (fun b hb => by simp at hb; subst hb; exact hvp)) hl
         have hX := hx3.trans hcp.ext.nil
         have d1 := (hX.blk HH.out (by simp; omega)).cell 1 _ rfl))
    have hB := hcp.blk
    have hr3 : Blk w3 L.r (flat wordsEnc ns) := hX.blk H.out.rows (by simp; omega)
    have hLn : np.length = ns.length := H.out.len.symm
    obtain ⟨cs, hcs⟩ : ∃ cs, cs = wordsEnc (padW ws) := ⟨_, rfl⟩
    have hlc : cs.length = 32 := by rw [hcs, wordsLen]
    have h1 : ∀ u ∈ cs, u.oneCell' = true := by rw [hcs]; exact one_words _
    have hu := Tryd.underlying123
    have hinf : (Tryd.prog.info? 123).map (·.size) = some cs.length := by rw [infoSize_words32, hlc]
    rw [← hcs] at hB
    have hrg : w3.rangeAt w2.heap.size 0 cs := fun j u hu => by have := hB.cell j u hu; simpa using this
    have htr : w3.there L.r (i * 32) 32 := hr3.thereW _ _ (by rw [flat_length wordsLen]; have : (i + 1) * 32 ≤ ns.length * 32 := Nat.mul_le_mul_right _ hin; omega)
    have hL1 : L.r < w2.heap.size := Nat.lt_of_lt_of_le (H.out.lt L.r (by simp [TabL.fp])) hx3.size
    have HC := Lib.hid hcs
    clear hcs
    go_region_held3 (fun w' => w'.rangeAt w2.heap.size 0 cs ∧ w'.there L.r (i * 32) 32 ∧ w'.cell? ⟨L.h, 1, none⟩ = some (.slice (some ⟨L.r, 0, none⟩) np.length cap))
      (first
        | exact ⟨hrg, htr, d1⟩
        | exact ⟨World.rangeAt_setCells_apart (w := w3.drew) hrg L.r (i * 32) cs (.inl (by omega)), World.there_setCells (w := w3.drew) htr L.r (i * 32) cs, by rw [World.cell?_setCells_out _ _ _ _ _ (fun hb _ => by simp at hb; omega)]; exact d1⟩) (fail)
    go_wp2
    go_ret3
    have hxs : Ext [L.p, L.r] w (w3.drew.setCells L.r (i * 32) cs) := Ext.setCells ((hX.mono (by simp)).drew) (.inl (by simp)) _ _
    have hxr : Ext [L.r] w2 (w3.drew.setCells L.r (i * 32) cs) := Ext.setCells (hcp.ext.nil.drew) (.inl (by simp)) _ _
    have hx0 : Ext [L.p, L.r] w w2 := hx3.mono (by simp)
    refine ⟨hxs, ?_⟩
    rw [hf]
    refine ⟨rfl, ⟨cap, ?_⟩, hA2.ext hxr (by simp; omega) (by simp; omega), ?_, ?_, H.out.nd⟩
    · rw [taken_length]; exact hxs.blk HH.out (by simp; omega)
    · rw [HC.out]
      exact (hr3.drew).putAll wordsLen i hin (padW ws)
    · rw [List.length_set, taken_length]; exact hLn.symm
end Go.Proofs.YtpnjebpbglgebaaDoor
