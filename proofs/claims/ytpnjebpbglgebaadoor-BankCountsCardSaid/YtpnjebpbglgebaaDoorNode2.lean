/-
  Package node: Make, with keys that may be.
-/
import Derived.Test.YtpnjebpbglgebaaDoorNode
namespace Go.Proofs.YtpnjebpbglgebaaDoor
open Go Go.RowKit

def NodeMade (E : Nat → Addr) (w : World) (L : TabL) (np : List Place) (ns : List (Vector Key 16)) (ks : List Key) (e : Ending) (w' : World) : Prop :=
  Ext [L.p, L.r] w w' ∧
  match freeAt np with
  | none => e = .returned (.tuple #[.int .i64 0, .int .i64 0, errV E 6]) ∧ TabRep keysEnc w' L np ns
  | some i => e = .returned (.tuple #[.int .i64 i, .int .i64 (verOf np i), .nilIface]) ∧ TabRep keysEnc w' L (taken np i) (ns.set i (padK ks))

theorem zero122 : Tryd.zeroCells122.toList = flat Key.enc (List.replicate 16 void) := by kernel_rfl
theorem infoSize_key : (Tryd.prog.info? 44).map (·.size) = some 5 := by kernel_rfl
theorem infoSize_keys16 : (Tryd.prog.info? 122).map (·.size) = some 80 := by kernel_rfl

structure Copied (w2 w3 : World) (cs : List Value) : Prop where
  ext : Ext [] w2 w3
  size : w3.heap.size = w2.heap.size + 1
  blk : Blk w3 w2.heap.size cs

theorem rep_split (a n : Nat) (h : a ≤ n) : List.replicate n void = List.replicate a void ++ List.replicate (n - a) void := by
  rw [List.replicate_append_replicate, show a + (n - a) = n by omega]
theorem drop_pad (a b : Nat) : (flat Key.enc (List.replicate a void ++ List.replicate b void)).drop (a * 5) = flat Key.enc (List.replicate b void) := by
  have hf1 : (flat Key.enc (List.replicate a void)).length = a * 5 := by rw [flat_length Key.len]; simp
  have hf2 : flat Key.enc (List.replicate a void ++ List.replicate b void) = flat Key.enc (List.replicate a void) ++ flat Key.enc (List.replicate b void) := by simp only [flat, List.flatMap_append]
  rw [hf2, List.drop_left' hf1]
theorem copyKeysZ (z : Array Value) (zl : z.toList = flat Key.enc (List.replicate 16 void)) (w2 : World) (v : Value) (ks : List Key) (hk : KeysAt w2 v ks) (hl : ks.length ≤ 16) :
    ∃ w3, (Builtin.copy_ #[39, 39] 3 #[.slice (some ⟨w2.heap.size, 0, none⟩) 16 16, v]).run Tryd.prog (w2.alloc (.cells z 122)) = .ok (goInt ks.length) w3 ∧
      Copied w2 w3 (keysEnc (padK ks)) := by
  have hz : z = (flat Key.enc (List.replicate 16 void)).toArray := by rw [← zl]
  have hzl : (flat Key.enc (List.replicate 16 void)).length = 80 := by rw [flat_length Key.len]; simp
  have hpad : keysEnc (padK ks) = flat Key.enc ks ++ flat Key.enc (List.replicate (16 - ks.length) void) := by
    rw [keysEnc, padK_list ks hl]; simp [flat]
  obtain ⟨A, c, rfl, hc⟩ := hk
  have hx : Ext [] w2 (w2.alloc (.cells z 122)) := (Ext.refl _ _).alloc _
  have hnew : (w2.alloc (.cells z 122)).heap[w2.heap.size]? = some (.cells z 122 (0, 0)) := heap_alloc_new w2 _
  by_cases h0 : ks.length = 0
  · obtain rfl : ks = [] := List.length_eq_zero_iff.1 h0
    refine ⟨_, run_copy_noneK _ _ _ _ _ _ _ _ _ 5 Tryd.underlying39 infoSize_key A c, hx, by simp, ⟨122, [], ?_⟩⟩
    rw [hnew, hpad, hz]; simp [flat]
  · obtain ⟨b, o, rfl, hcc⟩ := hc (by omega)
    have hlen : (flat Key.enc ks).length = ks.length * 5 := flat_length Key.len ks
    refine ⟨_, run_copy_rowK (w2.alloc (.cells z 122)) _ _ _ _ w2.heap.size 0 16 16 ⟨b, o, none⟩ ks.length c 5 ks.length _ _ (flat Key.enc ks) Tryd.underlying39 infoSize_key hnew
      (by show ks.length = Nat.min ks.length 16; exact (Nat.min_eq_left hl).symm) hlen (fun j u hu => ?_) ?_ ?_, ?_⟩
    · rw [Addr.add_mid]; exact hx.cell (hcc j u hu) (by simp)
    · rw [hz]; simp only [List.size_toArray, hzl]; omega
    · intro u hu
      obtain ⟨k, -, hk⟩ := List.mem_flatMap.1 hu
      simp [Key.enc] at hk
      rcases hk with rfl | rfl | rfl | rfl | rfl <;> rfl
    · have hb := setRow_heap (w2.alloc (.cells z 122)) w2.heap.size _ (List.take 0 z.toList ++ flat Key.enc ks ++ List.drop (0 + (flat Key.enc ks).length) z.toList).toArray _ _ hnew
      refine ⟨?_, ?_, ⟨122, [], ?_⟩⟩
      · refine ⟨rfl, rfl, rfl, ?_, ?_⟩
        · simp [World.setRow]
        · intro k hk hd
          simp only [World.setRow]
          rw [Array.getElem?_modify, if_neg (by omega)]
          exact hx.block k hk hd
      · simp [World.setRow]
      · rw [hb, hpad, zl]
        simp only [List.take_zero, List.nil_append, Nat.zero_add, List.append_nil, hlen]
        congr 3
        rw [rep_split ks.length 16 hl]
        rw [drop_pad]
theorem copyKeys (w2 : World) (v : Value) (ks : List Key) (hk : KeysAt w2 v ks) (hl : ks.length ≤ 16) :
    ∃ w3, (Builtin.copy_ #[39, 39] 3 #[.slice (some ⟨w2.heap.size, 0, none⟩) 16 16, v]).run Tryd.prog (w2.alloc (.cells Tryd.zeroCells122 122)) = .ok (goInt ks.length) w3 ∧
      Copied w2 w3 (keysEnc (padK ks)) := copyKeysZ _ zero122 w2 v ks hk hl

theorem one_flat_key' (l : List Key) : ∀ u ∈ flat Key.enc l, u.oneCell' = true := by
  intro u hu
  obtain ⟨k, -, hk⟩ := List.mem_flatMap.1 hu
  simp [Key.enc] at hk
  rcases hk with rfl | rfl | rfl | rfl | rfl <;> rfl
theorem keys_ext {D : List Nat} {w w' : World} (hx : Ext D w w') {v : Value} {ks : List Key} (h : KeysAt w v ks) (hd : ∀ b ∈ D, ∀ o n c, v ≠ .slice (some ⟨b, o, none⟩) n c) : KeysAt w' v ks := by
  obtain ⟨A, c, rfl, h⟩ := h
  refine ⟨A, c, rfl, fun hp => ?_⟩
  obtain ⟨b, o, rfl, hc⟩ := h hp
  exact ⟨b, o, rfl, fun j u hu => hx.cell (hc j u hu) (fun hm => hd b hm _ _ _ rfl)⟩

set_option maxRecDepth 100000 in
set_option maxHeartbeats 3200000 in
theorem nodeMake_ok {K : List Nat} {B0 : Nat} {E : Nat → Addr} (w : World) (L : TabL) (np : List Place) (ns : List (Vector Key 16)) (v : Value) (ks : List Key) (h : TabRep keysEnc w L np ns) (hk : KeysAt w v ks) (hl : ks.length ≤ 16) (hv : ∀ k ∈ ks, ValidOk k) (hvp : ∀ o n c, v ≠ .slice (some ⟨L.p, o, none⟩) n c)
    (he : Errs K B0 E w) (h6 : 6 ∈ K) :
    Calls Tryd.prog 32 #[ptr L.h, v] w (NodeMade E w L np ns ks) := by
  have nd := h.nd
  simp only [TabL.fp, List.nodup_cons, List.mem_cons, List.mem_nil_iff, or_false, not_or] at nd
  have ht := h.arena
  obtain ⟨cap, hh⟩ := h.hdr
  have HH := Lib.hid hh
  have H := Lib.hid h
  clear h
  cases hf : freeAt np with
  | none =>
    go_enter Tryd.func32, Tryd.ntmps32
    go_wp2_with (first
      | (go_at_call 30; refine (fits_ok _ _ ks hk hl hv).mono ?_; rintro e w1 ⟨rfl, hx⟩; have d0 := (hx.blk HH.out (by simp)).cell 0 _ rfl; have hA := ht.ext hx (by simp) (by simp))
      | (go_at_call 50; refine (take_calls _ _ _ _ hA (he.ext hx (by simp)) h6).mono ?_; rintro e w2 ⟨hx2, hp2⟩; rw [hf] at hp2; obtain ⟨rfl, hA2⟩ := hp2))
    go_ret3
    have hx3 : Ext [L.p] w w2 := hx.nil.trans hx2
    refine ⟨hx3.mono (by simp), ?_⟩
    rw [hf]
    exact ⟨rfl, ⟨cap, hx3.blk HH.out (by simp; omega)⟩, hA2, hx3.blk H.out.rows (by simp; omega), H.out.len, H.out.nd⟩
  | some i =>
    obtain ⟨hi, hi1, hi2⟩ := freeAt_lt hf
    have hin : i < ns.length := by have := H.out.len; omega
    go_enter Tryd.func32, Tryd.ntmps32
    go_wp2_with (first
      | (go_at_call 30; refine (fits_ok _ _ ks hk hl hv).mono ?_; rintro e w1 ⟨rfl, hx⟩; have d0 := (hx.blk HH.out (by simp)).cell 0 _ rfl; have hA := ht.ext hx (by simp) (by simp))
      | (go_at_call 50; refine (take_calls _ _ _ _ hA (he.ext hx (by simp)) h6).mono ?_; rintro e w2 ⟨hx2, hp2⟩; rw [hf] at hp2; obtain ⟨rfl, hA2⟩ := hp2
         have hx3 : Ext [L.p] w w2 := hx.nil.trans hx2
         obtain ⟨w3, hrun, hcp⟩ := copyKeys w2 v ks (keys_ext hx3 hk (fun b hb => by simp at hb; subst hb; exact hvp)) hl
         have hX := hx3.trans hcp.ext.nil
         have d1 := (hX.blk HH.out (by simp; omega)).cell 1 _ rfl))
    have hB := hcp.blk
    have hr3 : Blk w3 L.r (flat keysEnc ns) := hX.blk H.out.rows (by simp; omega)
    have hLn : np.length = ns.length := H.out.len.symm
    obtain ⟨cs, hcs⟩ : ∃ cs, cs = keysEnc (padK ks) := ⟨_, rfl⟩
    have hlc : cs.length = 80 := by rw [hcs, keysLen]
    have h1 : ∀ u ∈ cs, u.oneCell' = true := by rw [hcs]; exact one_flat_key' _
    have hu := Tryd.underlying122
    have hinf : (Tryd.prog.info? 122).map (·.size) = some cs.length := by rw [infoSize_keys16, hlc]
    rw [← hcs] at hB
    have hrg : w3.rangeAt w2.heap.size 0 cs := fun j u hu => by have := hB.cell j u hu; simpa using this
    have htr : w3.there L.r (i * 80) 80 := hr3.thereW _ _ (by rw [flat_length keysLen]; have : (i + 1) * 80 ≤ ns.length * 80 := Nat.mul_le_mul_right _ hin; omega)
    have hL1 : L.r < w2.heap.size := Nat.lt_of_lt_of_le (H.out.lt L.r (by simp [TabL.fp])) hx3.size
    have HC := Lib.hid hcs
    clear hcs
    go_region_held3 (fun w' => w'.rangeAt w2.heap.size 0 cs ∧ w'.there L.r (i * 80) 80 ∧ w'.cell? ⟨L.h, 1, none⟩ = some (.slice (some ⟨L.r, 0, none⟩) np.length cap))
      (first
        | exact ⟨hrg, htr, d1⟩
        | exact ⟨World.rangeAt_setCells_apart (w := w3.drew) hrg L.r (i * 80) cs (.inl (by omega)), World.there_setCells (w := w3.drew) htr L.r (i * 80) cs, by rw [World.cell?_setCells_out _ _ _ _ _ (fun hb _ => by simp at hb; omega)]; exact d1⟩) (fail)
    go_wp2
    go_ret3
    have hxs : Ext [L.p, L.r] w (w3.drew.setCells L.r (i * 80) cs) := Ext.setCells ((hX.mono (by simp)).drew) (.inl (by simp)) _ _
    have hxr : Ext [L.r] w2 (w3.drew.setCells L.r (i * 80) cs) := Ext.setCells (hcp.ext.nil.drew) (.inl (by simp)) _ _
    have hx0 : Ext [L.p, L.r] w w2 := hx3.mono (by simp)
    refine ⟨hxs, ?_⟩
    rw [hf]
    refine ⟨rfl, ⟨cap, ?_⟩, hA2.ext hxr (by simp; omega) (by simp; omega), ?_, ?_, H.out.nd⟩
    · rw [taken_length]; exact hxs.blk HH.out (by simp; omega)
    · rw [HC.out]
      exact (hr3.drew).putAll keysLen i hin (padK ks)
    · rw [List.length_set, taken_length]; exact hLn.symm
end Go.Proofs.YtpnjebpbglgebaaDoor
