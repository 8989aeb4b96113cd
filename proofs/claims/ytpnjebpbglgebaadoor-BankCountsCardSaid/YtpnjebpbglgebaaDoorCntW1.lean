/-
  The statement BankCounts: the walk.
-/
import Derived.Test.YtpnjebpbglgebaaDoorCntW0
import Derived.IntWalk
namespace Go.Proofs.YtpnjebpbglgebaaDoor
open Go Go.RowKit

set_option maxRecDepth 100000 in
set_option maxHeartbeats 3200000 in
theorem counts_other {K : List Nat} {B0 : Nat} {E : Nat → Addr} (w : World) (A0 A1 A2 : Option Addr) (n0 n1 n2 c0 c1 c2 : Nat) (he : Errs K B0 E w) (hK : All12 K) (h : 5 < n0 ∨ (n0 ≤ 5 ∧ 6 < n1) ∨ (n0 ≤ 5 ∧ n1 ≤ 6 ∧ 40 < n2)) :
    Calls Tryd.prog 3 #[.slice A0 n0 c0, .slice A1 n1 c1, .slice A2 n2 c2] w fun e w' => e = .returned (.bool true) ∧ Ext [] w w' := by
  rcases h with h | ⟨h1, h⟩ | ⟨h1, h2, h⟩
  all_goals
    go_enter Tryd.func3, Tryd.ntmps3
    go_wp2_with fail
    refine (first18_calls _ he hK).mono ?_
    rintro e w1 ⟨rfl, hx⟩
    go_wp2
    go_ret
    exact ⟨rfl, hx⟩

theorem ext_fresh {D : List Nat} {w wr w' : World} (h : Ext [] w wr) (hx : Ext D wr w') (hd : ∀ b ∈ D, w.heap.size ≤ b) : Ext [] w w' := h.then hx (fun x hm => .inr (hd x hm))
theorem number20_calls (w : World) (x : Int) : Calls Tryd.prog 7 #[.int .i64 x, .int .i64 20] w fun e w' => e = .returned (.int .i64 (numOf x 20)) ∧ w = w' := number_calls w x 20 (by omega) (by omega)
/-- One bank more. -/
theorem made_step {E : Nat → Addr} {w wr w' : World} {L : BankL} {LM : MemL} {LD : DomL} {B : BanksS} {M : MemS} {dp : List Place} {ds : List DomS} {k : Nat} {p l : Int} {d : Bool} {e : Ending} (hT : TrioRep wr L LM LD B M dp ds) (hX : Ext [] w wr) (hf : ∀ x ∈ L.fp, w.heap.size ≤ x)
    (hC : Cnt k B M dp) (h0 : B.own = []) (hk : k < 8) (hp : -1 ≤ p ∧ p < k) (hl : 0 ≤ l ∧ l ≤ 512) (hd : d = false) (h : MadePost E wr L LM.m LD.t.h (madeR B p l d) e w') :
    e = .returned (.tuple #[.int .i64 k, .int .i64 (verOf B.bp k), .nilIface]) ∧ ∃ B', Cnt (k + 1) B' M dp ∧ B'.own = [] ∧ TrioRep w' L LM LD B' M dp ds ∧ Ext [] w w' := by
  have hfree : freeAt B.bp = some k := by rw [hC.g.pl]; exact free_places k hk
  rw [madeR_ok hfree p l hl d hd] at h
  obtain ⟨rfl, hx, hb⟩ := h
  have hd2 : ∀ b ∈ [L.t.p, L.t.r], b ∈ L.fp := fun b hb => L.mem_t (TabL.two b hb)
  exact ⟨rfl, _, hC.made h0 hk p l hp hl, h0, hT.banTurn hx hd2 hb, ext_fresh hX hx (fun b hb => hf b (hd2 b hb))⟩

set_option maxRecDepth 100000 in
set_option maxHeartbeats 12800000 in
theorem counts_main {K : List Nat} {B0 : Nat} {E : Nat → Addr} (w : World) (A0 A1 A2 : Option Addr) (xs ys zs : List Int) (c0 c1 c2 : Nat) (he : Errs K B0 E w) (hK : All12 K)
    (h0 : IntsAt w (.slice A0 xs.length c0) xs) (h1 : IntsAt w (.slice A1 ys.length c1) ys) (h2 : IntsAt w (.slice A2 zs.length c2) zs) (l0 : xs.length ≤ 5) (l1 : ys.length ≤ 6) (l2 : zs.length ≤ 40) :
    Calls Tryd.prog 3 #[.slice A0 xs.length c0, .slice A1 ys.length c1, .slice A2 zs.length c2] w fun e w' => e = .returned (.bool true) ∧ Ext [] w w' := by
  have k3 := hK 3 (by omega) (by omega)
  have k4 := hK 4 (by omega) (by omega)
  have k5 := hK 5 (by omega) (by omega)
  have k6 := hK 6 (by omega) (by omega)
  have k7 := hK 7 (by omega) (by omega)
  have HE := Lib.hid he
  have HK := Lib.hid hK
  have H0 := Lib.hid h0
  have H1 := Lib.hid h1
  have H2 := Lib.hid h2
  clear he hK h0 h1 h2
  go_enter Tryd.func3, Tryd.ntmps3
  go_wp2_with fail
  refine (first18_calls _ HE.out HK.out).mono ?_
  rintro e w1 ⟨rfl, hx1⟩
  go_wp2_with fail
  refine (made18_calls _ 30 30 8 8 (by omega) (by omega) (by omega) (by omega)).mono ?_
  rintro e w2 ⟨L, LM, LD, rfl, hT, hx2, hf⟩
  have hX2 := hx1.trans hx2
  have hfr : ∀ x ∈ L.fp ++ (LM.fp ++ LD.fp), w.heap.size ≤ x := fun x hx => Nat.le_trans hx1.size (hf x hx)
  have HF := Lib.hid hfr
  have HT := Lib.hid hT
  clear hf hfr hT hx1 hx2
  go_wp2_with fail
  go_loopw [11, 12] (fun t11 t12 wr => ∃ (k : Nat) (B : BanksS), k ≤ xs.length + 1 ∧ t11 = .int .i64 k ∧ t12 = .int .i64 k ∧ Cnt k B (MemS.new 30 30 4) (List.replicate 8 default) ∧ B.own = [] ∧ TrioRep wr L LM LD B (MemS.new 30 30 4) (List.replicate 8 default) (List.replicate 8 default) ∧ Ext [] w wr)
    (fun _ t12 _ => xs.length + 1 - (intOf t12).toNat)
  case atStart => exact ⟨0, BanksS.new 8, by omega, rfl, rfl, cnt_new, rfl, HT.out, hX2⟩
  case round =>
    obtain ⟨k, B, hk, rfl, rfl, hC, hown, hT, hX⟩ := hrel
    have HC := Lib.hid hC
    have HO := Lib.hid hown
    have HT' := Lib.hid hT
    clear hC hown hT
    have hfl : ∀ x ∈ L.fp, w.heap.size ≤ x := fun x hx => HF.out x (List.mem_append_left _ hx)
    have HFL := Lib.hid hfl
    clear hfl
    by_cases hlt : k < xs.length + 1
    · by_cases hk0 : k = 0
      · subst hk0
        by_cases hy : 0 < ys.length
        · obtain ⟨A, c, hA, hc⟩ := H1.out
          simp only [Value.slice.injEq] at hA
          obtain ⟨rfl, -, rfl⟩ := hA
          obtain ⟨b, o, rfl, hcc⟩ := hc hy
          have cy : wr.cell? ⟨b, o, none⟩ = some (.int .i64 ys[0]) := hX.cell (hcc 0 hy) (by simp)
          have hbd := numOf_bd ys[0] 20 (by omega)
          generalize ys[0] = y at *
          clear hc hcc
          go_wp2_with (first
            | (go_at_call 7; refine (number20_calls _ y).mono ?_; rintro e w3 ⟨rfl, rfl⟩)
            | (go_at_call 8
               refine (root_calls _ L LM.m LD.t.h B (numOf y 20) HT'.out.ban (HE.out.ext hX (by simp)) k3 k4 k6).mono ?_
               intro e w4 hp4; obtain ⟨rfl, B', hC', hO', hT4, hX4⟩ := made_step HT'.out hX HFL.out HC.out HO.out (by omega) (by omega) (by omega) rfl hp4))
          go_roundw
          case rel => exact ⟨1, B', by omega, rfl, rfl, hC', hO', hT4, hX4⟩
          case measure => simp [intOf]
        · go_wp2_with (first
            | (go_at_call 8
               refine (root_calls _ L LM.m LD.t.h B 20 HT'.out.ban (HE.out.ext hX (by simp)) k3 k4 k6).mono ?_
               intro e w4 hp4; obtain ⟨rfl, B', hC', hO', hT4, hX4⟩ := made_step HT'.out hX HFL.out HC.out HO.out (by omega) (by omega) (by omega) rfl hp4))
          go_roundw
          case rel => exact ⟨1, B', by omega, rfl, rfl, hC', hO', hT4, hX4⟩
          case measure => simp [intOf]
      · obtain ⟨A, c, hA, hc⟩ := H0.out
        simp only [Value.slice.injEq] at hA
        obtain ⟨rfl, -, rfl⟩ := hA
        obtain ⟨b0, o0, rfl, hcc⟩ := hc (by omega)
        have cx := hX.cell (hcc (k - 1) (by omega)) (by simp)
        have ex : ((k : Int) - 1).toNat = k - 1 := by omega
        have cx' : wr.cell? ⟨b0, o0 + ((k : Int) - 1).toNat, none⟩ = some (.int .i64 xs[k - 1]) := by rw [ex]; exact cx
        have hbx := numOf_bd xs[k - 1] k (by omega)
        generalize xs[k - 1] = x at *
        clear hc hcc ex
        have hthere : there B.bp (numOf x k) = true := by rw [HC.out.g.thr]; simp; omega
        obtain ⟨l, hcl, hll⟩ := HC.out.g.chain k (numOf x k) (by omega) (by omega) (by omega)
        have hd8 : decide (8 ≤ l.length) = false := by simp; omega
        have HCL := Lib.hid hcl
        have HTH := Lib.hid hthere
        have HD8 := Lib.hid hd8
        clear hcl hthere hd8
        by_cases hy : k < ys.length
        · obtain ⟨A, c, hA, hc⟩ := H1.out
          simp only [Value.slice.injEq] at hA
          obtain ⟨rfl, -, rfl⟩ := hA
          obtain ⟨b, o, rfl, hcc⟩ := hc (by omega)
          have cy := hX.cell (hcc k hy) (by simp)
          have hbd := numOf_bd ys[k] 20 (by omega)
          generalize ys[k] = y at *
          clear hc hcc
          go_wp2_with (first
            | (go_at_call_of 7 (Value.int .i64 y); refine (number20_calls _ y).mono ?_; rintro e w3 ⟨rfl, rfl⟩)
            | (go_at_call_of 7 (Value.int .i64 x); refine (number_calls _ x k (by omega) (by omega)).mono ?_; rintro e w3 ⟨rfl, rfl⟩)
            | (go_at_call 9
               refine (sub_calls _ L LM.m LD.t.h B (numOf x k) (numOf y 20) l HT'.out.ban HCL.out.is (by omega) HTH.out (HE.out.ext hX (by simp)) k3 k4 k6).mono ?_
               intro e w4 hp4; obtain ⟨rfl, B', hC', hO', hT4, hX4⟩ := made_step HT'.out hX HFL.out HC.out HO.out (by omega) (by omega) (by omega) HD8.out hp4))
          go_roundw
          case rel => exact ⟨k + 1, B', by omega, by go_num, by go_num, hC', hO', hT4, hX4⟩
          case measure => simp [intOf]; omega
        · go_wp2_with (first
            | (go_at_call_of 7 (Value.int .i64 x); refine (number_calls _ x k (by omega) (by omega)).mono ?_; rintro e w3 ⟨rfl, rfl⟩)
            | (go_at_call 9
               refine (sub_calls _ L LM.m LD.t.h B (numOf x k) 20 l HT'.out.ban HCL.out.is (by omega) HTH.out (HE.out.ext hX (by simp)) k3 k4 k6).mono ?_
               intro e w4 hp4; obtain ⟨rfl, B', hC', hO', hT4, hX4⟩ := made_step HT'.out hX HFL.out HC.out HO.out (by omega) (by omega) (by omega) HD8.out hp4))
          go_roundw
          case rel => exact ⟨k + 1, B', by omega, by go_num, by go_num, hC', hO', hT4, hX4⟩
          case measure => simp [intOf]; omega
    · have hk6 : k ≤ 6 := by omega
      have hk1 : 1 ≤ k := by omega
      clear hk
      obtain ⟨M, hM⟩ : ∃ M, M = MemS.new 30 30 4 := ⟨_, rfl⟩
      have hC1 := HC.out
      have hT1 := HT'.out
      rw [← hM] at hC1 hT1
      have HC1 := Lib.hid hC1
      have HT1 := Lib.hid hT1
      clear hM hC1 hT1 HO HC HT'
      have hdk : decide (k ≤ xs.length) = false := by simp; omega
      go_wp2_with fail
      clear hlt hdk
      go_loopw [15] (fun t15 wr => ∃ (j : Nat) (B : BanksS) (M : MemS), j ≤ zs.length ∧ t15 = .int .i64 j ∧ Cnt k B M (List.replicate 8 default) ∧ TrioRep wr L LM LD B M (List.replicate 8 default) (List.replicate 8 default) ∧ Ext [] w wr) (fun t15 _ => zs.length - (intOf t15).toNat)
      case atStart => exact ⟨0, B, M, by omega, rfl, HC1.out, HT1.out, hX⟩
      case round =>
        clear HC1 HT1 hX
        obtain ⟨j, B, M, hj, rfl, hC, hT, hX⟩ := hrel
        have HC := Lib.hid hC
        have HT := Lib.hid hT
        clear hC hT
        by_cases hlt : j < zs.length
        · obtain ⟨A, c, hA, hc⟩ := H2.out
          simp only [Value.slice.injEq] at hA
          obtain ⟨rfl, -, rfl⟩ := hA
          obtain ⟨b, o, rfl, hcc⟩ := hc (by omega)
          have cz := hX.cell (hcc j hlt) (by simp)
          have hbz := numOf_bd zs[j] k (by omega)
          generalize zs[j] = z at *
          clear hc hcc
          obtain ⟨a, ha⟩ := Int.eq_ofNat_of_zero_le hbz.1
          have hak : a < k := by omega
          have HA := Lib.hid ha
          clear ha hbz
          obtain ⟨l, hcl, hll⟩ := HC.out.g.chain k (a : Int) (by omega) (by omega) (by omega)
          have HCL := Lib.hid hcl
          clear hcl
          go_wp2_with (go_at_call 7; refine (number_calls _ z k (by omega) (by omega)).mono ?_; rintro e w3 ⟨rfl, rfl⟩; rw [HA.out])
          go_loop [17, 18] (fun t17 t18 => ∃ (pre cur : List Int) (x : Int), t18 = .int .i64 x ∧ t17 = .bool (pre.any (fullB B.bs)) ∧ l = pre ++ cur ∧ IsChain B.bp B.bs x cur ∧ -1 ≤ x ∧ x < k) (fun _ t18 => (intOf t18 + 1).toNat)
          case atStart => exact ⟨[], l, a, rfl, rfl, rfl, HCL.out.is, by omega, by omega⟩
          case round =>
            obtain ⟨pre, cur, x, rfl, rfl, hl, hch, hx1, hx2⟩ := hrel
            have HLP := Lib.hid hl
            clear hl
            by_cases hx0 : 0 ≤ x
            · obtain ⟨xn, rfl⟩ := Int.eq_ofNat_of_zero_le hx0
              have hth : there B.bp (xn : Int) = true := by rw [HC.out.g.thr]; simp; omega
              cases cur with
              | nil => exact absurd hth (by rw [show there B.bp (xn : Int) = false from hch]; simp)
              | cons y cur =>
                obtain ⟨hyx, -, hch'⟩ := hch
                subst hyx
                have hpar := HC.out.g.par xn (by omega)
                have HCH := Lib.hid hch'
                have HTH := Lib.hid hth
                clear hch' hth
                cases hb : pre.any (fullB B.bs) with
                | true =>
                  go_wp2_with (go_at_call 10; refine (parent_calls _ L.t B.bp B.bs xn HT.out.ban.tab).mono ?_; rintro e w3 ⟨rfl, rfl⟩; rw [if_pos HTH.out])
                  go_round
                  case rel => exact ⟨pre ++ [(xn : Int)], cur, _, rfl, by rw [List.any_append, hb]; rfl, by rw [HLP.out]; simp, HCH.out, hpar.1, by omega⟩
                  case measure => simp [intOf]; omega
                | false =>
                  have hlm := HC.out.bankLim xn (by omega)
                  by_cases hu : (bankOf B.bs xn).used ≥ (bankOf B.bs xn).limit
                  · have hfu : fullB B.bs (xn : Int) = true := by simpa [fullB] using hu
                    have HFU := Lib.hid hfu
                    clear hfu
                    have hu' : decide ((bankOf B.bs xn).limit ≤ (bankOf B.bs xn).used) = true := by simpa using hu
                    go_wp2_with (first
                      | (go_at_call 10; refine (parent_calls _ L.t B.bp B.bs xn HT.out.ban.tab).mono ?_; rintro e w3 ⟨rfl, rfl⟩; rw [if_pos HTH.out])
                      | (go_at_call 11; refine (used_calls' _ L.t B.bp B.bs xn HT.out.ban.tab).mono ?_; rintro e w3 ⟨rfl, rfl⟩; rw [if_pos HTH.out])
                      | (go_at_call 12; refine (limit_calls _ L.t B.bp B.bs xn HT.out.ban.tab).mono ?_; rintro e w3 ⟨rfl, rfl⟩; rw [if_pos HTH.out]))
                    go_round
                    case rel => exact ⟨pre ++ [(xn : Int)], cur, _, rfl, by rw [List.any_append, hb]; simp [HFU.out], by rw [HLP.out]; simp, HCH.out, hpar.1, by omega⟩
                    case measure => simp [intOf]; omega
                  · have hfu : fullB B.bs (xn : Int) = false := by simpa [fullB] using hu
                    have HFU := Lib.hid hfu
                    clear hfu
                    have hu' : decide ((bankOf B.bs xn).limit ≤ (bankOf B.bs xn).used) = false := by simpa using hu
                    go_wp2_with (first
                      | (go_at_call 10; refine (parent_calls _ L.t B.bp B.bs xn HT.out.ban.tab).mono ?_; rintro e w3 ⟨rfl, rfl⟩; rw [if_pos HTH.out])
                      | (go_at_call 11; refine (used_calls' _ L.t B.bp B.bs xn HT.out.ban.tab).mono ?_; rintro e w3 ⟨rfl, rfl⟩; rw [if_pos HTH.out])
                      | (go_at_call 12; refine (limit_calls _ L.t B.bp B.bs xn HT.out.ban.tab).mono ?_; rintro e w3 ⟨rfl, rfl⟩; rw [if_pos HTH.out]))
                    go_round
                    case rel => exact ⟨pre ++ [(xn : Int)], cur, _, rfl, by rw [List.any_append, hb]; simp [HFU.out], by rw [HLP.out]; simp, HCH.out, hpar.1, by omega⟩
                    case measure => simp [intOf]; omega
            · have hpre : pre = l := by
                have := HLP.out
                cases cur with
                | nil => simpa using this.symm
                | cons y cur =>
                  obtain ⟨-, hth, -⟩ := hch
                  rw [HC.out.g.thr] at hth
                  simp at hth
                  omega
              subst hpre
              clear hch HLP
              have hta : there B.bp (a : Int) = true := by rw [HC.out.g.thr]; simp; omega
              have HTA := Lib.hid hta
              clear hta
              rw [full_tight]
              have hub := HC.out.bankLim a (by omega)
              have hd6 : ∀ b ∈ [L.o, L.t.r, LM.nod.p, LM.nod.r, LM.pag.p, LM.pag.r], w.heap.size ≤ b := by
                intro b hb
                simp only [List.mem_cons, List.mem_nil_iff, or_false] at hb
                have hL : ∀ x ∈ LM.fp, w.heap.size ≤ x := fun x hx => HF.out x (List.mem_append_right _ (List.mem_append_left _ hx))
                rcases hb with rfl | rfl | rfl | rfl | rfl | rfl
                · exact HFL.out _ L.mem_o
                · exact HFL.out _ (L.mem_t (by simp [TabL.fp]))
                · exact hL _ (LM.mem_nod (by simp [TabL.fp]))
                · exact hL _ (LM.mem_nod (by simp [TabL.fp]))
                · exact hL _ (LM.mem_pag (by simp [TabL.fp]))
                · exact hL _ (LM.mem_pag (by simp [TabL.fp]))
              have HD6 := Lib.hid hd6
              clear hd6
              have z1 := Int.tmod_lt_of_pos z (show (0 : Int) < 2 by omega)
              have z2 : -2 < z.tmod 2 := Int.lt_tmod_of_pos z (by omega)
              by_cases hz : z.tmod 2 = 0
              · have hz' : (z.tmod 2 == 0) = true := by simp [hz]
                clear hz
                rcases takeF_cases B M.np pre with ⟨hff, hta⟩ | ⟨hff, hta⟩ | ⟨hff, hta⟩
                · have HFF := Lib.hid hff
                  rw [hta]
                  clear hff hta
                  go_wp2_with (first
                    | (go_at_call 11; refine (used_calls' _ L.t B.bp B.bs a HT.out.ban.tab).mono ?_; rintro e w3 ⟨rfl, rfl⟩; rw [if_pos HTA.out])
                    | (go_at_call 13
                       refine (node_after _ L LM LD B M _ _ k a pre HT.out HC.out hak HCL.out (by omega) (HE.out.ext hX (by simp)) k5 k6 k7).mono ?_
                       rintro e w4 ⟨x', y', B', M', rfl, hC', hT', hx4, hus⟩
                       rw [HFF.out]; rw [errO_pos E (k := 7) (by omega)]
                       rw [HFF.out] at hus
                       have hX4 : Ext [] w w4 := ext_fresh hX hx4 HD6.out
                       have HC' := Lib.hid hC'
                       have HT' := Lib.hid hT'
                       have hcur : Ext [] w4 w4.drew := (Ext.refl [] w4).drew
                       have hus' : (bankOf B'.bs a).used = (bankOf B.bs a).used + 0 := by simpa using hus
                       have HUS := Lib.hid hus'
                       clear hC' hT' hx4 hus hus'))
                  have hw1 : IntKind.i64.wrap ((bankOf B.bs a).used + 1) = (bankOf B.bs a).used + 1 := IntWalk.i64_in _ (by omega)
                  have hne : ((bankOf B.bs a).used == (bankOf B.bs a).used + 1) = false := by simp; omega
                  go_region_held3 (fun w' => Ext [] w4 w')
                    (first
                      | exact hcur)
                    ((first
                      | (go_at_call 15; refine (is_calls _ (HE.out.ext (hX4.trans hcur) (by simp)) HK.out 7 (by omega) 107).mono ?_; rintro e w5 ⟨rfl, hx5⟩; rw [show (codeOf 7 == 107) = true from rfl]; replace hcur := hcur.trans hx5)
                      | (go_at_call 11; refine (used_calls' _ L.t B'.bp B'.bs a (HT'.out.ban.tab.ext hcur (fun _ _ hb => by cases hb))).mono ?_; rintro e w3 ⟨rfl, rfl⟩; rw [if_pos (by rw [HC'.out.g.thr]; simp; omega), HUS.out])))
                  clear hw1 hne
                  have HT5 := Lib.hid (HT'.out.ext hcur)
                  have hXc : Ext [] w w5 := hX4.trans hcur
                  go_wp2_with fail
                  go_loopw [21] (fun t21 wr => ∃ q : Nat, q ≤ k ∧ t21 = .int .i64 q ∧ Ext [] w5 wr) (fun t21 _ => k - (intOf t21).toNat)
                  case atStart => exact ⟨0, by omega, rfl, Ext.refl _ _⟩
                  case round =>
                    obtain ⟨q, hq, rfl, hXq⟩ := hrel
                    by_cases hqk : q < k
                    · have hth : there B'.bp (q : Int) = true := by rw [HC'.out.g.thr]; simp; omega
                      have HTH := Lib.hid hth
                      have hsum := HC'.out.sum q hqk
                      have hlq := HC'.out.bankLim q (by omega)
                      have hkb := kidSum_bd HC'.out q k (by omega)
                      obtain ⟨len, hlen⟩ : ∃ len, len = (ownedK B' M' (List.replicate 8 default) q).length := ⟨_, rfl⟩
                      rw [← hlen] at hsum
                      have hl512 : len ≤ 512 := by omega
                      have HLEN := Lib.hid hlen
                      have HSUM := Lib.hid hsum
                      clear hth hsum hlen
                      go_wp2_with (go_at_call 16; refine (owned_calls _ L LM LD B' M' _ _ q (HT5.out.ext hXq) HTH.out).mono ?_; rintro e w6 ⟨v6, rfl, hown, hx6⟩; obtain ⟨A6, c6, rfl⟩ := own_slice hown; rw [← HLEN.out])
                      have HT6 := Lib.hid (HT5.out.ext (hXq.trans hx6))
                      clear hown
                      go_loop [22, 23] (fun t22 t23 => ∃ p : Nat, p ≤ k ∧ t23 = .int .i64 p ∧ t22 = .int .i64 ((len : Int) + kidSum B'.bs q p)) (fun _ t23 => k - (intOf t23).toNat)
                      case atStart => exact ⟨0, by omega, rfl, by simp [kidSum]⟩
                      case round =>
                        obtain ⟨p, hp, rfl, rfl⟩ := hrel
                        by_cases hpk : p < k
                        · have hkp := kidSum_bd HC'.out q p (by omega)
                          have hlp := HC'.out.bankLim p (by omega)
                          have hth : there B'.bp (p : Int) = true := by rw [HC'.out.g.thr]; simp; omega
                          have HTP := Lib.hid hth
                          clear hth
                          by_cases hpp : (bankOf B'.bs p).parent = q
                          · have hpp' : ((bankOf B'.bs p).parent == (q : Int)) = true := by simp [hpp]
                            have HS : Hid (kidSum B'.bs q (p + 1) = kidSum B'.bs q p + (bankOf B'.bs p).used) := by
                              show kidSum B'.bs q (p + 1) = _
                              simp [kidSum, hpp]
                            clear hpp
                            go_wp2_with (first
                              | (go_at_call 10; refine (parent_calls _ L.t B'.bp B'.bs p HT6.out.ban.tab).mono ?_; rintro e w7 ⟨rfl, rfl⟩; rw [if_pos HTP.out])
                              | (go_at_call 11; refine (used_calls' _ L.t B'.bp B'.bs p HT6.out.ban.tab).mono ?_; rintro e w7 ⟨rfl, rfl⟩; rw [if_pos HTP.out]))
                            go_round
                            case rel => exact ⟨p + 1, by omega, by go_num, by rw [HS.out]; go_num⟩
                            case measure => simp [intOf]; omega
                          · have hpp' : ((bankOf B'.bs p).parent == (q : Int)) = false := by simp [hpp]
                            have HS : Hid (kidSum B'.bs q (p + 1) = kidSum B'.bs q p) := by
                              show kidSum B'.bs q (p + 1) = _
                              simp [kidSum, hpp]
                            clear hpp
                            go_wp2_with (first
                              | (go_at_call 10; refine (parent_calls _ L.t B'.bp B'.bs p HT6.out.ban.tab).mono ?_; rintro e w7 ⟨rfl, rfl⟩; rw [if_pos HTP.out]))
                            go_round
                            case rel => exact ⟨p + 1, by omega, by go_num, by rw [HS.out]⟩
                            case measure => simp [intOf]; omega
                        · obtain rfl : p = k := by omega
                          have hle : (len : Int) + kidSum B'.bs q p ≤ (bankOf B'.bs q).limit := by have := HSUM.out; omega
                          have hle' : decide ((bankOf B'.bs q).limit < (len : Int) + kidSum B'.bs q p) = false := by simp; omega
                          go_wp2_with (first
                            | (go_at_call 11; refine (used_calls' _ L.t B'.bp B'.bs q HT6.out.ban.tab).mono ?_; rintro e w7 ⟨rfl, rfl⟩; rw [if_pos HTH.out, HSUM.out])
                            | (go_at_call 12; refine (limit_calls _ L.t B'.bp B'.bs q HT6.out.ban.tab).mono ?_; rintro e w7 ⟨rfl, rfl⟩; rw [if_pos HTH.out]))
                          go_roundw
                          case rel => exact ⟨q + 1, by omega, by go_num, hXq.trans hx6⟩
                          case measure => simp [intOf]; omega
                    · obtain rfl : q = k := by omega
                      go_wp2
                      go_roundw
                      case rel => exact ⟨j + 1, B', M', by omega, by go_num, HC'.out, HT5.out.ext hXq, hXc.trans hXq⟩
                      case measure => simp [intOf]; omega
                · have HFF := Lib.hid hff
                  rw [hta]
                  clear hff hta
                  go_wp2_with (first
                    | (go_at_call 11; refine (used_calls' _ L.t B.bp B.bs a HT.out.ban.tab).mono ?_; rintro e w3 ⟨rfl, rfl⟩; rw [if_pos HTA.out])
                    | (go_at_call 13
                       refine (node_after _ L LM LD B M _ _ k a pre HT.out HC.out hak HCL.out (by omega) (HE.out.ext hX (by simp)) k5 k6 k7).mono ?_
                       rintro e w4 ⟨x', y', B', M', rfl, hC', hT', hx4, hus⟩
                       rw [HFF.out]; rw [errO_pos E (k := 6) (by omega)]
                       rw [HFF.out] at hus
                       have hX4 : Ext [] w w4 := ext_fresh hX hx4 HD6.out
                       have HC' := Lib.hid hC'
                       have HT' := Lib.hid hT'
                       have hcur : Ext [] w4 w4.drew := (Ext.refl [] w4).drew
                       have hus' : (bankOf B'.bs a).used = (bankOf B.bs a).used + 0 := by simpa using hus
                       have HUS := Lib.hid hus'
                       clear hC' hT' hx4 hus hus'))
                  have hw1 : IntKind.i64.wrap ((bankOf B.bs a).used + 1) = (bankOf B.bs a).used + 1 := IntWalk.i64_in _ (by omega)
                  have hne : ((bankOf B.bs a).used == (bankOf B.bs a).used + 1) = false := by simp; omega
                  go_region_held3 (fun w' => Ext [] w4 w')
                    (first
                      | exact hcur)
                    ((first
                      | (go_at_call 15; refine (is_calls _ (HE.out.ext (hX4.trans hcur) (by simp)) HK.out 6 (by omega) 107).mono ?_; rintro e w5 ⟨rfl, hx5⟩; rw [show (codeOf 6 == 107) = false from rfl]; replace hcur := hcur.trans hx5)
                      | (go_at_call 11; refine (used_calls' _ L.t B'.bp B'.bs a (HT'.out.ban.tab.ext hcur (fun _ _ hb => by cases hb))).mono ?_; rintro e w3 ⟨rfl, rfl⟩; rw [if_pos (by rw [HC'.out.g.thr]; simp; omega), HUS.out])))
                  clear hw1 hne
                  have HT5 := Lib.hid (HT'.out.ext hcur)
                  have hXc : Ext [] w w5 := hX4.trans hcur
                  go_wp2_with fail
                  go_loopw [21] (fun t21 wr => ∃ q : Nat, q ≤ k ∧ t21 = .int .i64 q ∧ Ext [] w5 wr) (fun t21 _ => k - (intOf t21).toNat)
                  case atStart => exact ⟨0, by omega, rfl, Ext.refl _ _⟩
                  case round =>
                    obtain ⟨q, hq, rfl, hXq⟩ := hrel
                    by_cases hqk : q < k
                    · have hth : there B'.bp (q : Int) = true := by rw [HC'.out.g.thr]; simp; omega
                      have HTH := Lib.hid hth
                      have hsum := HC'.out.sum q hqk
                      have hlq := HC'.out.bankLim q (by omega)
                      have hkb := kidSum_bd HC'.out q k (by omega)
                      obtain ⟨len, hlen⟩ : ∃ len, len = (ownedK B' M' (List.replicate 8 default) q).length := ⟨_, rfl⟩
                      rw [← hlen] at hsum
                      have hl512 : len ≤ 512 := by omega
                      have HLEN := Lib.hid hlen
                      have HSUM := Lib.hid hsum
                      clear hth hsum hlen
                      go_wp2_with (go_at_call 16; refine (owned_calls _ L LM LD B' M' _ _ q (HT5.out.ext hXq) HTH.out).mono ?_; rintro e w6 ⟨v6, rfl, hown, hx6⟩; obtain ⟨A6, c6, rfl⟩ := own_slice hown; rw [← HLEN.out])
                      have HT6 := Lib.hid (HT5.out.ext (hXq.trans hx6))
                      clear hown
                      go_loop [22, 23] (fun t22 t23 => ∃ p : Nat, p ≤ k ∧ t23 = .int .i64 p ∧ t22 = .int .i64 ((len : Int) + kidSum B'.bs q p)) (fun _ t23 => k - (intOf t23).toNat)
                      case atStart => exact ⟨0, by omega, rfl, by simp [kidSum]⟩
                      case round =>
                        obtain ⟨p, hp, rfl, rfl⟩ := hrel
                        by_cases hpk : p < k
                        · have hkp := kidSum_bd HC'.out q p (by omega)
                          have hlp := HC'.out.bankLim p (by omega)
                          have hth : there B'.bp (p : Int) = true := by rw [HC'.out.g.thr]; simp; omega
                          have HTP := Lib.hid hth
                          clear hth
                          by_cases hpp : (bankOf B'.bs p).parent = q
                          · have hpp' : ((bankOf B'.bs p).parent == (q : Int)) = true := by simp [hpp]
                            have HS : Hid (kidSum B'.bs q (p + 1) = kidSum B'.bs q p + (bankOf B'.bs p).used) := by
                              show kidSum B'.bs q (p + 1) = _
                              simp [kidSum, hpp]
                            clear hpp
                            go_wp2_with (first
                              | (go_at_call 10; refine (parent_calls _ L.t B'.bp B'.bs p HT6.out.ban.tab).mono ?_; rintro e w7 ⟨rfl, rfl⟩; rw [if_pos HTP.out])
                              | (go_at_call 11; refine (used_calls' _ L.t B'.bp B'.bs p HT6.out.ban.tab).mono ?_; rintro e w7 ⟨rfl, rfl⟩; rw [if_pos HTP.out]))
                            go_round
                            case rel => exact ⟨p + 1, by omega, by go_num, by rw [HS.out]; go_num⟩
                            case measure => simp [intOf]; omega
                          · have hpp' : ((bankOf B'.bs p).parent == (q : Int)) = false := by simp [hpp]
                            have HS : Hid (kidSum B'.bs q (p + 1) = kidSum B'.bs q p) := by
                              show kidSum B'.bs q (p + 1) = _
                              simp [kidSum, hpp]
                            clear hpp
                            go_wp2_with (first
                              | (go_at_call 10; refine (parent_calls _ L.t B'.bp B'.bs p HT6.out.ban.tab).mono ?_; rintro e w7 ⟨rfl, rfl⟩; rw [if_pos HTP.out]))
                            go_round
                            case rel => exact ⟨p + 1, by omega, by go_num, by rw [HS.out]⟩
                            case measure => simp [intOf]; omega
                        · obtain rfl : p = k := by omega
                          have hle : (len : Int) + kidSum B'.bs q p ≤ (bankOf B'.bs q).limit := by have := HSUM.out; omega
                          have hle' : decide ((bankOf B'.bs q).limit < (len : Int) + kidSum B'.bs q p) = false := by simp; omega
                          go_wp2_with (first
                            | (go_at_call 11; refine (used_calls' _ L.t B'.bp B'.bs q HT6.out.ban.tab).mono ?_; rintro e w7 ⟨rfl, rfl⟩; rw [if_pos HTH.out, HSUM.out])
                            | (go_at_call 12; refine (limit_calls _ L.t B'.bp B'.bs q HT6.out.ban.tab).mono ?_; rintro e w7 ⟨rfl, rfl⟩; rw [if_pos HTH.out]))
                          go_roundw
                          case rel => exact ⟨q + 1, by omega, by go_num, hXq.trans hx6⟩
                          case measure => simp [intOf]; omega
                    · obtain rfl : q = k := by omega
                      go_wp2
                      go_roundw
                      case rel => exact ⟨j + 1, B', M', by omega, by go_num, HC'.out, HT5.out.ext hXq, hXc.trans hXq⟩
                      case measure => simp [intOf]; omega
                · have HFF := Lib.hid hff
                  rw [hta]
                  clear hff hta
                  go_wp2_with (first
                    | (go_at_call 11; refine (used_calls' _ L.t B.bp B.bs a HT.out.ban.tab).mono ?_; rintro e w3 ⟨rfl, rfl⟩; rw [if_pos HTA.out])
                    | (go_at_call 13
                       refine (node_after _ L LM LD B M _ _ k a pre HT.out HC.out hak HCL.out (by omega) (HE.out.ext hX (by simp)) k5 k6 k7).mono ?_
                       rintro e w4 ⟨x', y', B', M', rfl, hC', hT', hx4, hus⟩
                       rw [HFF.out]; rw [errO_zero]
                       rw [HFF.out] at hus
                       have hX4 : Ext [] w w4 := ext_fresh hX hx4 HD6.out
                       have HC' := Lib.hid hC'
                       have HT' := Lib.hid hT'
                       have hcur : Ext [] w4 w4.drew := (Ext.refl [] w4).drew
                       have hus' : (bankOf B'.bs a).used = (bankOf B.bs a).used + 1 := by simpa using hus
                       have HUS := Lib.hid hus'
                       clear hC' hT' hx4 hus hus'))
                  have hw1 : IntKind.i64.wrap ((bankOf B.bs a).used + 1) = (bankOf B.bs a).used + 1 := IntWalk.i64_in _ (by omega)
                  have hne : ((bankOf B.bs a).used == (bankOf B.bs a).used + 1) = false := by simp; omega
                  go_region_held3 (fun w' => Ext [] w4 w')
                    (first
                      | exact hcur)
                    ((first
                      | (go_at_call 15; refine (is_calls _ (HE.out.ext (hX4.trans hcur) (by simp)) HK.out 0 (by omega) 107).mono ?_; rintro e w5 ⟨rfl, hx5⟩; rw [show (codeOf 0 == 107) = false from rfl]; replace hcur := hcur.trans hx5)
                      | (go_at_call 11; refine (used_calls' _ L.t B'.bp B'.bs a (HT'.out.ban.tab.ext hcur (fun _ _ hb => by cases hb))).mono ?_; rintro e w3 ⟨rfl, rfl⟩; rw [if_pos (by rw [HC'.out.g.thr]; simp; omega), HUS.out])))
                  clear hw1 hne
                  have HT5 := Lib.hid (HT'.out.ext hcur)
                  have hXc : Ext [] w w5 := hX4.trans hcur
                  go_wp2_with fail
                  go_loopw [21] (fun t21 wr => ∃ q : Nat, q ≤ k ∧ t21 = .int .i64 q ∧ Ext [] w5 wr) (fun t21 _ => k - (intOf t21).toNat)
                  case atStart => exact ⟨0, by omega, rfl, Ext.refl _ _⟩
                  case round =>
                    obtain ⟨q, hq, rfl, hXq⟩ := hrel
                    by_cases hqk : q < k
                    · have hth : there B'.bp (q : Int) = true := by rw [HC'.out.g.thr]; simp; omega
                      have HTH := Lib.hid hth
                      have hsum := HC'.out.sum q hqk
                      have hlq := HC'.out.bankLim q (by omega)
                      have hkb := kidSum_bd HC'.out q k (by omega)
                      obtain ⟨len, hlen⟩ : ∃ len, len = (ownedK B' M' (List.replicate 8 default) q).length := ⟨_, rfl⟩
                      rw [← hlen] at hsum
                      have hl512 : len ≤ 512 := by omega
                      have HLEN := Lib.hid hlen
                      have HSUM := Lib.hid hsum
                      clear hth hsum hlen
                      go_wp2_with (go_at_call 16; refine (owned_calls _ L LM LD B' M' _ _ q (HT5.out.ext hXq) HTH.out).mono ?_; rintro e w6 ⟨v6, rfl, hown, hx6⟩; obtain ⟨A6, c6, rfl⟩ := own_slice hown; rw [← HLEN.out])
                      have HT6 := Lib.hid (HT5.out.ext (hXq.trans hx6))
                      clear hown
                      go_loop [22, 23] (fun t22 t23 => ∃ p : Nat, p ≤ k ∧ t23 = .int .i64 p ∧ t22 = .int .i64 ((len : Int) + kidSum B'.bs q p)) (fun _ t23 => k - (intOf t23).toNat)
                      case atStart => exact ⟨0, by omega, rfl, by simp [kidSum]⟩
                      case round =>
                        obtain ⟨p, hp, rfl, rfl⟩ := hrel
                        by_cases hpk : p < k
                        · have hkp := kidSum_bd HC'.out q p (by omega)
                          have hlp := HC'.out.bankLim p (by omega)
                          have hth : there B'.bp (p : Int) = true := by rw [HC'.out.g.thr]; simp; omega
                          have HTP := Lib.hid hth
                          clear hth
                          by_cases hpp : (bankOf B'.bs p).parent = q
                          · have hpp' : ((bankOf B'.bs p).parent == (q : Int)) = true := by simp [hpp]
                            have HS : Hid (kidSum B'.bs q (p + 1) = kidSum B'.bs q p + (bankOf B'.bs p).used) := by
                              show kidSum B'.bs q (p + 1) = _
                              simp [kidSum, hpp]
                            clear hpp
                            go_wp2_with (first
                              | (go_at_call 10; refine (parent_calls _ L.t B'.bp B'.bs p HT6.out.ban.tab).mono ?_; rintro e w7 ⟨rfl, rfl⟩; rw [if_pos HTP.out])
                              | (go_at_call 11; refine (used_calls' _ L.t B'.bp B'.bs p HT6.out.ban.tab).mono ?_; rintro e w7 ⟨rfl, rfl⟩; rw [if_pos HTP.out]))
                            go_round
                            case rel => exact ⟨p + 1, by omega, by go_num, by rw [HS.out]; go_num⟩
                            case measure => simp [intOf]; omega
                          · have hpp' : ((bankOf B'.bs p).parent == (q : Int)) = false := by simp [hpp]
                            have HS : Hid (kidSum B'.bs q (p + 1) = kidSum B'.bs q p) := by
                              show kidSum B'.bs q (p + 1) = _
                              simp [kidSum, hpp]
                            clear hpp
                            go_wp2_with (first
                              | (go_at_call 10; refine (parent_calls _ L.t B'.bp B'.bs p HT6.out.ban.tab).mono ?_; rintro e w7 ⟨rfl, rfl⟩; rw [if_pos HTP.out]))
                            go_round
                            case rel => exact ⟨p + 1, by omega, by go_num, by rw [HS.out]⟩
                            case measure => simp [intOf]; omega
                        · obtain rfl : p = k := by omega
                          have hle : (len : Int) + kidSum B'.bs q p ≤ (bankOf B'.bs q).limit := by have := HSUM.out; omega
                          have hle' : decide ((bankOf B'.bs q).limit < (len : Int) + kidSum B'.bs q p) = false := by simp; omega
                          go_wp2_with (first
                            | (go_at_call 11; refine (used_calls' _ L.t B'.bp B'.bs q HT6.out.ban.tab).mono ?_; rintro e w7 ⟨rfl, rfl⟩; rw [if_pos HTH.out, HSUM.out])
                            | (go_at_call 12; refine (limit_calls _ L.t B'.bp B'.bs q HT6.out.ban.tab).mono ?_; rintro e w7 ⟨rfl, rfl⟩; rw [if_pos HTH.out]))
                          go_roundw
                          case rel => exact ⟨q + 1, by omega, by go_num, hXq.trans hx6⟩
                          case measure => simp [intOf]; omega
                    · obtain rfl : q = k := by omega
                      go_wp2
                      go_roundw
                      case rel => exact ⟨j + 1, B', M', by omega, by go_num, HC'.out, HT5.out.ext hXq, hXc.trans hXq⟩
                      case measure => simp [intOf]; omega
              · have hz' : (z.tmod 2 == 0) = false := by simp [hz]
                clear hz
                rcases takeF_cases B M.pp pre with ⟨hff, hta⟩ | ⟨hff, hta⟩ | ⟨hff, hta⟩
                · have HFF := Lib.hid hff
                  rw [hta]
                  clear hff hta
                  go_wp2_with (first
                    | (go_at_call 11; refine (used_calls' _ L.t B.bp B.bs a HT.out.ban.tab).mono ?_; rintro e w3 ⟨rfl, rfl⟩; rw [if_pos HTA.out])
                    | (go_at_call 14
                       refine (page_after _ L LM LD B M _ _ k a pre HT.out HC.out hak HCL.out (by omega) (HE.out.ext hX (by simp)) k5 k6 k7).mono ?_
                       rintro e w4 ⟨x', y', B', M', rfl, hC', hT', hx4, hus⟩
                       rw [HFF.out]; rw [errO_pos E (k := 7) (by omega)]
                       rw [HFF.out] at hus
                       have hX4 : Ext [] w w4 := ext_fresh hX hx4 HD6.out
                       have HC' := Lib.hid hC'
                       have HT' := Lib.hid hT'
                       have hcur : Ext [] w4 w4.drew := (Ext.refl [] w4).drew
                       have hus' : (bankOf B'.bs a).used = (bankOf B.bs a).used + 0 := by simpa using hus
                       have HUS := Lib.hid hus'
                       clear hC' hT' hx4 hus hus'))
                  have hw1 : IntKind.i64.wrap ((bankOf B.bs a).used + 1) = (bankOf B.bs a).used + 1 := IntWalk.i64_in _ (by omega)
                  have hne : ((bankOf B.bs a).used == (bankOf B.bs a).used + 1) = false := by simp; omega
                  go_region_held3 (fun w' => Ext [] w4 w')
                    (first
                      | exact hcur)
                    ((first
                      | (go_at_call 15; refine (is_calls _ (HE.out.ext (hX4.trans hcur) (by simp)) HK.out 7 (by omega) 107).mono ?_; rintro e w5 ⟨rfl, hx5⟩; rw [show (codeOf 7 == 107) = true from rfl]; replace hcur := hcur.trans hx5)
                      | (go_at_call 11; refine (used_calls' _ L.t B'.bp B'.bs a (HT'.out.ban.tab.ext hcur (fun _ _ hb => by cases hb))).mono ?_; rintro e w3 ⟨rfl, rfl⟩; rw [if_pos (by rw [HC'.out.g.thr]; simp; omega), HUS.out])))
                  clear hw1 hne
                  have HT5 := Lib.hid (HT'.out.ext hcur)
                  have hXc : Ext [] w w5 := hX4.trans hcur
                  go_wp2_with fail
                  go_loopw [21] (fun t21 wr => ∃ q : Nat, q ≤ k ∧ t21 = .int .i64 q ∧ Ext [] w5 wr) (fun t21 _ => k - (intOf t21).toNat)
                  case atStart => exact ⟨0, by omega, rfl, Ext.refl _ _⟩
                  case round =>
                    obtain ⟨q, hq, rfl, hXq⟩ := hrel
                    by_cases hqk : q < k
                    · have hth : there B'.bp (q : Int) = true := by rw [HC'.out.g.thr]; simp; omega
                      have HTH := Lib.hid hth
                      have hsum := HC'.out.sum q hqk
                      have hlq := HC'.out.bankLim q (by omega)
                      have hkb := kidSum_bd HC'.out q k (by omega)
                      obtain ⟨len, hlen⟩ : ∃ len, len = (ownedK B' M' (List.replicate 8 default) q).length := ⟨_, rfl⟩
                      rw [← hlen] at hsum
                      have hl512 : len ≤ 512 := by omega
                      have HLEN := Lib.hid hlen
                      have HSUM := Lib.hid hsum
                      clear hth hsum hlen
                      go_wp2_with (go_at_call 16; refine (owned_calls _ L LM LD B' M' _ _ q (HT5.out.ext hXq) HTH.out).mono ?_; rintro e w6 ⟨v6, rfl, hown, hx6⟩; obtain ⟨A6, c6, rfl⟩ := own_slice hown; rw [← HLEN.out])
                      have HT6 := Lib.hid (HT5.out.ext (hXq.trans hx6))
                      clear hown
                      go_loop [22, 23] (fun t22 t23 => ∃ p : Nat, p ≤ k ∧ t23 = .int .i64 p ∧ t22 = .int .i64 ((len : Int) + kidSum B'.bs q p)) (fun _ t23 => k - (intOf t23).toNat)
                      case atStart => exact ⟨0, by omega, rfl, by simp [kidSum]⟩
                      case round =>
                        obtain ⟨p, hp, rfl, rfl⟩ := hrel
                        by_cases hpk : p < k
                        · have hkp := kidSum_bd HC'.out q p (by omega)
                          have hlp := HC'.out.bankLim p (by omega)
                          have hth : there B'.bp (p : Int) = true := by rw [HC'.out.g.thr]; simp; omega
                          have HTP := Lib.hid hth
                          clear hth
                          by_cases hpp : (bankOf B'.bs p).parent = q
                          · have hpp' : ((bankOf B'.bs p).parent == (q : Int)) = true := by simp [hpp]
                            have HS : Hid (kidSum B'.bs q (p + 1) = kidSum B'.bs q p + (bankOf B'.bs p).used) := by
                              show kidSum B'.bs q (p + 1) = _
                              simp [kidSum, hpp]
                            clear hpp
                            go_wp2_with (first
                              | (go_at_call 10; refine (parent_calls _ L.t B'.bp B'.bs p HT6.out.ban.tab).mono ?_; rintro e w7 ⟨rfl, rfl⟩; rw [if_pos HTP.out])
                              | (go_at_call 11; refine (used_calls' _ L.t B'.bp B'.bs p HT6.out.ban.tab).mono ?_; rintro e w7 ⟨rfl, rfl⟩; rw [if_pos HTP.out]))
                            go_round
                            case rel => exact ⟨p + 1, by omega, by go_num, by rw [HS.out]; go_num⟩
                            case measure => simp [intOf]; omega
                          · have hpp' : ((bankOf B'.bs p).parent == (q : Int)) = false := by simp [hpp]
                            have HS : Hid (kidSum B'.bs q (p + 1) = kidSum B'.bs q p) := by
                              show kidSum B'.bs q (p + 1) = _
                              simp [kidSum, hpp]
                            clear hpp
                            go_wp2_with (first
                              | (go_at_call 10; refine (parent_calls _ L.t B'.bp B'.bs p HT6.out.ban.tab).mono ?_; rintro e w7 ⟨rfl, rfl⟩; rw [if_pos HTP.out]))
                            go_round
                            case rel => exact ⟨p + 1, by omega, by go_num, by rw [HS.out]⟩
                            case measure => simp [intOf]; omega
                        · obtain rfl : p = k := by omega
                          have hle : (len : Int) + kidSum B'.bs q p ≤ (bankOf B'.bs q).limit := by have := HSUM.out; omega
                          have hle' : decide ((bankOf B'.bs q).limit < (len : Int) + kidSum B'.bs q p) = false := by simp; omega
                          go_wp2_with (first
                            | (go_at_call 11; refine (used_calls' _ L.t B'.bp B'.bs q HT6.out.ban.tab).mono ?_; rintro e w7 ⟨rfl, rfl⟩; rw [if_pos HTH.out, HSUM.out])
                            | (go_at_call 12; refine (limit_calls _ L.t B'.bp B'.bs q HT6.out.ban.tab).mono ?_; rintro e w7 ⟨rfl, rfl⟩; rw [if_pos HTH.out]))
                          go_roundw
                          case rel => exact ⟨q + 1, by omega, by go_num, hXq.trans hx6⟩
                          case measure => simp [intOf]; omega
                    · obtain rfl : q = k := by omega
                      go_wp2
                      go_roundw
                      case rel => exact ⟨j + 1, B', M', by omega, by go_num, HC'.out, HT5.out.ext hXq, hXc.trans hXq⟩
                      case measure => simp [intOf]; omega
                · have HFF := Lib.hid hff
                  rw [hta]
                  clear hff hta
                  go_wp2_with (first
                    | (go_at_call 11; refine (used_calls' _ L.t B.bp B.bs a HT.out.ban.tab).mono ?_; rintro e w3 ⟨rfl, rfl⟩; rw [if_pos HTA.out])
                    | (go_at_call 14
                       refine (page_after _ L LM LD B M _ _ k a pre HT.out HC.out hak HCL.out (by omega) (HE.out.ext hX (by simp)) k5 k6 k7).mono ?_
                       rintro e w4 ⟨x', y', B', M', rfl, hC', hT', hx4, hus⟩
                       rw [HFF.out]; rw [errO_pos E (k := 6) (by omega)]
                       rw [HFF.out] at hus
                       have hX4 : Ext [] w w4 := ext_fresh hX hx4 HD6.out
                       have HC' := Lib.hid hC'
                       have HT' := Lib.hid hT'
                       have hcur : Ext [] w4 w4.drew := (Ext.refl [] w4).drew
                       have hus' : (bankOf B'.bs a).used = (bankOf B.bs a).used + 0 := by simpa using hus
                       have HUS := Lib.hid hus'
                       clear hC' hT' hx4 hus hus'))
                  have hw1 : IntKind.i64.wrap ((bankOf B.bs a).used + 1) = (bankOf B.bs a).used + 1 := IntWalk.i64_in _ (by omega)
                  have hne : ((bankOf B.bs a).used == (bankOf B.bs a).used + 1) = false := by simp; omega
                  go_region_held3 (fun w' => Ext [] w4 w')
                    (first
                      | exact hcur)
                    ((first
                      | (go_at_call 15; refine (is_calls _ (HE.out.ext (hX4.trans hcur) (by simp)) HK.out 6 (by omega) 107).mono ?_; rintro e w5 ⟨rfl, hx5⟩; rw [show (codeOf 6 == 107) = false from rfl]; replace hcur := hcur.trans hx5)
                      | (go_at_call 11; refine (used_calls' _ L.t B'.bp B'.bs a (HT'.out.ban.tab.ext hcur (fun _ _ hb => by cases hb))).mono ?_; rintro e w3 ⟨rfl, rfl⟩; rw [if_pos (by rw [HC'.out.g.thr]; simp; omega), HUS.out])))
                  clear hw1 hne
                  have HT5 := Lib.hid (HT'.out.ext hcur)
                  have hXc : Ext [] w w5 := hX4.trans hcur
                  go_wp2_with fail
                  go_loopw [21] (fun t21 wr => ∃ q : Nat, q ≤ k ∧ t21 = .int .i64 q ∧ Ext [] w5 wr) (fun t21 _ => k - (intOf t21).toNat)
                  case atStart => exact ⟨0, by omega, rfl, Ext.refl _ _⟩
                  case round =>
                    obtain ⟨q, hq, rfl, hXq⟩ := hrel
                    by_cases hqk : q < k
                    · have hth : there B'.bp (q : Int) = true := by rw [HC'.out.g.thr]; simp; omega
                      have HTH := Lib.hid hth
                      have hsum := HC'.out.sum q hqk
                      have hlq := HC'.out.bankLim q (by omega)
                      have hkb := kidSum_bd HC'.out q k (by omega)
                      obtain ⟨len, hlen⟩ : ∃ len, len = (ownedK B' M' (List.replicate 8 default) q).length := ⟨_, rfl⟩
                      rw [← hlen] at hsum
                      have hl512 : len ≤ 512 := by omega
                      have HLEN := Lib.hid hlen
                      have HSUM := Lib.hid hsum
                      clear hth hsum hlen
                      go_wp2_with (go_at_call 16; refine (owned_calls _ L LM LD B' M' _ _ q (HT5.out.ext hXq) HTH.out).mono ?_; rintro e w6 ⟨v6, rfl, hown, hx6⟩; obtain ⟨A6, c6, rfl⟩ := own_slice hown; rw [← HLEN.out])
                      have HT6 := Lib.hid (HT5.out.ext (hXq.trans hx6))
                      clear hown
                      go_loop [22, 23] (fun t22 t23 => ∃ p : Nat, p ≤ k ∧ t23 = .int .i64 p ∧ t22 = .int .i64 ((len : Int) + kidSum B'.bs q p)) (fun _ t23 => k - (intOf t23).toNat)
                      case atStart => exact ⟨0, by omega, rfl, by simp [kidSum]⟩
                      case round =>
                        obtain ⟨p, hp, rfl, rfl⟩ := hrel
                        by_cases hpk : p < k
                        · have hkp := kidSum_bd HC'.out q p (by omega)
                          have hlp := HC'.out.bankLim p (by omega)
                          have hth : there B'.bp (p : Int) = true := by rw [HC'.out.g.thr]; simp; omega
                          have HTP := Lib.hid hth
                          clear hth
                          by_cases hpp : (bankOf B'.bs p).parent = q
                          · have hpp' : ((bankOf B'.bs p).parent == (q : Int)) = true := by simp [hpp]
                            have HS : Hid (kidSum B'.bs q (p + 1) = kidSum B'.bs q p + (bankOf B'.bs p).used) := by
                              show kidSum B'.bs q (p + 1) = _
                              simp [kidSum, hpp]
                            clear hpp
                            go_wp2_with (first
                              | (go_at_call 10; refine (parent_calls _ L.t B'.bp B'.bs p HT6.out.ban.tab).mono ?_; rintro e w7 ⟨rfl, rfl⟩; rw [if_pos HTP.out])
                              | (go_at_call 11; refine (used_calls' _ L.t B'.bp B'.bs p HT6.out.ban.tab).mono ?_; rintro e w7 ⟨rfl, rfl⟩; rw [if_pos HTP.out]))
                            go_round
                            case rel => exact ⟨p + 1, by omega, by go_num, by rw [HS.out]; go_num⟩
                            case measure => simp [intOf]; omega
                          · have hpp' : ((bankOf B'.bs p).parent == (q : Int)) = false := by simp [hpp]
                            have HS : Hid (kidSum B'.bs q (p + 1) = kidSum B'.bs q p) := by
                              show kidSum B'.bs q (p + 1) = _
                              simp [kidSum, hpp]
                            clear hpp
                            go_wp2_with (first
                              | (go_at_call 10; refine (parent_calls _ L.t B'.bp B'.bs p HT6.out.ban.tab).mono ?_; rintro e w7 ⟨rfl, rfl⟩; rw [if_pos HTP.out]))
                            go_round
                            case rel => exact ⟨p + 1, by omega, by go_num, by rw [HS.out]⟩
                            case measure => simp [intOf]; omega
                        · obtain rfl : p = k := by omega
                          have hle : (len : Int) + kidSum B'.bs q p ≤ (bankOf B'.bs q).limit := by have := HSUM.out; omega
                          have hle' : decide ((bankOf B'.bs q).limit < (len : Int) + kidSum B'.bs q p) = false := by simp; omega
                          go_wp2_with (first
                            | (go_at_call 11; refine (used_calls' _ L.t B'.bp B'.bs q HT6.out.ban.tab).mono ?_; rintro e w7 ⟨rfl, rfl⟩; rw [if_pos HTH.out, HSUM.out])
                            | (go_at_call 12; refine (limit_calls _ L.t B'.bp B'.bs q HT6.out.ban.tab).mono ?_; rintro e w7 ⟨rfl, rfl⟩; rw [if_pos HTH.out]))
                          go_roundw
                          case rel => exact ⟨q + 1, by omega, by go_num, hXq.trans hx6⟩
                          case measure => simp [intOf]; omega
                    · obtain rfl : q = k := by omega
                      go_wp2
                      go_roundw
                      case rel => exact ⟨j + 1, B', M', by omega, by go_num, HC'.out, HT5.out.ext hXq, hXc.trans hXq⟩
                      case measure => simp [intOf]; omega
                · have HFF := Lib.hid hff
                  rw [hta]
                  clear hff hta
                  go_wp2_with (first
                    | (go_at_call 11; refine (used_calls' _ L.t B.bp B.bs a HT.out.ban.tab).mono ?_; rintro e w3 ⟨rfl, rfl⟩; rw [if_pos HTA.out])
                    | (go_at_call 14
                       refine (page_after _ L LM LD B M _ _ k a pre HT.out HC.out hak HCL.out (by omega) (HE.out.ext hX (by simp)) k5 k6 k7).mono ?_
                       rintro e w4 ⟨x', y', B', M', rfl, hC', hT', hx4, hus⟩
                       rw [HFF.out]; rw [errO_zero]
                       rw [HFF.out] at hus
                       have hX4 : Ext [] w w4 := ext_fresh hX hx4 HD6.out
                       have HC' := Lib.hid hC'
                       have HT' := Lib.hid hT'
                       have hcur : Ext [] w4 w4.drew := (Ext.refl [] w4).drew
                       have hus' : (bankOf B'.bs a).used = (bankOf B.bs a).used + 1 := by simpa using hus
                       have HUS := Lib.hid hus'
                       clear hC' hT' hx4 hus hus'))
                  have hw1 : IntKind.i64.wrap ((bankOf B.bs a).used + 1) = (bankOf B.bs a).used + 1 := IntWalk.i64_in _ (by omega)
                  have hne : ((bankOf B.bs a).used == (bankOf B.bs a).used + 1) = false := by simp; omega
                  go_region_held3 (fun w' => Ext [] w4 w')
                    (first
                      | exact hcur)
                    ((first
                      | (go_at_call 15; refine (is_calls _ (HE.out.ext (hX4.trans hcur) (by simp)) HK.out 0 (by omega) 107).mono ?_; rintro e w5 ⟨rfl, hx5⟩; rw [show (codeOf 0 == 107) = false from rfl]; replace hcur := hcur.trans hx5)
                      | (go_at_call 11; refine (used_calls' _ L.t B'.bp B'.bs a (HT'.out.ban.tab.ext hcur (fun _ _ hb => by cases hb))).mono ?_; rintro e w3 ⟨rfl, rfl⟩; rw [if_pos (by rw [HC'.out.g.thr]; simp; omega), HUS.out])))
                  clear hw1 hne
                  have HT5 := Lib.hid (HT'.out.ext hcur)
                  have hXc : Ext [] w w5 := hX4.trans hcur
                  go_wp2_with fail
                  go_loopw [21] (fun t21 wr => ∃ q : Nat, q ≤ k ∧ t21 = .int .i64 q ∧ Ext [] w5 wr) (fun t21 _ => k - (intOf t21).toNat)
                  case atStart => exact ⟨0, by omega, rfl, Ext.refl _ _⟩
                  case round =>
                    obtain ⟨q, hq, rfl, hXq⟩ := hrel
                    by_cases hqk : q < k
                    · have hth : there B'.bp (q : Int) = true := by rw [HC'.out.g.thr]; simp; omega
                      have HTH := Lib.hid hth
                      have hsum := HC'.out.sum q hqk
                      have hlq := HC'.out.bankLim q (by omega)
                      have hkb := kidSum_bd HC'.out q k (by omega)
                      obtain ⟨len, hlen⟩ : ∃ len, len = (ownedK B' M' (List.replicate 8 default) q).length := ⟨_, rfl⟩
                      rw [← hlen] at hsum
                      have hl512 : len ≤ 512 := by omega
                      have HLEN := Lib.hid hlen
                      have HSUM := Lib.hid hsum
                      clear hth hsum hlen
                      go_wp2_with (go_at_call 16; refine (owned_calls _ L LM LD B' M' _ _ q (HT5.out.ext hXq) HTH.out).mono ?_; rintro e w6 ⟨v6, rfl, hown, hx6⟩; obtain ⟨A6, c6, rfl⟩ := own_slice hown; rw [← HLEN.out])
                      have HT6 := Lib.hid (HT5.out.ext (hXq.trans hx6))
                      clear hown
                      go_loop [22, 23] (fun t22 t23 => ∃ p : Nat, p ≤ k ∧ t23 = .int .i64 p ∧ t22 = .int .i64 ((len : Int) + kidSum B'.bs q p)) (fun _ t23 => k - (intOf t23).toNat)
                      case atStart => exact ⟨0, by omega, rfl, by simp [kidSum]⟩
                      case round =>
                        obtain ⟨p, hp, rfl, rfl⟩ := hrel
                        by_cases hpk : p < k
                        · have hkp := kidSum_bd HC'.out q p (by omega)
                          have hlp := HC'.out.bankLim p (by omega)
                          have hth : there B'.bp (p : Int) = true := by rw [HC'.out.g.thr]; simp; omega
                          have HTP := Lib.hid hth
                          clear hth
                          by_cases hpp : (bankOf B'.bs p).parent = q
                          · have hpp' : ((bankOf B'.bs p).parent == (q : Int)) = true := by simp [hpp]
                            have HS : Hid (kidSum B'.bs q (p + 1) = kidSum B'.bs q p + (bankOf B'.bs p).used) := by
                              show kidSum B'.bs q (p + 1) = _
                              simp [kidSum, hpp]
                            clear hpp
                            go_wp2_with (first
                              | (go_at_call 10; refine (parent_calls _ L.t B'.bp B'.bs p HT6.out.ban.tab).mono ?_; rintro e w7 ⟨rfl, rfl⟩; rw [if_pos HTP.out])
                              | (go_at_call 11; refine (used_calls' _ L.t B'.bp B'.bs p HT6.out.ban.tab).mono ?_; rintro e w7 ⟨rfl, rfl⟩; rw [if_pos HTP.out]))
                            go_round
                            case rel => exact ⟨p + 1, by omega, by go_num, by rw [HS.out]; go_num⟩
                            case measure => simp [intOf]; omega
                          · have hpp' : ((bankOf B'.bs p).parent == (q : Int)) = false := by simp [hpp]
                            have HS : Hid (kidSum B'.bs q (p + 1) = kidSum B'.bs q p) := by
                              show kidSum B'.bs q (p + 1) = _
                              simp [kidSum, hpp]
                            clear hpp
                            go_wp2_with (first
                              | (go_at_call 10; refine (parent_calls _ L.t B'.bp B'.bs p HT6.out.ban.tab).mono ?_; rintro e w7 ⟨rfl, rfl⟩; rw [if_pos HTP.out]))
                            go_round
                            case rel => exact ⟨p + 1, by omega, by go_num, by rw [HS.out]⟩
                            case measure => simp [intOf]; omega
                        · obtain rfl : p = k := by omega
                          have hle : (len : Int) + kidSum B'.bs q p ≤ (bankOf B'.bs q).limit := by have := HSUM.out; omega
                          have hle' : decide ((bankOf B'.bs q).limit < (len : Int) + kidSum B'.bs q p) = false := by simp; omega
                          go_wp2_with (first
                            | (go_at_call 11; refine (used_calls' _ L.t B'.bp B'.bs q HT6.out.ban.tab).mono ?_; rintro e w7 ⟨rfl, rfl⟩; rw [if_pos HTH.out, HSUM.out])
                            | (go_at_call 12; refine (limit_calls _ L.t B'.bp B'.bs q HT6.out.ban.tab).mono ?_; rintro e w7 ⟨rfl, rfl⟩; rw [if_pos HTH.out]))
                          go_roundw
                          case rel => exact ⟨q + 1, by omega, by go_num, hXq.trans hx6⟩
                          case measure => simp [intOf]; omega
                    · obtain rfl : q = k := by omega
                      go_wp2
                      go_roundw
                      case rel => exact ⟨j + 1, B', M', by omega, by go_num, HC'.out, HT5.out.ext hXq, hXc.trans hXq⟩
                      case measure => simp [intOf]; omega
        · obtain rfl : j = zs.length := by omega
          go_wp2
          go_ret
          exact ⟨rfl, hX⟩
end Go.Proofs.YtpnjebpbglgebaaDoor
