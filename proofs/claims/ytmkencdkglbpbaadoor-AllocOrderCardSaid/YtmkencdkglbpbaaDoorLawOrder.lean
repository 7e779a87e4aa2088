/- AllocOrder: the walk. -/
import Derived.Test.YtmkencdkglbpbaaDoorAlY
import Derived.Test.YtmkencdkglbpbaaDoorRowO
import Derived.Deep.RegionHeld3
set_option maxRecDepth 100000
set_option linter.unusedVariables false
namespace Go.Proofs.YtmkencdkglbpbaaDoor
open Go.RowKit Go.Maps

theorem below_dN (w : World) (n : Nat) : Below w.heap.size w (w.drewN n) := ⟨rfl, rfl, rfl, Nat.le_refl _, fun _ _ => rfl⟩
theorem orderV_step {L : List Op8} {base slots : Int} {p : Op8} {l : List Op8} {k m : Nat} (h : orderV L base slots (p :: l) k = some m) :
    (∃ hk : k < L.length, likeB p L[k] = true ∧ orderV L base slots l (k + 1) = some m) ∨ ((∀ hk : k < L.length, likeB p L[k] = false) ∧ slotLike base slots p = true ∧ orderV L base slots l k = some m) := by
  rw [orderV] at h
  unfold nextOf at h
  by_cases hk : k < L.length
  · rw [dif_pos hk] at h
    cases hl : likeB p L[k]
    · rw [hl, if_neg (by simp)] at h
      cases hs : slotLike base slots p
      · rw [hs, if_neg (by simp)] at h; simp at h
      · rw [hs, if_pos rfl] at h
        exact .inr ⟨fun _ => hl, rfl, h⟩
    · rw [hl, if_pos rfl] at h
      exact .inl ⟨hk, hl, h⟩
  · rw [dif_neg hk] at h
    cases hs : slotLike base slots p
    · rw [hs, if_neg (by simp)] at h; simp at h
    · rw [hs, if_pos rfl] at h
      exact .inr ⟨fun h' => absurd h' hk, rfl, h⟩

set_option maxHeartbeats 8000000 in
theorem allocOrder_walk (x : Option Addr) (n cc : Nat) (L : List Op8) (a : Int) (w : World) (hS : HasRows w) (hL : OpsSl w x L) (hn : L.length = n) (hnc : n ≤ cc) (hN : ∀ o ∈ L, 0 ≤ o.N ∧ o.N < 4294967296) :
    Calls Tryd.prog 5 #[.slice x n cc, .int .i64 a] w fun e w' => e = .returned (.bool true) ∧ Below w.heap.size w w' := by
  have HA := Lib.hid (anchor17_any w hS)
  have HS := Lib.hid hS
  have HL := Lib.hid hL
  have HN := Lib.hid hn
  have HNN := Lib.hid hN
  clear hS hL hn hN
  by_cases h60 : n > 60
  · go_enter Tryd.func5, Tryd.ntmps5
    go_wp2_with fail
    refine HA.out.mono ?_
    rintro e w1 ⟨rfl, hb1⟩
    have H1 := Lib.hid hb1
    clear hb1
    go_wp2_with fail
    go_ret
    exact ⟨rfl, H1.out⟩
  · obtain ⟨V, hV⟩ : ∃ V, V = allocF L a := ⟨_, rfl⟩
    have HCV : Hid (∀ (wq : World), HasRows wq → OpsSl wq x L → Calls Tryd.prog 12 #[.slice x n cc, .int .i64 a] wq fun e w' => ∃ vo, e = .returned (.tuple #[.agg #[vo, .int .i64 V.2.1], .int .i64 V.2.2]) ∧ w'.ownsRow wq.heap.size 37 8 vo V.1.length (outC V.1) ∧ Below wq.heap.size wq w') := by
      rw [hV]; exact fun wq h1 h2 => alloc_any x n cc L a wq h1 h2 HN.out (by omega) hnc HNN.out
    have HLaw : Hid (V.2.2 = 0 → (0 ≤ a ∧ a ≤ 1020) ∧ (0 ≤ V.2.1 ∧ V.2.1 ≤ 256) ∧ orderV L a V.2.1 V.1 0 = some L.length ∧ ∀ o ∈ V.1, 0 ≤ o.N ∧ o.N < 4294967296) := by
      rw [hV]
      intro h1
      have p2 := allocF_order h1
      obtain ⟨_, q0, q1, _, s, S, _, hR, he, hr⟩ := allocF_ok h1
      have hlo := hR.inv.low he
      have htn := hR.inv.tn
      refine ⟨⟨q0, q1⟩, ?_, p2, ?_⟩
      · rw [hr]; show 0 ≤ s.slots ∧ s.slots ≤ 256; omega
      · have := weave_bd q0 hlo hR.inv.wv HNN.out
        rw [hr]; exact this
    clear hV
    obtain ⟨O, sl, ea⟩ := V
    go_enter Tryd.func5, Tryd.ntmps5
    go_wp2_with fail
    refine HA.out.mono ?_
    rintro e w1 ⟨rfl, hb1⟩
    have H1 := Lib.hid hb1
    clear hb1 HA
    go_wp2_with fail
    refine (HCV.out w1 (HS.out.below H1.out) (HL.out.below H1.out)).mono ?_
    rintro e w2 ⟨vo, rfl, hown, hb2⟩
    obtain ⟨x2, c2, rfl, hc2, hO2, hg2, hm2⟩ := outs_ops hown
    have H2 := Lib.hid (H1.out.trans (hb2.mono H1.out.size))
    have hbA := (Below.refl _ w2).alloc (Nat.le_refl _) (.cells #[.slice x2 O.length c2, .int .i64 sl] 25)
    have z0 : (w2.alloc (.cells #[.slice x2 O.length c2, .int .i64 sl] 25)).cell? ⟨w2.heap.size, 0, none⟩ = some (.slice x2 O.length c2) := by rw [World.cell?_alloc_at _ _ _ _ rfl]; rfl
    have z1 : (w2.alloc (.cells #[.slice x2 O.length c2, .int .i64 sl] 25)).cell? ⟨w2.heap.size, 1, none⟩ = some (.int .i64 sl) := by rw [World.cell?_alloc_at _ _ _ _ rfl]; rfl
    have zl : w2.heap.size < (w2.alloc (.cells #[.slice x2 O.length c2, .int .i64 sl] 25)).heap.size := by simp
    have HO2 := Lib.hid hO2
    have hmm : O.length ≤ 9223372036854775807 := by unfold maxLen at hm2; exact hm2
    clear hown hb2 hO2 hg2 hc2 hm2
    simp only at z0 z1 zl hbA ⊢
    by_cases hea : ea = 0
    · subst hea
      obtain ⟨ha, hsl, hord, hbd⟩ := HLaw.out rfl
      have Hord := Lib.hid hord
      have Hbd := Lib.hid hbd
      have hsl0 : 0 ≤ sl ∧ sl ≤ 256 := hsl
      clear hord hbd HLaw HCV hsl
      go_wp2_with fail
      generalize w2.alloc _ = w3 at hbA z0 z1 zl ⊢
      have H3 := Lib.hid (H2.out.trans (hbA.mono H2.out.size))
      have HO3 := Lib.hid (HO2.out.below hbA)
      have HL3 := Lib.hid (HL.out.below H3.out)
      have Z0 := Lib.hid z0
      have Z1 := Lib.hid z1
      clear hbA HO2 z0 z1
      go_loopw [27, 7] (fun i kv wr => ∃ j k : Nat, j ≤ O.length ∧ k ≤ n ∧ i = .int .i64 j ∧ kv = .int .i64 k ∧ Below w3.heap.size w3 wr ∧ orderV L a sl (O.drop j) k = some L.length) (fun i _ _ => O.length - (intOf i).toNat)
      case atStart => exact ⟨0, 0, Nat.zero_le _, Nat.zero_le _, rfl, rfl, Below.refl _ _, Hord.out⟩
      case round =>
        obtain ⟨j, k, hj, hk, rfl, rfl, hB, ho⟩ := hrel
        have hX := HO3.out.below hB
        have hY := HL3.out.below hB
        have z0 := (hB.cell (p := ⟨w2.heap.size, 0, none⟩) zl).trans Z0.out
        have z1 := (hB.cell (p := ⟨w2.heap.size, 1, none⟩) zl).trans Z1.out
        have hl2 : w2.heap.size < wr.heap.size := Nat.lt_of_lt_of_le zl hB.size
        have HB := Lib.hid hB
        have hsz := hB.size
        clear hB
        by_cases hlt : j < O.length
        · obtain ⟨g, o, rfl, hgl, hc⟩ := hX.resolve_left (by omega)
          obtain ⟨c0, c1, c2', c3, c4', c5, c6, c7⟩ := hc j hlt
          have hbd := Hbd.out _ (List.getElem_mem hlt)
          have hdr : O.drop j = O[j] :: O.drop (j + 1) := List.drop_eq_getElem_cons hlt
          rw [hdr] at ho
          generalize O[j]'hlt = p at c0 c1 c2' c3 c4' c5 c6 c7 hbd ho
          have wq : IntKind.i64.wrap ((j : Int) + 1) = (j : Int) + 1 := IntWalk.i64_in _ (by omega)
          have wk : IntKind.i64.wrap ((k : Int) + 1) = (k : Int) + 1 := IntWalk.i64_in _ (by omega)
          have wN : IntKind.i64.wrap p.N = p.N := IntWalk.i64_in _ (by omega)
          have w4 : IntKind.i64.wrap (4 * sl) = 4 * sl := IntWalk.i64_in _ (by omega)
          have w5 : IntKind.i64.wrap (a + 4 * sl) = a + 4 * sl := IntWalk.i64_in _ (by omega)
          have n1 : g ≠ wr.heap.size := by omega
          have n2 : w2.heap.size ≠ wr.heap.size := by omega
          have HO := Lib.hid ho
          clear hc hX hdr ho
          go_upto_region 12 with fail
          have hbA := (Below.refl _ wr).alloc (Nat.le_refl _) (.cells #[.int .i64 p.K, .int .i64 p.t0, .int .i64 p.t1, .int .i64 p.f0, .int .i64 p.f1, .int .i64 p.f2, .int .i64 p.f3, .int .u32 p.N] 37)
          have hOA := opAt_new wr p.K p.t0 p.t1 p.f0 p.f1 p.f2 p.f3 p.N
          have hlA : wr.heap.size < (wr.alloc (.cells #[.int .i64 p.K, .int .i64 p.t0, .int .i64 p.t1, .int .i64 p.f0, .int .i64 p.f1, .int .i64 p.f2, .int .i64 p.f3, .int .u32 p.N] 37)).heap.size := by simp
          generalize wr.alloc _ = wA at hbA hOA hlA ⊢
          clear c0 c1 c2' c3 c4' c5 c6 c7
          obtain ⟨d0, d1, d2, d3, d4, d5, d6, d7⟩ := hOA.cells
          have z1A := (hbA.cell (p := ⟨w2.heap.size, 1, none⟩) hl2).trans z1
          have hl2A : w2.heap.size < wA.heap.size := Nat.lt_of_lt_of_le hl2 hbA.size
          have HYA := Lib.hid (hY.below hbA)
          have HBA := Lib.hid (HB.out.trans (hbA.mono hsz))
          clear hOA hbA hY z0 z1
          go_cut [10] (fun sv wx => sv = .bool (slotLike a sl p) ∧ wx = wA)
          case first =>
            go_wp2_with fail
            all_goals
              go_meet
              refine ⟨?_, rfl⟩
              unfold slotLike
              simp_all <;> omega
          obtain ⟨rfl, hwc⟩ := hcut
          rw [hwc]
          clear hwc
          have hO60 : k ≤ 60 := by omega
          have hU4 := regsOf_le4 p.f0 p.f1 p.f2 p.f3
          rcases orderV_step HO.out with ⟨hk', hlk, ho2⟩ | ⟨hnl, hsl2, ho2⟩
          · have hkn : k < n := by rw [← HN.out]; exact hk'
            obtain ⟨b, ob, rfl, hbl, hc⟩ := HYA.out.resolve_left (by omega)
            obtain ⟨e0, e1, e2, e3, e4, e5, e6, e7⟩ := hc k hk'
            generalize L[k]'hk' = r at e0 e1 e2 e3 e4 e5 e6 e7 hlk
            unfold likeB at hlk
            simp only [Bool.and_eq_true, beq_iff_eq] at hlk
            obtain ⟨⟨hK, hNr⟩, hlen⟩ := hlk
            have eK : (p.K == r.K) = true := by simpa using hK
            have eN : (p.N == r.N) = true := by simpa using hNr
            have HO2 := Lib.hid ho2
            have Hlen := Lib.hid hlen
            generalize hUe : regsOf [p.f0, p.f1, p.f2, p.f3] = U at Hlen
            generalize hRe : regsOf [r.f0, r.f1, r.f2, r.f3] = R at Hlen
            have HUp : Hid (∀ w, Calls Tryd.prog 15 #[.agg #[.int .i64 p.K, .int .i64 p.t0, .int .i64 p.t1, .int .i64 p.f0, .int .i64 p.f1, .int .i64 p.f2, .int .i64 p.f3, .int .u32 p.N]] w fun e w' => ∃ v, e = .returned v ∧ w'.ownsRow w.heap.size 3 1 v U.length (iCells U) ∧ Below w.heap.size w w') := fun w => by
              rw [← hUe]; exact uses_any p.K p.t0 p.t1 p.f0 p.f1 p.f2 p.f3 p.N w
            have HUr : Hid (∀ w, Calls Tryd.prog 15 #[.agg #[.int .i64 r.K, .int .i64 r.t0, .int .i64 r.t1, .int .i64 r.f0, .int .i64 r.f1, .int .i64 r.f2, .int .i64 r.f3, .int .u32 r.N]] w fun e w' => ∃ v, e = .returned v ∧ w'.ownsRow w.heap.size 3 1 v R.length (iCells R) ∧ Below w.heap.size w w') := fun w => by
              rw [← hRe]; exact uses_any r.K r.t0 r.t1 r.f0 r.f1 r.f2 r.f3 r.N w
            have eU : ((U.length : Int) == (R.length : Int)) = true := by rw [Hlen.out]; simp
            have Kp : Hid (∀ w', Below wA.heap.size wA w' → (w'.cell? ⟨wr.heap.size, 0, none⟩ = some (.int .i64 p.K) ∧ w'.cell? ⟨wr.heap.size, 1, none⟩ = some (.int .i64 p.t0) ∧ w'.cell? ⟨wr.heap.size, 2, none⟩ = some (.int .i64 p.t1) ∧ w'.cell? ⟨wr.heap.size, 3, none⟩ = some (.int .i64 p.f0) ∧ w'.cell? ⟨wr.heap.size, 4, none⟩ = some (.int .i64 p.f1) ∧ w'.cell? ⟨wr.heap.size, 5, none⟩ = some (.int .i64 p.f2) ∧ w'.cell? ⟨wr.heap.size, 6, none⟩ = some (.int .i64 p.f3) ∧ w'.cell? ⟨wr.heap.size, 7, none⟩ = some (.int .u32 p.N)) ∧
              (w'.cell? ⟨b, ob + k * 8, none⟩ = some (.int .i64 r.K) ∧ w'.cell? ⟨b, ob + k * 8 + 1, none⟩ = some (.int .i64 r.t0) ∧ w'.cell? ⟨b, ob + k * 8 + 2, none⟩ = some (.int .i64 r.t1) ∧ w'.cell? ⟨b, ob + k * 8 + 3, none⟩ = some (.int .i64 r.f0) ∧ w'.cell? ⟨b, ob + k * 8 + 4, none⟩ = some (.int .i64 r.f1) ∧ w'.cell? ⟨b, ob + k * 8 + 5, none⟩ = some (.int .i64 r.f2) ∧ w'.cell? ⟨b, ob + k * 8 + 6, none⟩ = some (.int .i64 r.f3) ∧ w'.cell? ⟨b, ob + k * 8 + 7, none⟩ = some (.int .u32 r.N))) := fun w' h =>
              ⟨⟨(h.cell (p := ⟨_, 0, none⟩) hlA).trans d0, (h.cell (p := ⟨_, 1, none⟩) hlA).trans d1, (h.cell (p := ⟨_, 2, none⟩) hlA).trans d2, (h.cell (p := ⟨_, 3, none⟩) hlA).trans d3, (h.cell (p := ⟨_, 4, none⟩) hlA).trans d4, (h.cell (p := ⟨_, 5, none⟩) hlA).trans d5, (h.cell (p := ⟨_, 6, none⟩) hlA).trans d6, (h.cell (p := ⟨_, 7, none⟩) hlA).trans d7⟩,
                ⟨(h.cell (p := ⟨b, _, none⟩) hbl).trans e0, (h.cell (p := ⟨b, _, none⟩) hbl).trans e1, (h.cell (p := ⟨b, _, none⟩) hbl).trans e2, (h.cell (p := ⟨b, _, none⟩) hbl).trans e3, (h.cell (p := ⟨b, _, none⟩) hbl).trans e4, (h.cell (p := ⟨b, _, none⟩) hbl).trans e5, (h.cell (p := ⟨b, _, none⟩) hbl).trans e6, (h.cell (p := ⟨b, _, none⟩) hbl).trans e7⟩⟩
            have hD : Below wA.heap.size wA wA.drew := (Below.refl _ wA).drew
            clear hc ho2 hlen hK hNr hUe hRe hU4
            go_wp2_with fail
            go_region_held3 (fun w' => (w'.cell? ⟨wr.heap.size, 0, none⟩ = some (.int .i64 p.K) ∧ w'.cell? ⟨wr.heap.size, 1, none⟩ = some (.int .i64 p.t0) ∧ w'.cell? ⟨wr.heap.size, 2, none⟩ = some (.int .i64 p.t1) ∧ w'.cell? ⟨wr.heap.size, 3, none⟩ = some (.int .i64 p.f0) ∧ w'.cell? ⟨wr.heap.size, 4, none⟩ = some (.int .i64 p.f1) ∧ w'.cell? ⟨wr.heap.size, 5, none⟩ = some (.int .i64 p.f2) ∧ w'.cell? ⟨wr.heap.size, 6, none⟩ = some (.int .i64 p.f3) ∧ w'.cell? ⟨wr.heap.size, 7, none⟩ = some (.int .u32 p.N)) ∧
                (w'.cell? ⟨b, ob + k * 8, none⟩ = some (.int .i64 r.K) ∧ w'.cell? ⟨b, ob + k * 8 + 1, none⟩ = some (.int .i64 r.t0) ∧ w'.cell? ⟨b, ob + k * 8 + 2, none⟩ = some (.int .i64 r.t1) ∧ w'.cell? ⟨b, ob + k * 8 + 3, none⟩ = some (.int .i64 r.f0) ∧ w'.cell? ⟨b, ob + k * 8 + 4, none⟩ = some (.int .i64 r.f1) ∧ w'.cell? ⟨b, ob + k * 8 + 5, none⟩ = some (.int .i64 r.f2) ∧ w'.cell? ⟨b, ob + k * 8 + 6, none⟩ = some (.int .i64 r.f3) ∧ w'.cell? ⟨b, ob + k * 8 + 7, none⟩ = some (.int .u32 r.N)))
              (first
                | go_keep
                | exact Kp.out _ ((hD.trans hbu).trans (hbv.mono (hD.trans hbu).size))
                | exact Kp.out _ ((hD.trans hbv).trans (hbu.mono (hD.trans hbv).size))
                | exact Kp.out _ (hD.trans hbu)
                | exact Kp.out _ (hD.trans hbv)
                | exact Kp.out _ hD)
              (first
                | (go_at_call 15; with_reducible refine (HUp.out _).mono ?_; rintro e wu ⟨vu, rfl, hou, hbu⟩; obtain ⟨xu, cu, rfl, hcu⟩ := own_slice hou)
                | (go_at_call 15; with_reducible refine (HUr.out _).mono ?_; rintro e wv ⟨vv, rfl, hov, hbv⟩; obtain ⟨xv, cv, rfl, hcv⟩ := own_slice hov))
            all_goals
              have hbz := (by first | exact (hD.trans hbu).trans (hbv.mono (hD.trans hbu).size) | exact (hD.trans hbv).trans (hbu.mono (hD.trans hbv).size) : Below wA.heap.size wA _)
              have HBz := Lib.hid (HBA.out.trans (hbz.mono HBA.out.size))
              clear hbz hou hov hbu hbv hD
              go_wp2_with fail
              exact ⟨⟨j + 1, k + 1, by omega, by omega, by simp, by simp, HBz.out, HO2.out⟩, by simp only [intOf]; omega⟩
          · have HO2 := Lib.hid ho2
            rw [hsl2]
            clear ho2 hsl2
            by_cases hkn : k < n
            · have hk' : k < L.length := by rw [HN.out]; exact hkn
              obtain ⟨b, ob, rfl, hbl, hc⟩ := HYA.out.resolve_left (by omega)
              obtain ⟨e0, e1, e2, e3, e4, e5, e6, e7⟩ := hc k hk'
              have hlk := hnl hk'
              generalize L[k]'hk' = r at e0 e1 e2 e3 e4 e5 e6 e7 hlk
              clear hc hnl
              cases eK : (p.K == r.K)
              · clear hlk
                go_wp2_with fail
                go_quiet (fail)
                go_wp2_with fail
                exact ⟨⟨j + 1, k, by omega, by omega, by simp, by simp, (HBA.out.trans ((below_dN wA nq).mono HBA.out.size)), HO2.out⟩, by simp only [intOf]; omega⟩
              · cases eN : (p.N == r.N)
                · clear hlk
                  go_wp2_with fail
                  go_quiet (fail)
                  go_wp2_with fail
                  exact ⟨⟨j + 1, k, by omega, by omega, by simp, by simp, (HBA.out.trans ((below_dN wA nq).mono HBA.out.size)), HO2.out⟩, by simp only [intOf]; omega⟩
                · unfold likeB at hlk
                  rw [eK, eN, Bool.true_and, Bool.true_and] at hlk
                  have Hlk := Lib.hid hlk
                  clear hlk
                  generalize hUe : regsOf [p.f0, p.f1, p.f2, p.f3] = U at Hlk
                  generalize hRe : regsOf [r.f0, r.f1, r.f2, r.f3] = R at Hlk
                  have HUp : Hid (∀ w, Calls Tryd.prog 15 #[.agg #[.int .i64 p.K, .int .i64 p.t0, .int .i64 p.t1, .int .i64 p.f0, .int .i64 p.f1, .int .i64 p.f2, .int .i64 p.f3, .int .u32 p.N]] w fun e w' => ∃ v, e = .returned v ∧ w'.ownsRow w.heap.size 3 1 v U.length (iCells U) ∧ Below w.heap.size w w') := fun w => by
                    rw [← hUe]; exact uses_any p.K p.t0 p.t1 p.f0 p.f1 p.f2 p.f3 p.N w
                  have HUr : Hid (∀ w, Calls Tryd.prog 15 #[.agg #[.int .i64 r.K, .int .i64 r.t0, .int .i64 r.t1, .int .i64 r.f0, .int .i64 r.f1, .int .i64 r.f2, .int .i64 r.f3, .int .u32 r.N]] w fun e w' => ∃ v, e = .returned v ∧ w'.ownsRow w.heap.size 3 1 v R.length (iCells R) ∧ Below w.heap.size w w') := fun w => by
                    rw [← hRe]; exact uses_any r.K r.t0 r.t1 r.f0 r.f1 r.f2 r.f3 r.N w
                  have eU : ((U.length : Int) == (R.length : Int)) = false := by
                    have := Hlk.out
                    simp at this ⊢
                    omega
                  have Kp : Hid (∀ w', Below wA.heap.size wA w' → (w'.cell? ⟨wr.heap.size, 0, none⟩ = some (.int .i64 p.K) ∧ w'.cell? ⟨wr.heap.size, 1, none⟩ = some (.int .i64 p.t0) ∧ w'.cell? ⟨wr.heap.size, 2, none⟩ = some (.int .i64 p.t1) ∧ w'.cell? ⟨wr.heap.size, 3, none⟩ = some (.int .i64 p.f0) ∧ w'.cell? ⟨wr.heap.size, 4, none⟩ = some (.int .i64 p.f1) ∧ w'.cell? ⟨wr.heap.size, 5, none⟩ = some (.int .i64 p.f2) ∧ w'.cell? ⟨wr.heap.size, 6, none⟩ = some (.int .i64 p.f3) ∧ w'.cell? ⟨wr.heap.size, 7, none⟩ = some (.int .u32 p.N)) ∧
                    (w'.cell? ⟨b, ob + k * 8, none⟩ = some (.int .i64 r.K) ∧ w'.cell? ⟨b, ob + k * 8 + 1, none⟩ = some (.int .i64 r.t0) ∧ w'.cell? ⟨b, ob + k * 8 + 2, none⟩ = some (.int .i64 r.t1) ∧ w'.cell? ⟨b, ob + k * 8 + 3, none⟩ = some (.int .i64 r.f0) ∧ w'.cell? ⟨b, ob + k * 8 + 4, none⟩ = some (.int .i64 r.f1) ∧ w'.cell? ⟨b, ob + k * 8 + 5, none⟩ = some (.int .i64 r.f2) ∧ w'.cell? ⟨b, ob + k * 8 + 6, none⟩ = some (.int .i64 r.f3) ∧ w'.cell? ⟨b, ob + k * 8 + 7, none⟩ = some (.int .u32 r.N))) := fun w' h =>
                    ⟨⟨(h.cell (p := ⟨_, 0, none⟩) hlA).trans d0, (h.cell (p := ⟨_, 1, none⟩) hlA).trans d1, (h.cell (p := ⟨_, 2, none⟩) hlA).trans d2, (h.cell (p := ⟨_, 3, none⟩) hlA).trans d3, (h.cell (p := ⟨_, 4, none⟩) hlA).trans d4, (h.cell (p := ⟨_, 5, none⟩) hlA).trans d5, (h.cell (p := ⟨_, 6, none⟩) hlA).trans d6, (h.cell (p := ⟨_, 7, none⟩) hlA).trans d7⟩,
                      ⟨(h.cell (p := ⟨b, _, none⟩) hbl).trans e0, (h.cell (p := ⟨b, _, none⟩) hbl).trans e1, (h.cell (p := ⟨b, _, none⟩) hbl).trans e2, (h.cell (p := ⟨b, _, none⟩) hbl).trans e3, (h.cell (p := ⟨b, _, none⟩) hbl).trans e4, (h.cell (p := ⟨b, _, none⟩) hbl).trans e5, (h.cell (p := ⟨b, _, none⟩) hbl).trans e6, (h.cell (p := ⟨b, _, none⟩) hbl).trans e7⟩⟩
                  have hD : Below wA.heap.size wA wA.drew := (Below.refl _ wA).drew
                  clear hUe hRe hU4
                  go_wp2_with fail
                  go_region_held3 (fun w' => (w'.cell? ⟨wr.heap.size, 0, none⟩ = some (.int .i64 p.K) ∧ w'.cell? ⟨wr.heap.size, 1, none⟩ = some (.int .i64 p.t0) ∧ w'.cell? ⟨wr.heap.size, 2, none⟩ = some (.int .i64 p.t1) ∧ w'.cell? ⟨wr.heap.size, 3, none⟩ = some (.int .i64 p.f0) ∧ w'.cell? ⟨wr.heap.size, 4, none⟩ = some (.int .i64 p.f1) ∧ w'.cell? ⟨wr.heap.size, 5, none⟩ = some (.int .i64 p.f2) ∧ w'.cell? ⟨wr.heap.size, 6, none⟩ = some (.int .i64 p.f3) ∧ w'.cell? ⟨wr.heap.size, 7, none⟩ = some (.int .u32 p.N)) ∧
                      (w'.cell? ⟨b, ob + k * 8, none⟩ = some (.int .i64 r.K) ∧ w'.cell? ⟨b, ob + k * 8 + 1, none⟩ = some (.int .i64 r.t0) ∧ w'.cell? ⟨b, ob + k * 8 + 2, none⟩ = some (.int .i64 r.t1) ∧ w'.cell? ⟨b, ob + k * 8 + 3, none⟩ = some (.int .i64 r.f0) ∧ w'.cell? ⟨b, ob + k * 8 + 4, none⟩ = some (.int .i64 r.f1) ∧ w'.cell? ⟨b, ob + k * 8 + 5, none⟩ = some (.int .i64 r.f2) ∧ w'.cell? ⟨b, ob + k * 8 + 6, none⟩ = some (.int .i64 r.f3) ∧ w'.cell? ⟨b, ob + k * 8 + 7, none⟩ = some (.int .u32 r.N)))
                    (first
                      | go_keep
                      | exact Kp.out _ ((hD.trans hbu).trans (hbv.mono (hD.trans hbu).size))
                      | exact Kp.out _ ((hD.trans hbv).trans (hbu.mono (hD.trans hbv).size))
                      | exact Kp.out _ (hD.trans hbu)
                      | exact Kp.out _ (hD.trans hbv)
                      | exact Kp.out _ hD)
                    (first
                      | (go_at_call 15; with_reducible refine (HUp.out _).mono ?_; rintro e wu ⟨vu, rfl, hou, hbu⟩; obtain ⟨xu, cu, rfl, hcu⟩ := own_slice hou)
                      | (go_at_call 15; with_reducible refine (HUr.out _).mono ?_; rintro e wv ⟨vv, rfl, hov, hbv⟩; obtain ⟨xv, cv, rfl, hcv⟩ := own_slice hov))
                  all_goals
                    have hbz := (by first | exact (hD.trans hbu).trans (hbv.mono (hD.trans hbu).size) | exact (hD.trans hbv).trans (hbu.mono (hD.trans hbv).size) : Below wA.heap.size wA _)
                    have HBz := Lib.hid (HBA.out.trans (hbz.mono HBA.out.size))
                    clear hbz hou hov hbu hbv hD
                    go_wp2_with fail
                    exact ⟨⟨j + 1, k, by omega, by omega, by simp, by simp, HBz.out, HO2.out⟩, by simp only [intOf]; omega⟩
            · clear hnl
              go_wp2_with fail
              go_quiet (fail)
              go_wp2_with fail
              exact ⟨⟨j + 1, k, by omega, by omega, by simp, by simp, (HBA.out.trans ((below_dN wA nq).mono HBA.out.size)), HO2.out⟩, by simp only [intOf]; omega⟩
        · have hjn : j = O.length := by omega
          rw [hjn, List.drop_length, orderV, HN.out] at ho
          injection ho with ho
          subst ho
          clear hjn
          go_wp2_with fail
          go_ret
          exact ⟨rfl, H3.out.trans (HB.out.mono H3.out.size)⟩
    · have ea0 : (ea != (0 : Int)) = true := by simpa using hea
      go_wp2_with fail
      go_ret
      exact ⟨rfl, H2.out.trans (hbA.mono H2.out.size)⟩
theorem allocOrder_row (x : Option Addr) (len cap : Nat) (zs : List Op8) (a : Int) (w : World) (hS : HasRows w) (hw : OpsRow w x len zs ∧ len ≤ cap ∧ cap ≤ maxLen) (_ : (Lit.int .i64 a).wf = true) :
    Calls Tryd.prog 5 #[.slice x len cap, .int .i64 a] w fun e w' => e = .returned (.bool true) ∧ Below w.heap.size w w' :=
  allocOrder_walk x len cap zs a w hS hw.1.2.1 hw.1.1 hw.2.1 hw.1.2.2
end Go.Proofs.YtmkencdkglbpbaaDoor
