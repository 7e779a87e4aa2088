/- AllocBases: the walk. -/
import Derived.Test.YtmkencdkglbpbaaDoorAlY
import Derived.Test.YtmkencdkglbpbaaDoorAlR
import Derived.Test.YtmkencdkglbpbaaDoorOpEq
import Derived.Test.YtmkencdkglbpbaaDoorRowO
set_option maxRecDepth 100000
set_option linter.unusedVariables false
namespace Go.Proofs.YtmkencdkglbpbaaDoor
open Go.RowKit Go.Maps

set_option maxHeartbeats 8000000 in
theorem allocBases_walk (x : Option Addr) (n cc : Nat) (L : List Op8) (a b : Int) (w : World) (hS : HasRows w) (hL : OpsSl w x L) (hn : L.length = n) (hnc : n ≤ cc) (hN : ∀ o ∈ L, 0 ≤ o.N ∧ o.N < 4294967296) :
    Calls Tryd.prog 4 #[.slice x n cc, .int .i64 a, .int .i64 b] w fun e w' => e = .returned (.bool true) ∧ Below w.heap.size w w' := by
  have HA := Lib.hid (anchor17_any w hS)
  have HS := Lib.hid hS
  have HL := Lib.hid hL
  have HN := Lib.hid hn
  have HNN := Lib.hid hN
  clear hS hL hn hN
  by_cases h60 : n > 60
  · go_enter Tryd.func4, Tryd.ntmps4
    go_wp2_with fail
    refine HA.out.mono ?_
    rintro e w1 ⟨rfl, hb1⟩
    have H1 := Lib.hid hb1
    clear hb1
    go_wp2_with fail
    go_ret
    exact ⟨rfl, H1.out⟩
  · obtain ⟨V, hV⟩ : ∃ V, V = allocF L a := ⟨_, rfl⟩
    obtain ⟨U, hU⟩ : ∃ U, U = allocF L b := ⟨_, rfl⟩
    have HC : Hid (∀ (wq : World) (c : Int), HasRows wq → OpsSl wq x L → Calls Tryd.prog 12 #[.slice x n cc, .int .i64 c] wq fun e w' => ∃ vo, e = .returned (.tuple #[.agg #[vo, .int .i64 (allocF L c).2.1], .int .i64 (allocF L c).2.2]) ∧ w'.ownsRow wq.heap.size 37 8 vo (allocF L c).1.length (outC (allocF L c).1) ∧ Below wq.heap.size wq w') :=
      fun wq c h1 h2 => alloc_any x n cc L c wq h1 h2 HN.out (by omega) hnc HNN.out
    have HCV : Hid (∀ (wq : World), HasRows wq → OpsSl wq x L → Calls Tryd.prog 12 #[.slice x n cc, .int .i64 a] wq fun e w' => ∃ vo, e = .returned (.tuple #[.agg #[vo, .int .i64 V.2.1], .int .i64 V.2.2]) ∧ w'.ownsRow wq.heap.size 37 8 vo V.1.length (outC V.1) ∧ Below wq.heap.size wq w') := by
      rw [hV]; exact fun wq h1 h2 => HC.out wq a h1 h2
    have HCU : Hid (∀ (wq : World), HasRows wq → OpsSl wq x L → Calls Tryd.prog 12 #[.slice x n cc, .int .i64 b] wq fun e w' => ∃ vo, e = .returned (.tuple #[.agg #[vo, .int .i64 U.2.1], .int .i64 U.2.2]) ∧ w'.ownsRow wq.heap.size 37 8 vo U.1.length (outC U.1) ∧ Below wq.heap.size wq w') := by
      rw [hU]; exact fun wq h1 h2 => HC.out wq b h1 h2
    have HLaw : Hid (V.2.2 = 0 → U.2.2 = 0 → (0 ≤ a ∧ a ≤ 1020) ∧ (0 ≤ b ∧ b ≤ 1020) ∧ V.2.1 = U.2.1 ∧ RelL a b V.1 U.1 ∧ ∀ o ∈ V.1, 0 ≤ o.N ∧ o.N < 4294967296) := by
      rw [hV, hU]
      intro h1 h2
      obtain ⟨p1, p2⟩ := allocF_bases h1 h2
      obtain ⟨_, q0, q1, _, s, S, _, hR, he, hr⟩ := allocF_ok h1
      obtain ⟨_, q0', q1', _⟩ := allocF_ok h2
      refine ⟨⟨q0, q1⟩, ⟨q0', q1'⟩, p1, p2, ?_⟩
      have := weave_bd q0 (hR.inv.low he) hR.inv.wv HNN.out
      rw [hr]; exact this
    clear hV hU HC
    obtain ⟨O, sl, ea⟩ := V
    obtain ⟨O', sl', eb⟩ := U
    go_enter Tryd.func4, Tryd.ntmps4
    go_wp2_with fail
    refine HA.out.mono ?_
    rintro e w1 ⟨rfl, hb1⟩
    have H1 := Lib.hid hb1
    clear hb1 HA
    go_wp2_with fail
    refine (HCV.out w1 (HS.out.below H1.out) (HL.out.below H1.out)).mono ?_
    rintro e w2 ⟨vo, rfl, hown, hb2⟩
    obtain ⟨x2, c2, rfl, hc2, hO2, hg2, hm2⟩ := outs_ops hown
    have H2 := Lib.hid (H1.out.trans (hb2.mono H1.out.size))
    have hbA := (Below.refl _ w2).alloc (Nat.le_refl _) (.cells #[.slice x2 O.length c2, .int .i64 sl] 25)
    have z0 : (w2.alloc (.cells #[.slice x2 O.length c2, .int .i64 sl] 25)).cell? ⟨w2.heap.size, 0, none⟩ = some (.slice x2 O.length c2) := by rw [World.cell?_alloc_at _ _ _ _ rfl]; rfl
    have z1 : (w2.alloc (.cells #[.slice x2 O.length c2, .int .i64 sl] 25)).cell? ⟨w2.heap.size, 1, none⟩ = some (.int .i64 sl) := by rw [World.cell?_alloc_at _ _ _ _ rfl]; rfl
    have zl : w2.heap.size < (w2.alloc (.cells #[.slice x2 O.length c2, .int .i64 sl] 25)).heap.size := by simp
    have HO2 := Lib.hid hO2
    clear hown hb2 hO2 hg2 hc2
    simp only at z0 z1 zl hbA ⊢
    go_wp2_with fail
    generalize w2.alloc _ = w3 at hbA z0 z1 zl ⊢
    have H3 := Lib.hid (H2.out.trans (hbA.mono H2.out.size))
    have HO3 := Lib.hid (HO2.out.below hbA)
    have Z0 := Lib.hid z0
    have Z1 := Lib.hid z1
    clear hbA HO2 z0 z1
    refine (HCU.out w3 (HS.out.below H3.out) (HL.out.below H3.out)).mono ?_
    rintro e w4 ⟨vo', rfl, hown, hb4⟩
    obtain ⟨x4, c4, rfl, hc4, hO4, hg4, -⟩ := outs_ops hown
    have H4 := Lib.hid (H3.out.trans (hb4.mono H3.out.size))
    have hbA := (Below.refl _ w4).alloc (Nat.le_refl _) (.cells #[.slice x4 O'.length c4, .int .i64 sl'] 25)
    have y0 : (w4.alloc (.cells #[.slice x4 O'.length c4, .int .i64 sl'] 25)).cell? ⟨w4.heap.size, 0, none⟩ = some (.slice x4 O'.length c4) := by rw [World.cell?_alloc_at _ _ _ _ rfl]; rfl
    have y1 : (w4.alloc (.cells #[.slice x4 O'.length c4, .int .i64 sl'] 25)).cell? ⟨w4.heap.size, 1, none⟩ = some (.int .i64 sl') := by rw [World.cell?_alloc_at _ _ _ _ rfl]; rfl
    have yl : w4.heap.size < (w4.alloc (.cells #[.slice x4 O'.length c4, .int .i64 sl'] 25)).heap.size := by simp
    have HO4 := Lib.hid (hO4.below hbA)
    have HO5 := Lib.hid ((HO3.out.below hb4).below hbA)
    have z0 := (hbA.cell (p := ⟨w2.heap.size, 0, none⟩) (Nat.lt_of_lt_of_le zl hb4.size)).trans ((hb4.cell (p := ⟨w2.heap.size, 0, none⟩) zl).trans Z0.out)
    have z1 := (hbA.cell (p := ⟨w2.heap.size, 1, none⟩) (Nat.lt_of_lt_of_le zl hb4.size)).trans ((hb4.cell (p := ⟨w2.heap.size, 1, none⟩) zl).trans Z1.out)
    have zl4 : w2.heap.size < (w4.alloc (.cells #[.slice x4 O'.length c4, .int .i64 sl'] 25)).heap.size := Nat.lt_of_lt_of_le zl (Nat.le_trans hb4.size hbA.size)
    have H5 := Lib.hid (H4.out.trans (hbA.mono H4.out.size))
    clear hown hb4 hO4 hg4 hc4 hbA
    by_cases hea : ea = 0
    · by_cases heb : eb = 0
      · subst hea
        subst heb
        obtain ⟨ha, hb, hsl, hrel, hbd⟩ := HLaw.out rfl rfl
        have hsl' : sl = sl' := hsl
        subst hsl'
        have hlen : O.length = O'.length := hrel.1
        have Hrel := Lib.hid hrel
        have Hbd := Lib.hid hbd
        have elen : ((O.length : Int) != (O'.length : Int)) = false := by rw [hlen]; simp
        have Hlen := Lib.hid hlen
        clear hrel hbd hsl hlen HLaw HCV HCU
        have hmm : O.length ≤ 9223372036854775807 := by unfold maxLen at hm2; omega
        clear hm2
        go_wp2_with fail
        generalize w4.alloc _ = w5 at y0 y1 yl HO4 HO5 z0 z1 zl4 H5 ⊢
        have Y0 := Lib.hid y0
        have Z2 := Lib.hid z0
        clear y0 y1 z0 z1
        have heq2 := run_eq2_same
        have heq4 := run_eq4_same
        go_loopw [54] (fun i wr => ∃ k : Nat, k ≤ O.length ∧ i = .int .i64 k ∧ Below w5.heap.size w5 wr) (fun i _ => O.length - (intOf i).toNat)
        case atStart => exact ⟨0, Nat.zero_le _, rfl, Below.refl _ _⟩
        case round =>
          obtain ⟨k, hk, rfl, hB⟩ := hrel
          have hX := HO5.out.below hB
          have hY := HO4.out.below hB
          have z0 := (hB.cell (p := ⟨w2.heap.size, 0, none⟩) zl4).trans Z2.out
          have y0 := (hB.cell (p := ⟨w4.heap.size, 0, none⟩) yl).trans Y0.out
          have hl2 : w2.heap.size < wr.heap.size := Nat.lt_of_lt_of_le zl4 hB.size
          have hl4 : w4.heap.size < wr.heap.size := Nat.lt_of_lt_of_le yl hB.size
          have HB := Lib.hid hB
          have hsz := hB.size
          clear hB
          by_cases hlt : k < O.length
          · have hlt' : k < O'.length := by rw [← Hlen.out]; exact hlt
            obtain ⟨g, o, rfl, hgl, hc⟩ := hX.resolve_left (by omega)
            obtain ⟨g', o', rfl, hgl', hc'⟩ := hY.resolve_left (by omega)
            obtain ⟨c0, c1, c2', c3, c4', c5, c6, c7⟩ := hc k hlt
            obtain ⟨d0, d1, d2, d3, d4, d5, d6, d7⟩ := hc' k hlt'
            have hr := Hrel.out.2 k O[k] O'[k] (List.getElem?_eq_getElem hlt) (List.getElem?_eq_getElem hlt')
            have hbd := Hbd.out _ (List.getElem_mem hlt)
            have wq : IntKind.i64.wrap ((k : Int) + 1) = (k : Int) + 1 := IntWalk.i64_in _ (by omega)
            generalize O[k]'hlt = p at c0 c1 c2' c3 c4' c5 c6 c7 hr hbd
            generalize O'[k]'hlt' = r at d0 d1 d2 d3 d4 d5 d6 d7 hr
            have n1 : g ≠ wr.heap.size := by omega
            have n2 : g' ≠ wr.heap.size := by omega
            have n3 : g' ≠ wr.heap.size + 1 := by omega
            have n4 : w4.heap.size ≠ wr.heap.size := by omega
            clear hc hc' hX hY
            have hsame : p = r ∨ (p.N ≠ r.N ∧ (p.K = 2 ∨ p.K = 3) ∧ ∃ t, 0 ≤ t ∧ p.N = a + t ∧ r = { p with N := b + t }) := by
              rcases hr with h | ⟨h1, t, h2, h3, h4⟩
              · exact .inl h
              · by_cases hab : a = b
                · subst hab
                  refine .inl ?_
                  rw [h4, ← h3]
                · exact .inr ⟨by rw [h3, h4]; show a + t ≠ b + t; omega, h1, t, h2, h3, h4⟩
            rcases hsame with rfl | ⟨hne, hK, t, ht0, hpN, rfl⟩
            · clear hr hbd
              go_wp2_with fail
              exact ⟨⟨k + 1, by omega, by simp, (HB.out.alloc HB.out.size _).alloc (Nat.le_trans HB.out.size (by simp)) _⟩, by simp only [intOf]; omega⟩
            · obtain ⟨M, hM⟩ : ∃ M, M = b + t := ⟨_, rfl⟩
              dsimp only at d0 d1 d2 d3 d4 d5 d6 d7 hne hK hpN
              rw [← hM] at d7 hne
              have wb : IntKind.u32.wrap b = b := IntWalk.u32_in _ (by omega)
              have wa : IntKind.u32.wrap a = a := IntWalk.u32_in _ (by omega)
              have w1 : IntKind.u32.wrap (M - b) = M - b := IntWalk.u32_in _ (by omega)
              have w2 : IntKind.u32.wrap (M - b + a) = p.N := (IntWalk.u32_in _ (by omega)).trans (by omega)
              have eN : (p.N == M) = false := by simpa using hne
              clear hM hpN hne hr hbd
              rcases hK with hK | hK
              · rw [hK] at c0 d0
                go_wp2_with fail
                exact ⟨⟨k + 1, by omega, by simp, (HB.out.alloc HB.out.size _).alloc (Nat.le_trans HB.out.size (by simp)) _⟩, by simp only [intOf]; omega⟩
              · rw [hK] at c0 d0
                go_wp2_with fail
                exact ⟨⟨k + 1, by omega, by simp, (HB.out.alloc HB.out.size _).alloc (Nat.le_trans HB.out.size (by simp)) _⟩, by simp only [intOf]; omega⟩
          · go_wp2_with fail
            go_ret
            exact ⟨rfl, H5.out.trans (HB.out.mono H5.out.size)⟩
      · have eb0 : (eb != (0 : Int)) = true := by simpa using heb
        go_wp2_with fail
        go_ret
        exact ⟨rfl, H5.out⟩
    · have ea0 : (ea != (0 : Int)) = true := by simpa using hea
      go_wp2_with fail
      go_ret
      exact ⟨rfl, H5.out⟩
theorem allocBases_row (x : Option Addr) (len cap : Nat) (zs : List Op8) (a b : Int) (w : World) (hS : HasRows w) (hw : OpsRow w x len zs ∧ len ≤ cap ∧ cap ≤ maxLen) (_ : (Lit.int .i64 a).wf = true) (_ : (Lit.int .i64 b).wf = true) :
    Calls Tryd.prog 4 #[.slice x len cap, .int .i64 a, .int .i64 b] w fun e w' => e = .returned (.bool true) ∧ Below w.heap.size w w' :=
  allocBases_walk x len cap zs a b w hS hw.1.2.1 hw.1.1 hw.2.1 hw.1.2.2
end Go.Proofs.YtmkencdkglbpbaaDoor
