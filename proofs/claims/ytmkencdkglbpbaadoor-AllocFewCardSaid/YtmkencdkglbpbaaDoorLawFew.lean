/- AllocFew: the walk. -/
import Derived.Test.YtmkencdkglbpbaaDoorAlY
import Derived.Test.YtmkencdkglbpbaaDoorPress
import Derived.Test.YtmkencdkglbpbaaDoorPressR
import Derived.Test.YtmkencdkglbpbaaDoorRowO
import Derived.Deep.RegionHeld3
set_option maxRecDepth 100000
set_option linter.unusedVariables false
namespace Go.Proofs.YtmkencdkglbpbaaDoor
open Go.RowKit Go.Maps

theorem allocF_err {L : List Op8} {base : Int} (h : (allocF L base).2.2 ≠ 0) : (allocF L base).1 = [] := by
  unfold allocF at h ⊢
  by_cases h1 : listV [] L = false
  · rw [if_pos h1]
  rw [if_neg h1] at h ⊢
  by_cases h2 : base < 0 ∨ base > 1020 ∨ base % 4 ≠ 0
  · rw [if_pos h2]
  rw [if_neg h2] at h ⊢
  simp only at h ⊢
  split
  · rename_i h3; rw [if_pos h3] at h; exact absurd rfl h
  · rfl
theorem outs_any {w : World} {B : Nat} {e : TypeId} {v : Value} {O : List Op8} (h : w.ownsRow B e 8 v O.length (outC O)) : ∃ x c, v = .slice x O.length c ∧ O.length ≤ c ∧ OpsSl w x O := by
  rcases h.2 with ⟨hv, h0⟩ | ⟨g, cap, cur, rfl, hg, hh, hc, _⟩
  · exact ⟨none, 0, by rw [hv, h0], by omega, .inl h0⟩
  · refine ⟨_, cap, rfl, hc, .inr ⟨g, 0, rfl, lt_of_block hh, fun i hi => ?_⟩⟩
    have hadd : ∀ j, (⟨g, 0, none⟩ : Addr).add j = ⟨g, 0 + j, none⟩ := fun j => by unfold Addr.add; split <;> simp_all
    have each : ∀ j, j < 8 → ∀ u, (opCellsA O[i])[j]? = some u → w.cell? ⟨g, 0 + (i * 8 + j), none⟩ = some u := fun j hj u hu => by
      have := h.cells (g := g) rfl (i * 8 + j) u (by rw [outC_get O i hi j hj]; exact hu)
      rw [hadd] at this; exact this
    refine ⟨?_, ?_, ?_, ?_, ?_, ?_, ?_, ?_⟩
    · simpa using each 0 (by omega) _ rfl
    · simpa [Nat.add_assoc] using each 1 (by omega) _ rfl
    · simpa [Nat.add_assoc] using each 2 (by omega) _ rfl
    · simpa [Nat.add_assoc] using each 3 (by omega) _ rfl
    · simpa [Nat.add_assoc] using each 4 (by omega) _ rfl
    · simpa [Nat.add_assoc] using each 5 (by omega) _ rfl
    · simpa [Nat.add_assoc] using each 6 (by omega) _ rfl
    · simpa [Nat.add_assoc] using each 7 (by omega) _ rfl
theorem tos_of {o : Op8} (h : rightV o.K o.t0 o.t1 o.f0 o.f1 o.f2 o.f3 o.N = true) : (o.t0 = -1 ∨ 0 ≤ o.t0) ∧ (o.t1 = -1 ∨ 0 ≤ o.t1) := by
  obtain ⟨k, _, R⟩ := rightOp_of h
  have b0 := (okAt_iff _ _ _).1 R.pt0
  have b1 := (okAt_iff _ _ _).1 R.pt1
  omega
set_option maxHeartbeats 8000000 in
theorem allocFew_walk (x : Option Addr) (n cc : Nat) (L : List Op8) (a : Int) (w : World) (hS : HasRows w) (hL : OpsSl w x L) (hn : L.length = n) (hnc : n ≤ cc) (hN : ∀ o ∈ L, 0 ≤ o.N ∧ o.N < 4294967296) :
    Calls Tryd.prog 6 #[.slice x n cc, .int .i64 a] w fun e w' => e = .returned (.bool true) ∧ Below w.heap.size w w' := by
  obtain ⟨i0, hi, hz0, hz1, hz2⟩ := info_parts Tryd.infoInt
  have HA := Lib.hid (anchor17_any w hS)
  have HS := Lib.hid hS
  have HL := Lib.hid hL
  have HN := Lib.hid hn
  have HNN := Lib.hid hN
  clear hS hL hn hN
  by_cases h60 : n > 60
  · go_enter Tryd.func6, Tryd.ntmps6
    go_wp2_with fail
    refine HA.out.mono ?_
    rintro e w1 ⟨rfl, hb1⟩
    have H1 := Lib.hid hb1
    clear hb1
    go_wp2_with fail
    go_ret
    exact ⟨rfl, H1.out⟩
  · obtain ⟨V, hV⟩ : ∃ V, V = allocF L a := ⟨_, rfl⟩
    have HCV : Hid (∀ (wq : World), HasRows wq → OpsSl wq x L → Calls Tryd.prog 12 #[.slice x n cc, .int .i64 a] wq fun e w' => ∃ vo, e = .returned (.tuple #[.agg #[vo, .int .i64 V.2.1], .int .i64 V.2.2]) ∧ w'.ownsRow wq.heap.size 37 8 vo V.1.length (outC V.1) ∧ Below wq.heap.size wq w') := by
      rw [hV]; exact fun wq h1 h2 => alloc_any x n cc L a wq h1 h2 HN.out (by omega) hnc HNN.out
    have HLaw : Hid (V.2.2 = 0 → (∀ o ∈ V.1, Eight o ∧ 0 ≤ o.N ∧ o.N < 4294967296) ∧ (∀ o ∈ L, rightV o.K o.t0 o.t1 o.f0 o.f1 o.f2 o.f3 o.N = true) ∧ (pressF L L 0 0 ≤ 8 → V.1.length = L.length ∧ V.2.1 = 0)) := by
      rw [hV]
      intro h1
      have p2 := allocF_eight h1
      obtain ⟨hlv, q0, q1, _, s, S, _, hR, he, hr⟩ := allocF_ok h1
      have hbd := weave_bd q0 (hR.inv.low he) hR.inv.wv HNN.out
      refine ⟨fun o ho => ⟨p2 o ho, ?_⟩, fun o ho => listV_all hlv ho, allocF_few h1⟩
      rw [hr] at ho; exact hbd o ho
    have HErr : Hid (V.2.2 ≠ 0 → V.1 = []) := by rw [hV]; exact allocF_err
    clear hV
    obtain ⟨O, sl, ea⟩ := V
    go_enter Tryd.func6, Tryd.ntmps6
    go_wp2_with fail
    refine HA.out.mono ?_
    rintro e w1 ⟨rfl, hb1⟩
    have H1 := Lib.hid hb1
    clear hb1 HA
    go_wp2_with fail
    refine (HCV.out w1 (HS.out.below H1.out) (HL.out.below H1.out)).mono ?_
    rintro e w2 ⟨vo, rfl, hown, hb2⟩
    obtain ⟨x2, c2, rfl, hc2, hO2, hg2, hm2⟩ := outs_ops hown
    have H2 := Lib.hid (H1.out.trans (hb2.mono H1.out.size))
    have hbA := (Below.refl _ w2).alloc (Nat.le_refl _) (.cells #[.slice x2 O.length c2, .int .i64 sl] 25)
    have z0 : (w2.alloc (.cells #[.slice x2 O.length c2, .int .i64 sl] 25)).cell? ⟨w2.heap.size, 0, none⟩ = some (.slice x2 O.length c2) := by rw [World.cell?_alloc_at _ _ _ _ rfl]; rfl
    have z1 : (w2.alloc (.cells #[.slice x2 O.length c2, .int .i64 sl] 25)).cell? ⟨w2.heap.size, 1, none⟩ = some (.int .i64 sl) := by rw [World.cell?_alloc_at _ _ _ _ rfl]; rfl
    have zl : w2.heap.size < (w2.alloc (.cells #[.slice x2 O.length c2, .int .i64 sl] 25)).heap.size := by simp
    have HO2 := Lib.hid hO2
    have hmm : O.length ≤ 9223372036854775807 := by unfold maxLen at hm2; exact hm2
    clear hown hb2 hO2 hg2 hc2 hm2
    simp only at z0 z1 zl hbA ⊢
    by_cases hea : ea = 0
    · subst hea
      obtain ⟨hei, hri, hfew⟩ := HLaw.out rfl
      have Hei := Lib.hid hei
      have Hri := Lib.hid hri
      have Hfew := Lib.hid hfew
      clear hei hri hfew HLaw HCV HErr
      go_wp2_with fail
      generalize w2.alloc _ = w3 at hbA z0 z1 zl ⊢
      have H3 := Lib.hid (H2.out.trans (hbA.mono H2.out.size))
      have HO3 := Lib.hid (HO2.out.below hbA)
      have HL3 := Lib.hid (HL.out.below H3.out)
      have HS3 := Lib.hid (HS.out.below H3.out)
      have Z0 := Lib.hid z0
      have Z1 := Lib.hid z1
      clear hbA HO2 z0 z1
      go_loopw [36] (fun i wr => ∃ j : Nat, j ≤ O.length ∧ i = .int .i64 j ∧ Below w3.heap.size w3 wr) (fun i _ => O.length - (intOf i).toNat)
      case atStart => exact ⟨0, Nat.zero_le _, rfl, Below.refl _ _⟩
      case round =>
        obtain ⟨j, hj, rfl, hB⟩ := hrel
        have hX := HO3.out.below hB
        have z0 := (hB.cell (p := ⟨w2.heap.size, 0, none⟩) zl).trans Z0.out
        have z1 := (hB.cell (p := ⟨w2.heap.size, 1, none⟩) zl).trans Z1.out
        have hl2 : w2.heap.size < wr.heap.size := Nat.lt_of_lt_of_le zl hB.size
        have HB := Lib.hid hB
        have hsz := hB.size
        clear hB
        by_cases hlt : j < O.length
        · obtain ⟨g, o, rfl, hgl, hc⟩ := hX.resolve_left (by omega)
          obtain ⟨c0, c1, c2', c3, c4', c5, c6, c7⟩ := hc j hlt
          obtain ⟨hp8, hpN⟩ := Hei.out _ (List.getElem_mem hlt)
          generalize O[j]'hlt = p at c0 c1 c2' c3 c4' c5 c6 c7 hp8 hpN
          have wq : IntKind.i64.wrap ((j : Int) + 1) = (j : Int) + 1 := IntWalk.i64_in _ (by omega)
          have n1 : g ≠ wr.heap.size := by omega
          have n2 : w2.heap.size ≠ wr.heap.size := by omega
          have hbA := (Below.refl _ wr).alloc (Nat.le_refl _) (.cells #[.int .i64 p.K, .int .i64 p.t0, .int .i64 p.t1, .int .i64 p.f0, .int .i64 p.f1, .int .i64 p.f2, .int .i64 p.f3, .int .u32 p.N] 37)
          have hOA := opAt_new wr p.K p.t0 p.t1 p.f0 p.f1 p.f2 p.f3 p.N
          have hlA : wr.heap.size < (wr.alloc (.cells #[.int .i64 p.K, .int .i64 p.t0, .int .i64 p.t1, .int .i64 p.f0, .int .i64 p.f1, .int .i64 p.f2, .int .i64 p.f3, .int .u32 p.N] 37)).heap.size := by simp
          obtain ⟨U, hU⟩ : ∃ U, U = regsOf [p.f0, p.f1, p.f2, p.f3] := ⟨_, rfl⟩
          obtain ⟨T, hT⟩ : ∃ T, T = regsOf [p.t0, p.t1] := ⟨_, rfl⟩
          have hlU := regsOf_le4 p.f0 p.f1 p.f2 p.f3
          have hlT := regsOf_le2 p.t0 p.t1
          have hregs := hp8.regs
          have hdis := hp8.dis
          have hok := hp8.ok
          rw [← hU] at hlU hregs hdis
          rw [← hT] at hlT hregs hdis
          have HU1 : Hid (∀ w, Calls Tryd.prog 15 #[opV p.K p.t0 p.t1 p.f0 p.f1 p.f2 p.f3 p.N] w fun e w' => ∃ v, e = .returned v ∧ w'.ownsRow w.heap.size 3 1 v U.length (iCells U) ∧ Below w.heap.size w w') := fun w => by
            rw [hU]; exact uses_any p.K p.t0 p.t1 p.f0 p.f1 p.f2 p.f3 p.N w
          have HT1 : Hid (∀ w, Calls Tryd.prog 16 #[opV p.K p.t0 p.t1 p.f0 p.f1 p.f2 p.f3 p.N] w fun e w' => ∃ v, e = .returned v ∧ w'.ownsRow w.heap.size 3 1 v T.length (iCells T) ∧ Below w.heap.size w w') := fun w => by
            rw [hT]; exact sets_any p.K p.t0 p.t1 p.f0 p.f1 p.f2 p.f3 p.N w
          have HRg : Hid (∀ w, HasRows w → Calls Tryd.prog 17 #[opV p.K p.t0 p.t1 p.f0 p.f1 p.f2 p.f3 p.N] w fun e w' => e = .returned (.bool true) ∧ Below w.heap.size w w') := fun w h => by
            have := right_any p.K p.t0 p.t1 p.f0 p.f1 p.f2 p.f3 p.N hpN.1 hpN.2 w h
            rw [hok] at this; exact this
          have Hregs := Lib.hid hregs
          have Hdis := Lib.hid hdis
          clear hc hX hp8 hpN hU hT hregs hdis hok
          go_wp2_with fail
          generalize wr.alloc _ = wA at hbA hOA hlA ⊢
          clear c0 c1 c2' c3 c4' c5 c6 c7 z0 z1 n1 n2 hgl
          obtain ⟨bx, hbx⟩ : ∃ bx, bx = wr.heap.size := ⟨_, rfl⟩
          rw [← hbx] at hOA hlA ⊢
          obtain ⟨d0, d1, d2, d3, d4, d5, d6, d7⟩ := hOA.cells
          have HOA := Lib.hid hOA
          have HBA := Lib.hid (HB.out.trans (hbA.mono hsz))
          clear hOA hbA hbx
          refine (HT1.out _).mono ?_
          rintro e w5 ⟨vt, rfl, hot, hbt⟩
          obtain ⟨xt, ct, rfl, hct, hLt, hgt⟩ := own_LSl hot rfl
          have HO5 := Lib.hid (HOA.out.below hbt)
          have HB5 := Lib.hid (HBA.out.trans (hbt.mono HBA.out.size))
          have HLt := Lib.hid hLt
          have hl5 : bx < w5.heap.size := Nat.lt_of_lt_of_le hlA hbt.size
          clear hot hbt hLt hgt d0 d1 d2 d3 d4 d5 d6 d7
          go_wp2_with fail
          go_loopw [43] (fun i wz => ∃ k : Nat, k ≤ T.length ∧ i = .int .i64 k ∧ Below w5.heap.size w5 wz) (fun i _ => T.length - (intOf i).toNat)
          case atStart => exact ⟨0, Nat.zero_le _, rfl, Below.refl _ _⟩
          case round =>
            obtain ⟨k, hk, rfl, hB⟩ := hrel
            have hO6 := HO5.out.below hB
            obtain ⟨d0, d1, d2, d3, d4, d5, d6, d7⟩ := hO6.cells
            have hLz := LSl.below HLt.out hB
            have hl6 : bx < wr.heap.size := Nat.lt_of_lt_of_le hl5 hB.size
            have HB6 := Lib.hid hB
            have HO6 := Lib.hid hO6
            clear hB hO6
            by_cases hltk : k < T.length
            · obtain ⟨gt, rfl, hI⟩ := hLz.resolve_left (fun e => by rw [e] at hltk; simp at hltk)
              have y0 := hI.2 k hltk
              rw [Nat.zero_add] at y0
              have hglt := hI.1
              have hd := Hdis.out _ (List.getElem_mem hltk)
              generalize T[k]'hltk = t at y0 hd
              have Hd := Lib.hid hd
              have wk : IntKind.i64.wrap ((k : Int) + 1) = (k : Int) + 1 := IntWalk.i64_in _ (by omega)
              clear hI hd hLz
              go_wp2_with fail
              refine (HU1.out _).mono ?_
              rintro e w7 ⟨vu, rfl, hou, hbu⟩
              obtain ⟨xu, cu, rfl, hcu, hLu, hgu⟩ := own_LSl hou rfl
              have HLu := Lib.hid hLu
              have HB7 := Lib.hid (HB6.out.trans (hbu.mono HB6.out.size))
              clear hou hbu hLu hgu d0 d1 d2 d3 d4 d5 d6 d7 y0
              go_wp2_with fail
              go_loopw [50] (fun i wz => ∃ jj : Nat, jj ≤ U.length ∧ i = .int .i64 jj ∧ w7 = wz) (fun i _ => U.length - (intOf i).toNat)
              case atStart => exact ⟨0, Nat.zero_le _, rfl, rfl⟩
              case round =>
                obtain ⟨jj, hjj, rfl, rfl⟩ := hrel
                by_cases hlj : jj < U.length
                · obtain ⟨gu, rfl, hIu⟩ := HLu.out.resolve_left (fun e => by rw [e] at hlj; simp at hlj)
                  have y1 := hIu.2 jj hlj
                  rw [Nat.zero_add] at y1
                  have hglu := hIu.1
                  have hne := Hd.out _ (List.getElem_mem hlj)
                  generalize U[jj]'hlj = u at y1 hne
                  have eTU : (t == u) = false := by simpa using hne
                  have wj : IntKind.i64.wrap ((jj : Int) + 1) = (jj : Int) + 1 := IntWalk.i64_in _ (by omega)
                  clear hIu hne
                  go_wp2_with fail
                  exact ⟨⟨jj + 1, by omega, by simp, trivial⟩, by simp only [intOf]; omega⟩
                · go_wp2_with fail
                  exact ⟨⟨k + 1, by omega, by simp, HB7.out⟩, by simp only [intOf]; omega⟩
            · have hD : Below wr.heap.size wr wr.drew := (Below.refl _ wr).drew
              have Kp : Hid (∀ w', Below wr.heap.size wr w' → w'.cell? ⟨bx, 0, none⟩ = some (.int .i64 p.K) ∧ w'.cell? ⟨bx, 1, none⟩ = some (.int .i64 p.t0) ∧ w'.cell? ⟨bx, 2, none⟩ = some (.int .i64 p.t1) ∧ w'.cell? ⟨bx, 3, none⟩ = some (.int .i64 p.f0) ∧ w'.cell? ⟨bx, 4, none⟩ = some (.int .i64 p.f1) ∧ w'.cell? ⟨bx, 5, none⟩ = some (.int .i64 p.f2) ∧ w'.cell? ⟨bx, 6, none⟩ = some (.int .i64 p.f3) ∧ w'.cell? ⟨bx, 7, none⟩ = some (.int .u32 p.N)) := fun w' h => by
                have := (HO6.out.below h).cells
                exact this
              obtain ⟨Vr, hVr⟩ : ∃ Vr, Vr = U ++ T := ⟨_, rfl⟩
              have hVl : Vr.length = U.length + T.length := by rw [hVr]; simp
              have hRv : ∀ y ∈ Vr, 0 ≤ y ∧ y ≤ 7 := by rw [hVr]; exact Hregs.out
              have HVr := Lib.hid hVr
              have HRv := Lib.hid hRv
              clear hVr hRv hLz
              go_wp2_with fail
              go_region_held3 (fun w' => w'.cell? ⟨bx, 0, none⟩ = some (.int .i64 p.K) ∧ w'.cell? ⟨bx, 1, none⟩ = some (.int .i64 p.t0) ∧ w'.cell? ⟨bx, 2, none⟩ = some (.int .i64 p.t1) ∧ w'.cell? ⟨bx, 3, none⟩ = some (.int .i64 p.f0) ∧ w'.cell? ⟨bx, 4, none⟩ = some (.int .i64 p.f1) ∧ w'.cell? ⟨bx, 5, none⟩ = some (.int .i64 p.f2) ∧ w'.cell? ⟨bx, 6, none⟩ = some (.int .i64 p.f3) ∧ w'.cell? ⟨bx, 7, none⟩ = some (.int .u32 p.N))
                (first
                  | go_keep
                  | exact Kp.out _ hb7
                  | exact Kp.out _ hbs2
                  | exact Kp.out _ (hD.trans hbu))
                (first
                  | (go_at_call 15; refine (HU1.out _).mono ?_; rintro e wu ⟨vu, rfl, hou, hbu⟩)
                  | (go_at_call 16; refine (HT1.out _).mono ?_; rintro e ws ⟨vs, rfl, hos, hbs⟩; have hbs2 := (hD.trans hbu).trans (hbs.mono (hD.trans hbu).size); have hou2 := ownsRow_below hou hbs)
                  | (refine step_append_rows (by rfl) _ _ _ (by rfl) wr.drew.heap.size wu.heap.size 3 i0 (.int .i64 0) 1 8 Tryd.underlying41 hi hz0 hz1 hz2 rfl (by omega) vu U.length (iCells U) (by rfl) hou2 vs T.length (iCells T) (by rfl) hos (i_all T) (by unfold maxLen; omega) (by omega) hbs2.size ?_; intro va w7 hown7 hgrow7; have hb7 := hbs2.grown hgrow7 hbs2.size (fun k e => (hou2.lt k e).1); rw [show iCells U ++ iCells T = iCells Vr from by rw [HVr.out]; simp [iCells], ← hVl] at hown7; obtain ⟨sx, sc, rfl, hsc, hLv, hgv⟩ := own_LSl hown7 rfl))
              have HB7 := Lib.hid (HB6.out.trans (hb7.mono HB6.out.size))
              have HO7 := Lib.hid (HO6.out.below hb7)
              have HLv := Lib.hid hLv
              have hV6 : Vr.length ≤ 6 := by omega
              clear hown7 hgrow7 hb7 hLv hgv hos hou hou2 hbs2 hbu hbs hD d0 d1 d2 d3 d4 d5 d6 d7 Kp
              go_wp2_with fail
              go_loopw [65] (fun i wz => ∃ jj : Nat, jj ≤ Vr.length ∧ i = .int .i64 jj ∧ w7 = wz) (fun i _ => Vr.length - (intOf i).toNat)
              case atStart => exact ⟨0, Nat.zero_le _, rfl, rfl⟩
              case round =>
                obtain ⟨jj, hjj, rfl, rfl⟩ := hrel
                by_cases hlj : jj < Vr.length
                · obtain ⟨gu, rfl, hIu⟩ := HLv.out.resolve_left (fun e => by rw [e] at hlj; simp at hlj)
                  have y1 := hIu.2 jj hlj
                  rw [Nat.zero_add] at y1
                  have hglu := hIu.1
                  have hr := HRv.out _ (List.getElem_mem hlj)
                  generalize Vr[jj]'hlj = r at y1 hr
                  have er1 : decide (r < 0) = false := by simp; omega
                  have er2 : decide (7 < r) = false := by simp; omega
                  have wj : IntKind.i64.wrap ((jj : Int) + 1) = (jj : Int) + 1 := IntWalk.i64_in _ (by omega)
                  clear hIu hr
                  go_wp2_with fail
                  exact ⟨⟨jj + 1, by omega, by simp, trivial⟩, by simp only [intOf]; omega⟩
                · obtain ⟨d0, d1, d2, d3, d4, d5, d6, d7⟩ := HO7.out.cells
                  have hl7 : bx < w7.heap.size := Nat.lt_of_lt_of_le hl5 HB7.out.size
                  have H57 := Lib.hid (HB5.out.trans (HB7.out.mono HB5.out.size))
                  go_wp2_with fail
                  refine (HRg.out _ (HS3.out.below H57.out)).mono ?_
                  rintro e w8 ⟨rfl, hb8⟩
                  have HB8 := Lib.hid (H57.out.trans (hb8.mono H57.out.size))
                  clear hb8 d0 d1 d2 d3 d4 d5 d6 d7
                  go_wp2_with fail
                  exact ⟨⟨j + 1, by omega, by simp, HB8.out⟩, by simp only [intOf]; omega⟩
        · have hjn : j = O.length := by omega
          have hLr := HL3.out.below HB.out
          have hpr := pressure_any x n cc L wr hLr HN.out (by omega) Hri.out
          have hT : ∀ o ∈ L, (o.t0 = -1 ∨ 0 ≤ o.t0) ∧ (o.t1 = -1 ∨ 0 ≤ o.t1) := fun o ho => tos_of (Hri.out o ho)
          have HT0 := Lib.hid hT
          have hfew := Hfew.out
          obtain ⟨Pz, hPz⟩ : ∃ Pz, Pz = pressF L L 0 0 := ⟨_, rfl⟩
          rw [← hPz] at hpr hfew
          have HPz := Lib.hid hPz
          have Hpr := Lib.hid hpr
          have HLr := Lib.hid hLr
          rw [HN.out] at hfew
          have Hfew2 := Lib.hid hfew
          clear hT hPz hpr hLr hfew hX hjn
          go_wp2_with fail
          refine Hpr.out.mono ?_
          rintro e w6 ⟨rfl, hb6⟩
          have HB6 := Lib.hid (HB.out.trans (hb6.mono hsz))
          have HL6 := Lib.hid (HLr.out.below hb6)
          have z0' := (hb6.cell (p := ⟨w2.heap.size, 0, none⟩) hl2).trans z0
          have z1' := (hb6.cell (p := ⟨w2.heap.size, 1, none⟩) hl2).trans z1
          have hl26 : w2.heap.size < w6.heap.size := Nat.lt_of_lt_of_le hl2 hb6.size
          clear hb6 z0 z1
          go_wp2_with fail
          refine (of_any x n cc L w6 HL6.out HN.out (by omega)).mono ?_
          rintro e w7 ⟨vq, rfl, hoq, hb7⟩
          have hoq2 : w7.ownsRow w6.heap.size 38 8 vq L.length (outC L) := by rw [HN.out]; exact hoq
          obtain ⟨xq, cq, rfl, hcq, hOq⟩ := outs_any hoq2
          rw [HN.out] at hcq ⊢
          have HB7 := Lib.hid (HB6.out.trans (hb7.mono HB6.out.size))
          have z0 := (hb7.cell (p := ⟨w2.heap.size, 0, none⟩) hl26).trans z0'
          have z1 := (hb7.cell (p := ⟨w2.heap.size, 1, none⟩) hl26).trans z1'
          have hl27 : w2.heap.size < w7.heap.size := Nat.lt_of_lt_of_le hl26 hb7.size
          have hpr2 := pressR_any xq n cq L w7 hOq HN.out (by omega) HT0.out
          rw [← HPz.out] at hpr2
          have Hpr2 := Lib.hid hpr2
          clear hb7 hoq hoq2 hOq hpr2 z0' z1'
          go_wp2_with fail
          refine Hpr2.out.mono ?_
          rintro e w8 ⟨rfl, hb8⟩
          have HB8 := Lib.hid (H3.out.trans ((HB7.out.trans (hb8.mono HB7.out.size)).mono H3.out.size))
          have y0 := (hb8.cell (p := ⟨w2.heap.size, 0, none⟩) hl27).trans z0
          have y1 := (hb8.cell (p := ⟨w2.heap.size, 1, none⟩) hl27).trans z1
          have hl28 : w2.heap.size < w8.heap.size := Nat.lt_of_lt_of_le hl27 hb8.size
          clear hb8 z0 z1
          by_cases hP : Pz ≤ 8
          · obtain ⟨hol, hsl⟩ := Hfew2.out hP
            have hol' : O.length = n := hol
            have hsl' : sl = 0 := hsl
            subst hsl'
            have eO : ((O.length : Int) == (n : Int)) = true := by rw [hol']; simp
            clear hol hsl hol'
            go_wp2_with fail
            all_goals first | (exfalso; omega) | skip
            go_ret
            exact ⟨rfl, HB8.out⟩
          · go_wp2_with fail
            all_goals first | (exfalso; omega) | skip
            go_ret
            exact ⟨rfl, HB8.out⟩
    · have ea0 : (ea != (0 : Int)) = true := by simpa using hea
      have hO : O = [] := HErr.out hea
      subst hO
      go_wp2_with fail
      go_ret
      exact ⟨rfl, H2.out.trans (hbA.mono H2.out.size)⟩
theorem allocFew_row (x : Option Addr) (len cap : Nat) (zs : List Op8) (a : Int) (w : World) (hS : HasRows w) (hw : OpsRow w x len zs ∧ len ≤ cap ∧ cap ≤ maxLen) (_ : (Lit.int .i64 a).wf = true) :
    Calls Tryd.prog 6 #[.slice x len cap, .int .i64 a] w fun e w' => e = .returned (.bool true) ∧ Below w.heap.size w w' :=
  allocFew_walk x len cap zs a w hS hw.1.2.1 hw.1.1 hw.2.1 hw.1.2.2
end Go.Proofs.YtmkencdkglbpbaaDoor
