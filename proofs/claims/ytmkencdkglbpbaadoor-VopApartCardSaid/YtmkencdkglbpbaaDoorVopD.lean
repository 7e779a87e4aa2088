/- The document's Right. -/
import Derived.Test.YtmkencdkglbpbaaDoorVopC
set_option maxRecDepth 100000
set_option linter.unusedVariables false
namespace Go.Proofs.YtmkencdkglbpbaaDoor
open Go.RowKit

/-- May an operation be? -/
def rightV (K t0 t1 f0 f1 f2 f3 N : Int) : Bool :=
  decide (1 ≤ K) && decide (K ≤ 31) && placedV (toL.getD K.toNat 0) 0 [t0, t1] && placedV (fromL.getD K.toNat 0) 0 [f0, f1, f2, f3] && (decide (toL.getD K.toNat 0 < 2) || t0 != t1) && numberV K N

theorem toL_bd (k : Nat) : 0 ≤ toL.getD k 0 ∧ toL.getD k 0 ≤ 2 := by
  by_cases h : k < 32
  · have : ∀ k : Fin 32, 0 ≤ toL.getD k.1 0 ∧ toL.getD k.1 0 ≤ 2 := by decide
    exact this ⟨k, h⟩
  · have : toL[k]? = none := List.getElem?_eq_none (by simp [toL]; omega)
    rw [List.getD_eq_getElem?_getD, this]; simp
theorem fromL_bd (k : Nat) : 0 ≤ fromL.getD k 0 ∧ fromL.getD k 0 ≤ 4 := by
  by_cases h : k < 32
  · have : ∀ k : Fin 32, 0 ≤ fromL.getD k.1 0 ∧ fromL.getD k.1 0 ≤ 4 := by decide
    exact this ⟨k, h⟩
  · have : fromL[k]? = none := List.getElem?_eq_none (by simp [fromL]; omega)
    rw [List.getD_eq_getElem?_getD, this]; simp

theorem reg_at (r n iv : Int) (i : Nat) (hi : iv = i) (w : World) : Calls Tryd.prog 52 #[.int .i64 r, .int .i64 iv, .int .i64 n] w fun e w' => e = .returned (.bool (okAt n i r)) ∧ w' = w := by
  subst hi
  exact reg_any r i n w

/-- The same, by ranges. -/
def numberR (K N : Int) : Bool :=
  if K = 1 then true else if 2 ≤ K ∧ K ≤ 4 then decide (N % 4 = 0) && decide (N ≤ 1020) else if 18 ≤ K ∧ K ≤ 20 then decide (1 ≤ N) && decide (N ≤ 31)
  else if K = 30 then (decide (1 ≤ N) && decide (N ≤ 255)) || (decide (N % 4 = 0) && decide (256 ≤ N) && decide (N ≤ 1024)) else decide (N = 0)
theorem numberV_R (K N : Int) : numberV K N = numberR K N := by
  have e1 : (K = 2 ∨ K = 3 ∨ K = 4) ↔ (2 ≤ K ∧ K ≤ 4) := by omega
  have e2 : (K = 18 ∨ K = 19 ∨ K = 20) ↔ (18 ≤ K ∧ K ≤ 20) := by omega
  have e3 : decide (N < 32) = decide (N ≤ 31) := by rw [decide_eq_decide]; omega
  have e4 : decide (255 < N) = decide (256 ≤ N) := by rw [decide_eq_decide]; omega
  unfold numberV numberR
  simp only [e1, e2, e3, e4]

set_option maxHeartbeats 1600000 in
theorem refRight_any (K t0 t1 f0 f1 f2 f3 N : Int) (h0 : 0 ≤ N) (h1 : N < 4294967296) (w : World) :
    Calls Tryd.prog 25 #[opV K t0 t1 f0 f1 f2 f3 N] w fun e w' => e = .returned (.bool (rightV K t0 t1 f0 f1 f2 f3 N)) ∧ Below w.heap.size w w' := by
  obtain ⟨V, hV⟩ : ∃ V, V = rightV K t0 t1 f0 f1 f2 f3 N := ⟨_, rfl⟩
  rw [← hV]
  have HV := Lib.hid hV
  clear hV
  obtain ⟨w1, hw1⟩ : ∃ w1, w1 = w.alloc (.cells #[.int .i64 K, .int .i64 t0, .int .i64 t1, .int .i64 f0, .int .i64 f1, .int .i64 f2, .int .i64 f3, .int .u32 N] 38) := ⟨_, rfl⟩
  have hB1 : Below w.heap.size w w1 := by rw [hw1]; exact (Below.refl _ _).alloc (Nat.le_refl _) _
  have hs1 : w.heap.size < w1.heap.size := by rw [hw1]; simp
  have cells : ∀ j u, #[Value.int .i64 K, .int .i64 t0, .int .i64 t1, .int .i64 f0, .int .i64 f1, .int .i64 f2, .int .i64 f3, .int .u32 N][j]? = some u → w1.cell? ⟨w.heap.size, j, none⟩ = some u := by
    intro j u hu
    rw [hw1, World.cell?_alloc_at _ _ _ _ rfl]; exact hu
  have HB1 := Lib.hid hB1
  have HC := Lib.hid cells
  clear hB1 cells
  by_cases hr : 1 ≤ K ∧ K ≤ 31
  · obtain ⟨k, rfl⟩ : ∃ k : Nat, K = (k : Int) := ⟨K.toNat, by omega⟩
    go_enter Tryd.func25, Tryd.ntmps25
    go_wp2_with fail
    rw [← hw1]
    clear hw1
    refine (refShape_yes k (by omega) (by omega) w1).mono ?_
    rintro e w2 ⟨rfl, hb2⟩
    obtain ⟨T, hT⟩ : ∃ T, T = toL.getD k 0 := ⟨_, rfl⟩
    obtain ⟨S, hS⟩ : ∃ S, S = fromL.getD k 0 := ⟨_, rfl⟩
    rw [← hT, ← hS]
    have hTb := toL_bd k
    have hSb := fromL_bd k
    rw [← hT] at hTb
    rw [← hS] at hSb
    have HB2 := Lib.hid (HB1.out.trans (hb2.mono HB1.out.size))
    have c0 := (hb2.cell (p := ⟨w.heap.size, 0, none⟩) hs1).trans (HC.out 0 _ rfl)
    have c1 := (hb2.cell (p := ⟨w.heap.size, 1, none⟩) hs1).trans (HC.out 1 _ rfl)
    have c2 := (hb2.cell (p := ⟨w.heap.size, 2, none⟩) hs1).trans (HC.out 2 _ rfl)
    have c3 := (hb2.cell (p := ⟨w.heap.size, 3, none⟩) hs1).trans (HC.out 3 _ rfl)
    have c4 := (hb2.cell (p := ⟨w.heap.size, 4, none⟩) hs1).trans (HC.out 4 _ rfl)
    have c5 := (hb2.cell (p := ⟨w.heap.size, 5, none⟩) hs1).trans (HC.out 5 _ rfl)
    have c6 := (hb2.cell (p := ⟨w.heap.size, 6, none⟩) hs1).trans (HC.out 6 _ rfl)
    have c7 := (hb2.cell (p := ⟨w.heap.size, 7, none⟩) hs1).trans (HC.out 7 _ rfl)
    have hV2 : V = (placedV T 0 [t0, t1] && placedV S 0 [f0, f1, f2, f3] && (decide (T < 2) || t0 != t1) && numberV (k : Int) N) := by
      rw [HV.out, rightV, show ((k : Int)).toNat = k from rfl, ← hT, ← hS]
      have : decide ((1 : Int) ≤ (k : Int)) = true := by simpa using hr.1
      have h' : decide ((k : Int) ≤ 31) = true := by simpa using hr.2
      rw [this, h']; rfl
    have HV2 := Lib.hid hV2
    clear hT hS hb2 hV2
    have e1 : decide (T < 0) = false := by simp; omega
    by_cases hcol : T = 2 ∧ t0 = t1
    · obtain ⟨rfl, rfl⟩ := hcol
      have HN := Lib.hid (show V = false by rw [HV2.out]; simp)
      have e2 : (t0 == t0) = true := by simp
      go_wp2_with fail
      go_ret
      exact ⟨by rw [HN.out]; rfl, HB2.out⟩
    have hcb : (decide (T < 2) || t0 != t1) = true := by
      by_cases h2 : T = 2
      · have : t0 ≠ t1 := fun h => hcol ⟨h2, h⟩
        simp [this]
      · have : T < 2 := by omega
        simp [this]
    have hV3 : V = (okAt T 0 t0 && (okAt T 1 t1 && (okAt S 0 f0 && (okAt S 1 f1 && (okAt S 2 f2 && (okAt S 3 f3 && numberR (k : Int) N)))))) := by
      rw [HV2.out, hcb, numberV_R]
      simp only [placedV, Bool.and_true, Bool.and_assoc]
    have HV3 := Lib.hid hV3
    clear hV3 hcb
    have start : ∀ Q : Prop, ((T == 2) = true → (t0 == t1) = false → Q) → (T ≠ 2 → (T == 2) = false → Q) → Q := fun Q h1 h2 => by
      by_cases h : T = 2
      · exact h1 (by simpa using h) (by simpa using fun h3 => hcol ⟨h, h3⟩)
      · exact h2 h (by simpa using h)
    have HVW := Lib.hid hcol
    clear hcol
    refine start _ (fun hT2 hne => ?_) (fun hT2 hne => ?_)
    all_goals clear start
    · skip
      go_wp2_with fail
      refine wp_loop_rounds 3 ?_
      rw [rounds_succ]
      go_wp2_with fail
      refine (reg_at t0 T _ 0 rfl _).mono ?_
      rintro e w3 ⟨rfl, rfl⟩
      cases hqt0 : okAt T 0 t0
      · have HN := Lib.hid (show V = false by rw [HV3.out]; simp [hqt0])
        clear hqt0
        go_wp2_with fail
        go_ret
        exact ⟨by rw [HN.out]; rfl, HB2.out⟩
      · go_wp2_with fail
        rw [rounds_succ]
        go_wp2_with fail
        refine (reg_at t1 T _ 1 rfl _).mono ?_
        rintro e w3 ⟨rfl, rfl⟩
        cases hqt1 : okAt T 1 t1
        · have HN := Lib.hid (show V = false by rw [HV3.out]; simp [hqt0, hqt1])
          clear hqt1
          go_wp2_with fail
          go_ret
          exact ⟨by rw [HN.out]; rfl, HB2.out⟩
        · go_wp2_with fail
          rw [rounds_succ]
          go_wp2_with fail
          refine wp_loop_rounds 5 ?_
          rw [rounds_succ]
          go_wp2_with fail
          refine (reg_at f0 S _ 0 rfl _).mono ?_
          rintro e w3 ⟨rfl, rfl⟩
          cases hqf0 : okAt S 0 f0
          · have HN := Lib.hid (show V = false by rw [HV3.out]; simp [hqt0, hqt1, hqf0])
            clear hqf0
            go_wp2_with fail
            go_ret
            exact ⟨by rw [HN.out]; rfl, HB2.out⟩
          · go_wp2_with fail
            rw [rounds_succ]
            go_wp2_with fail
            refine (reg_at f1 S _ 1 rfl _).mono ?_
            rintro e w3 ⟨rfl, rfl⟩
            cases hqf1 : okAt S 1 f1
            · have HN := Lib.hid (show V = false by rw [HV3.out]; simp [hqt0, hqt1, hqf0, hqf1])
              clear hqf1
              go_wp2_with fail
              go_ret
              exact ⟨by rw [HN.out]; rfl, HB2.out⟩
            · go_wp2_with fail
              rw [rounds_succ]
              go_wp2_with fail
              refine (reg_at f2 S _ 2 rfl _).mono ?_
              rintro e w3 ⟨rfl, rfl⟩
              cases hqf2 : okAt S 2 f2
              · have HN := Lib.hid (show V = false by rw [HV3.out]; simp [hqt0, hqt1, hqf0, hqf1, hqf2])
                clear hqf2
                go_wp2_with fail
                go_ret
                exact ⟨by rw [HN.out]; rfl, HB2.out⟩
              · go_wp2_with fail
                rw [rounds_succ]
                go_wp2_with fail
                refine (reg_at f3 S _ 3 rfl _).mono ?_
                rintro e w3 ⟨rfl, rfl⟩
                cases hqf3 : okAt S 3 f3
                · have HN := Lib.hid (show V = false by rw [HV3.out]; simp [hqt0, hqt1, hqf0, hqf1, hqf2, hqf3])
                  clear hqf3
                  go_wp2_with fail
                  go_ret
                  exact ⟨by rw [HN.out]; rfl, HB2.out⟩
                · go_wp2_with fail
                  have HN : Hid (V = numberR (k : Int) N) := by rw [HV3.out, hqt0, hqt1, hqf0, hqf1, hqf2, hqf3]; rfl
                  rw [rounds_succ]
                  go_wp2_with fail
                  all_goals go_ret
                  all_goals (refine ⟨?_, HB2.out⟩; rw [HN.out]; simp_all [numberR] <;> first | omega | ((repeat' split) <;> first | omega | rfl | (rw [Bool.eq_iff_iff]; simp; done) | (rw [Bool.eq_iff_iff]; simp; omega)))
    · skip
      go_wp2_with fail
      refine wp_loop_rounds 3 ?_
      rw [rounds_succ]
      go_wp2_with fail
      refine (reg_at t0 T _ 0 rfl _).mono ?_
      rintro e w3 ⟨rfl, rfl⟩
      cases hqt0 : okAt T 0 t0
      · have HN := Lib.hid (show V = false by rw [HV3.out]; simp [hqt0])
        clear hqt0
        go_wp2_with fail
        go_ret
        exact ⟨by rw [HN.out]; rfl, HB2.out⟩
      · go_wp2_with fail
        rw [rounds_succ]
        go_wp2_with fail
        refine (reg_at t1 T _ 1 rfl _).mono ?_
        rintro e w3 ⟨rfl, rfl⟩
        cases hqt1 : okAt T 1 t1
        · have HN := Lib.hid (show V = false by rw [HV3.out]; simp [hqt0, hqt1])
          clear hqt1
          go_wp2_with fail
          go_ret
          exact ⟨by rw [HN.out]; rfl, HB2.out⟩
        · go_wp2_with fail
          rw [rounds_succ]
          go_wp2_with fail
          refine wp_loop_rounds 5 ?_
          rw [rounds_succ]
          go_wp2_with fail
          refine (reg_at f0 S _ 0 rfl _).mono ?_
          rintro e w3 ⟨rfl, rfl⟩
          cases hqf0 : okAt S 0 f0
          · have HN := Lib.hid (show V = false by rw [HV3.out]; simp [hqt0, hqt1, hqf0])
            clear hqf0
            go_wp2_with fail
            go_ret
            exact ⟨by rw [HN.out]; rfl, HB2.out⟩
          · go_wp2_with fail
            rw [rounds_succ]
            go_wp2_with fail
            refine (reg_at f1 S _ 1 rfl _).mono ?_
            rintro e w3 ⟨rfl, rfl⟩
            cases hqf1 : okAt S 1 f1
            · have HN := Lib.hid (show V = false by rw [HV3.out]; simp [hqt0, hqt1, hqf0, hqf1])
              clear hqf1
              go_wp2_with fail
              go_ret
              exact ⟨by rw [HN.out]; rfl, HB2.out⟩
            · go_wp2_with fail
              rw [rounds_succ]
              go_wp2_with fail
              refine (reg_at f2 S _ 2 rfl _).mono ?_
              rintro e w3 ⟨rfl, rfl⟩
              cases hqf2 : okAt S 2 f2
              · have HN := Lib.hid (show V = false by rw [HV3.out]; simp [hqt0, hqt1, hqf0, hqf1, hqf2])
                clear hqf2
                go_wp2_with fail
                go_ret
                exact ⟨by rw [HN.out]; rfl, HB2.out⟩
              · go_wp2_with fail
                rw [rounds_succ]
                go_wp2_with fail
                refine (reg_at f3 S _ 3 rfl _).mono ?_
                rintro e w3 ⟨rfl, rfl⟩
                cases hqf3 : okAt S 3 f3
                · have HN := Lib.hid (show V = false by rw [HV3.out]; simp [hqt0, hqt1, hqf0, hqf1, hqf2, hqf3])
                  clear hqf3
                  go_wp2_with fail
                  go_ret
                  exact ⟨by rw [HN.out]; rfl, HB2.out⟩
                · go_wp2_with fail
                  have HN : Hid (V = numberR (k : Int) N) := by rw [HV3.out, hqt0, hqt1, hqf0, hqf1, hqf2, hqf3]; rfl
                  rw [rounds_succ]
                  go_wp2_with fail
                  all_goals go_ret
                  all_goals (refine ⟨?_, HB2.out⟩; rw [HN.out]; simp_all [numberR] <;> first | omega | ((repeat' split) <;> first | omega | rfl | (rw [Bool.eq_iff_iff]; simp; done) | (rw [Bool.eq_iff_iff]; simp; omega)))
  · have hn : V = false := by
      rw [HV.out, rightV]
      by_cases h : 1 ≤ K
      · have : ¬ K ≤ 31 := fun h' => hr ⟨h, h'⟩
        simp [this]
      · simp [h]
    have HN := Lib.hid hn
    clear hn
    go_enter Tryd.func25, Tryd.ntmps25
    go_wp2_with fail
    rw [← hw1]
    clear hw1
    refine (refShape_no K (by omega) w1).mono ?_
    rintro e w2 ⟨rfl, hb2⟩
    have HB2 := Lib.hid (HB1.out.trans (hb2.mono HB1.out.size))
    clear hb2
    go_wp2_with fail
    go_ret
    exact ⟨by rw [HN.out]; rfl, HB2.out⟩
end Go.Proofs.YtmkencdkglbpbaaDoor
