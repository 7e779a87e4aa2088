/- alloc: victim. -/
import Derived.Test.YtmkencdkglbpbaaDoorAlC
set_option maxRecDepth 100000
set_option linter.unusedVariables false
namespace Go.Proofs.YtmkencdkglbpbaaDoor
open Go.RowKit Go.Maps

theorem AlIn.drewN {c : AC} {w : World} {vp vt vo : Value} {Pn : List Int} {q : Nat} {D : DataW Unit} {N : Nat} {s : AS} (h : AlIn c w vp vt vo Pn q D N s) (n : Nat) : AlIn c (w.drewN n) vp vt vo Pn q D N s :=
  h.below ⟨rfl, rfl, rfl, Nat.le_refl _, fun _ _ => rfl⟩
theorem index8 (w : World) (g0 g1 g2 g3 g4 g5 g6 g7 : Int) (k : Nat) (hk : k < 8) :
    (Instr.index 81 (.agg #[.int .i64 g0, .int .i64 g1, .int .i64 g2, .int .i64 g3, .int .i64 g4, .int .i64 g5, .int .i64 g6, .int .i64 g7]) (.int .i64 k)).run Tryd.prog w = .ok (.int .i64 (([g0, g1, g2, g3, g4, g5, g6, g7] : List Int)[k]'(by simpa using hk))) w := by
  match k, hk with
  | 0, _ => rfl
  | 1, _ => rfl
  | 2, _ => rfl
  | 3, _ => rfl
  | 4, _ => rfl
  | 5, _ => rfl
  | 6, _ => rfl
  | 7, _ => rfl

set_option maxHeartbeats 2000000 in
theorem victim_any {c : AC} (H : ACok c) {w : World} {vp vt vo : Value} {Pn : List Int} {q : Nat} {D : DataW Unit} {N : Nat} {s : AS} (h : AlIn c w vp vt vo Pn q D N s) :
    Calls Tryd.prog 69 #[.pointer (some ⟨c.ab, 0, none⟩)] w fun e w' => e = .returned (.int .i64 (victimF (c.nx s.pos) Pn s.G s.G 0 (-1))) ∧ ∃ d, w' = w.drewN d := by
  have HX : Hid (∀ d nd x, -1 ≤ x ∧ x ≤ 65535 → Calls Tryd.prog 71 #[.pointer (some ⟨c.ab, 0, none⟩), .int .i64 x] ((w.drewN d).drewN nd) fun e w' => e = .returned (.int .i64 (c.nx s.pos x)) ∧ w' = (w.drewN d).drewN nd) := fun d nd x hx => next_any H ((h.drewN d).drewN nd) x hx
  obtain ⟨xp, pc, hvp, hpc⟩ := own_slice h.rp
  have HP : Hid (∀ d x, Calls Tryd.prog 75 #[vp, .int .i64 x] (w.drewN d) fun e w' => e = .returned (.bool (Pn.contains x)) ∧ w' = w.drewN d) := fun d x => by
    have hL : LSl w xp Pn := by
      rcases h.rp.2 with ⟨hv, h0⟩ | ⟨g, cap, cur, hv, hg, hh, hc, _⟩
      · exact .inl (List.length_eq_zero_iff.1 h0)
      · rw [hvp] at hv
        injection hv with hv _ _
        refine .inr ⟨g, hv, lt_of_block hh, fun i hi => ?_⟩
        have := h.rp.cells (g := g) (by rw [hvp, hv]; rfl) i (.int .i64 Pn[i]) (by simp [iCells, hi])
        have hadd : (⟨g, 0, none⟩ : Addr).add i = ⟨g, 0 + i, none⟩ := by unfold Addr.add; split <;> simp_all
        rw [hadd] at this; exact this
    rw [hvp]
    exact contains_sl xp Pn.length pc Pn x (w.drewN d) hL rfl (by have := h.pn; omega)
  obtain ⟨c0, c1, c2, c3, c12, c13, c14, c15, c16, c17⟩ := h.cells
  have hR := h.regs.2
  have hgb := h.gb
  have hls := h.lt
  generalize c.nx s.pos = nx at HX ⊢
  obtain ⟨V, hV⟩ : ∃ V, V = victimF nx Pn s.G s.G 0 (-1) := ⟨_, rfl⟩
  rw [← hV]
  have hG8 := h.g8
  generalize s.G = G at hR hgb hV hG8
  obtain ⟨g0, g1, g2, g3, g4, g5, g6, g7, rfl⟩ := list8 hG8
  have r0 : w.cell? ⟨c.ab, 4, none⟩ = some (.int .i64 g0) := hR 0 (by simp)
  have r1 : w.cell? ⟨c.ab, 5, none⟩ = some (.int .i64 g1) := hR 1 (by simp)
  have r2 : w.cell? ⟨c.ab, 6, none⟩ = some (.int .i64 g2) := hR 2 (by simp)
  have r3 : w.cell? ⟨c.ab, 7, none⟩ = some (.int .i64 g3) := hR 3 (by simp)
  have r4 : w.cell? ⟨c.ab, 8, none⟩ = some (.int .i64 g4) := hR 4 (by simp)
  have r5 : w.cell? ⟨c.ab, 9, none⟩ = some (.int .i64 g5) := hR 5 (by simp)
  have r6 : w.cell? ⟨c.ab, 10, none⟩ = some (.int .i64 g6) := hR 6 (by simp)
  have r7 : w.cell? ⟨c.ab, 11, none⟩ = some (.int .i64 g7) := hR 7 (by simp)
  have HV := Lib.hid hV
  have HGB := Lib.hid hgb
  have HR := Lib.hid hR
  clear hV hgb hR hG8 h H hvp hpc
  go_enter Tryd.func69, Tryd.ntmps69
  go_wp2_with fail
  go_loopw [3, 10] (fun b i wr => ∃ (k : Nat) (best : Int), k ≤ 8 ∧ i = .int .i64 k ∧ b = .int .i64 best ∧ (∃ d, wr = w.drewN d) ∧ -1 ≤ best ∧ best < 8 ∧ victimF nx Pn [g0, g1, g2, g3, g4, g5, g6, g7] ([g0, g1, g2, g3, g4, g5, g6, g7].drop k) k best = V) (fun _ i _ => 8 - (intOf i).toNat)
  case atStart => exact ⟨0, -1, by omega, rfl, rfl, ⟨0, rfl⟩, by omega, by omega, HV.out.symm⟩
  case round =>
    obtain ⟨k, best, hk, rfl, rfl, ⟨d, hd⟩, hb0, hb1, hv⟩ := hrel
    have c14 : wr.cell? ⟨c.ab, 14, none⟩ = some vp := by rw [hd]; exact c14
    have hR : ∀ i (hi : i < [g0, g1, g2, g3, g4, g5, g6, g7].length), wr.cell? ⟨c.ab, 4 + i, none⟩ = some (.int .i64 [g0, g1, g2, g3, g4, g5, g6, g7][i]) := by rw [hd]; exact HR.out
    have HR := Lib.hid hR
    have hPd := fun x => HP.out d x
    have hXd := fun nd x => HX.out d nd x
    rw [← hd] at hPd hXd
    have HP := Lib.hid hPd
    have HX := Lib.hid hXd
    have hls : c.ab < wr.heap.size := by rw [hd]; exact hls
    have HD := Lib.hid hd
    clear hPd hXd hR hd
    have Hv := Lib.hid hv
    clear hv
    by_cases hlt : k < 8
    · have hlt' : k < [g0, g1, g2, g3, g4, g5, g6, g7].length := by simpa using hlt
      have hix := index8 wr g0 g1 g2 g3 g4 g5 g6 g7 k hlt
      have hdr : [g0, g1, g2, g3, g4, g5, g6, g7].drop k = [g0, g1, g2, g3, g4, g5, g6, g7][k] :: [g0, g1, g2, g3, g4, g5, g6, g7].drop (k + 1) := List.drop_eq_getElem_cons hlt'
      have hXb := HGB.out _ (List.getElem_mem hlt')
      have wq : IntKind.i64.wrap ((k : Int) + 1) = (k : Int) + 1 := IntWalk.i64_in _ (by omega)
      have hv := Hv.out
      rw [hdr, victimF] at hv
      generalize [g0, g1, g2, g3, g4, g5, g6, g7][k]'hlt' = X at hix hXb hv
      have hPX := HP.out X
      have HPX := Lib.hid hPX
      clear hdr hPX
      cases hcon : Pn.contains X
      · rw [hcon, if_neg (by simp)] at hv
        have HC := Lib.hid hcon
        clear hcon
        have HPX' := HPX.out
        rw [HC.out] at HPX'
        have HPY := Lib.hid HPX'
        clear HPX'
        by_cases hb : best < 0
        · have e1 : decide (best < 0) = true := by simpa using hb
          rw [if_pos (.inl hb)] at hv
          have HVV := Lib.hid hv
          clear hv hb
          go_wp2_with fail
          refine HPY.out.mono ?_
          rintro e w2 ⟨rfl, rfl⟩
          go_wp2_with fail
          go_quiet (fail)
          go_wp2_with fail
          exact ⟨⟨k + 1, k, by omega, by simp, rfl, ⟨d + nq, by rw [HD.out, World.drewN_drewN]⟩, by omega, by omega, HVV.out⟩, by simp only [intOf]; omega⟩
        · obtain ⟨t, rfl⟩ := Int.eq_ofNat_of_zero_le (show 0 ≤ best by omega)
          have hlt2 : t < [g0, g1, g2, g3, g4, g5, g6, g7].length := by simp; omega
          have ht8 : t < 8 := by omega
          have cY := HR.out t hlt2
          have hYb := HGB.out _ (List.getElem_mem hlt2)
          have hgd : [g0, g1, g2, g3, g4, g5, g6, g7].getD (t : Int).toNat 0 = [g0, g1, g2, g3, g4, g5, g6, g7][t] := by
            rw [Int.toNat_natCast, List.getD_eq_getElem?_getD, List.getElem?_eq_getElem hlt2]; rfl
          rw [hgd] at hv
          have e1 : decide ((t : Int) < 0) = false := by simp
          generalize [g0, g1, g2, g3, g4, g5, g6, g7][t]'hlt2 = Y at cY hYb hv
          have HNX := Lib.hid (fun nd => HX.out nd X hXb)
          have HNY := Lib.hid (fun nd => HX.out nd Y hYb)
          clear hgd hYb hb
          generalize nx X = A at HNX hv
          generalize nx Y = B at HNY hv
          by_cases hab : A > B
          · rw [if_pos (.inr hab)] at hv
            have e2 : decide (A > B) = true := by simpa using hab
            have HVV := Lib.hid hv
            clear hv hab
            go_wp2_with fail
            refine HPY.out.mono ?_
            rintro e w2 ⟨rfl, rfl⟩
            go_wp2_with fail
            go_quiet (first | (go_at_call 71; with_reducible exact Calls.quiet_of_same (HNX.out _)) | (go_at_call 71; with_reducible exact Calls.quiet_of_same (HNY.out _)))
            go_wp2_with fail
            exact ⟨⟨k + 1, k, by omega, by simp, rfl, ⟨d + nq, by rw [HD.out, World.drewN_drewN]⟩, by omega, by omega, HVV.out⟩, by simp only [intOf]; omega⟩
          · rw [if_neg (by omega)] at hv
            have e2 : decide (A > B) = false := by simpa using hab
            have HVV := Lib.hid hv
            clear hv hab
            go_wp2_with fail
            refine HPY.out.mono ?_
            rintro e w2 ⟨rfl, rfl⟩
            go_wp2_with fail
            go_quiet (first | (go_at_call 71; with_reducible exact Calls.quiet_of_same (HNX.out _)) | (go_at_call 71; with_reducible exact Calls.quiet_of_same (HNY.out _)))
            go_wp2_with fail
            exact ⟨⟨k + 1, t, by omega, by simp, rfl, ⟨d + nq, by rw [HD.out, World.drewN_drewN]⟩, by omega, by omega, HVV.out⟩, by simp only [intOf]; omega⟩
      · rw [hcon, if_pos rfl] at hv
        have HVV := Lib.hid hv
        have HC := Lib.hid hcon
        clear hcon hv
        have HPX' := HPX.out
        rw [HC.out] at HPX'
        have HPY := Lib.hid HPX'
        clear HPX'
        go_wp2_with fail
        refine HPY.out.mono ?_
        rintro e w2 ⟨rfl, rfl⟩
        go_wp2_with fail
        exact ⟨⟨k + 1, best, by omega, by simp, rfl, ⟨d, HD.out⟩, hb0, hb1, HVV.out⟩, by simp only [intOf]; omega⟩
    · have hkn : k = 8 := by omega
      have hv := Hv.out
      rw [hkn] at hv
      simp only [List.drop_succ_cons, List.drop_zero, victimF] at hv
      have HVV := Lib.hid hv
      clear hv
      go_wp2_with fail
      go_ret
      exact ⟨by rw [← HVV.out]; rfl, d, HD.out⟩
end Go.Proofs.YtmkencdkglbpbaaDoor
