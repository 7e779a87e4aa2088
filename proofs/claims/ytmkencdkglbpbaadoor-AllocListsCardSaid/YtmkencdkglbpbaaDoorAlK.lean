/- alloc: end. -/
import Derived.Test.YtmkencdkglbpbaaDoorAlL
set_option maxRecDepth 100000
set_option linter.unusedVariables false
namespace Go.Proofs.YtmkencdkglbpbaaDoor
open Go.RowKit Go.Maps

section
variable {c : AC} {w : World} {Pn : List Int} {N : Nat} {s : AS}
theorem AlX.drewN (h : AlX c w Pn N s) (n : Nat) : AlX c (w.drewN n) Pn N s := h.below ⟨rfl, rfl, rfl, Nat.le_refl _, fun _ _ => rfl⟩
theorem AlX.next_ (H : ACok c) (h : AlX c w Pn N s) (v : Int) (hv : -1 ≤ v ∧ v ≤ 65535) (nd : Nat) :
    Calls Tryd.prog 71 #[.pointer (some ⟨c.ab, 0, none⟩), .int .i64 v] (w.drewN nd) fun e w' => e = .returned (.int .i64 (c.nx s.pos v)) ∧ w' = w.drewN nd := by
  obtain ⟨vp, vt, vo, q, D, h, hS⟩ := h
  exact next_any H (h.drewN nd) v hv
theorem AlX.ell (h : AlX c w Pn N s) : w.cell? ⟨c.ab, 0, none⟩ = some (.slice c.lx c.ln c.lc) := by
  obtain ⟨vp, vt, vo, q, D, h, hS⟩ := h
  exact h.cells.1
theorem AlX.posCell (h : AlX c w Pn N s) : w.cell? ⟨c.ab, 2, none⟩ = some (.int .i64 s.pos) ∧ w.frozen? ⟨c.ab, 2, none⟩ = false ∧ 0 ≤ s.pos := by
  obtain ⟨vp, vt, vo, q, D, h, hS⟩ := h
  exact ⟨h.cells.2.2.1, h.frozen _, h.pos.1⟩
theorem AlX.setPos (h : AlX c w Pn N s) (H : ACok c) (p : Int) (hp : 0 ≤ p ∧ p ≤ 1000) : AlX c (w.setCell ⟨c.ab, 2, none⟩ (.int .i64 p)) Pn N { s with pos := p } := by
  obtain ⟨vp, vt, vo, q, D, h, hS⟩ := h
  exact ⟨vp, vt, vo, q, D, h.setPos H p hp, hS⟩
theorem AlX.regs (h : AlX c w Pn N s) : IRow w c.ab 4 s.G := by
  obtain ⟨vp, vt, vo, q, D, h, hS⟩ := h
  exact h.regs
end
set_option maxHeartbeats 4000000 in
theorem end_any {c : AC} (H : ACok c) {w : World} {Pn : List Int} {N : Nat} {s : AS} (h : AlX c w Pn N s) (hf : Fine s) (hp : s.pos < 1000) :
    Calls Tryd.prog 61 #[.pointer (some ⟨c.ab, 0, none⟩)] w fun e w' => e = .returned (.tuple #[]) ∧ AlX c w' Pn N (endF c.last c.ln s) := by
  obtain ⟨S1, hS1⟩ : ∃ S1, S1 = endF c.last c.ln s := ⟨_, rfl⟩
  rw [← hS1]
  obtain ⟨cp, fp, hp0⟩ := h.posCell
  have hls := h.lt
  obtain ⟨P, hP⟩ : ∃ P, P = s.pos + 1 := ⟨_, rfl⟩
  have hA1 := h.setPos H P (by omega)
  have wP : IntKind.i64.wrap (s.pos + 1) = P := by rw [hP]; exact IntWalk.i64_in _ (by omega)
  obtain ⟨nx, hnx⟩ : ∃ nx, nx = c.nx P := ⟨_, rfl⟩
  have hS2 : S1 = { s with pos := P, G := freeF nx c.ln s.G, T := freeF nx c.ln s.T } := by rw [hS1, endF, hnx, hP]; rfl
  obtain ⟨G, T, hGe, hTe⟩ : ∃ G T, G = s.G ∧ T = s.T := ⟨_, _, rfl, rfl⟩
  have hG8 := hf.g8
  have hgb := hf.gb
  have htb := hf.tb
  have htO := hf.tO
  have hregs := hA1.regs
  rw [← hGe] at hG8 hgb
  rw [← hTe] at htb htO
  rw [← hGe, ← hTe] at hS2
  have hA1' : AlX c (w.setCell ⟨c.ab, 2, none⟩ (.int .i64 P)) Pn N { s with pos := P, G := freeK nx c.ln G 0, T := T } := by
    rw [freeK_zero, hGe, hTe]; exact hA1
  have hreg2 : ∀ i (hi : i < G.length), (w.setCell ⟨c.ab, 2, none⟩ (.int .i64 P)).cell? ⟨c.ab, 4 + i, none⟩ = some (.int .i64 G[i]) := by
    intro i hi
    subst hGe
    exact hregs.2 i hi
  obtain ⟨g0, g1, g2, g3, g4, g5, g6, g7, hG⟩ := list8 hG8
  have HA1 := Lib.hid hA1'
  have HS2 := Lib.hid hS2
  have HH := Lib.hid H
  have HTB := Lib.hid htb
  have HTO := Lib.hid htO
  have HGB := Lib.hid hgb
  have Hnx := Lib.hid hnx
  obtain ⟨w1, hw1⟩ : ∃ w1, w1 = w.setCell ⟨c.ab, 2, none⟩ (.int .i64 P) := ⟨_, rfl⟩
  have hreg3 := hreg2
  rw [← hw1] at hreg3
  subst hG
  have r0 : w1.cell? ⟨c.ab, 4, none⟩ = some (.int .i64 g0) := hreg3 0 (by simp)
  have r1 : w1.cell? ⟨c.ab, 5, none⟩ = some (.int .i64 g1) := hreg3 1 (by simp)
  have r2 : w1.cell? ⟨c.ab, 6, none⟩ = some (.int .i64 g2) := hreg3 2 (by simp)
  have r3 : w1.cell? ⟨c.ab, 7, none⟩ = some (.int .i64 g3) := hreg3 3 (by simp)
  have r4 : w1.cell? ⟨c.ab, 8, none⟩ = some (.int .i64 g4) := hreg3 4 (by simp)
  have r5 : w1.cell? ⟨c.ab, 9, none⟩ = some (.int .i64 g5) := hreg3 5 (by simp)
  have r6 : w1.cell? ⟨c.ab, 10, none⟩ = some (.int .i64 g6) := hreg3 6 (by simp)
  have r7 : w1.cell? ⟨c.ab, 11, none⟩ = some (.int .i64 g7) := hreg3 7 (by simp)
  rw [hw1] at r0 r1 r2 r3 r4 r5 r6 r7
  clear hS1 h H hf hA1 hA1' hS2 hnx hGe hTe hgb htb htO hregs hreg2 hreg3 hP hw1
  go_enter Tryd.func61, Tryd.ntmps61
  go_wp2_with fail
  go_loopw [17] (fun i wr => ∃ k : Nat, k ≤ 8 ∧ i = .int .i64 k ∧ AlX c wr Pn N { s with pos := P, G := freeK nx c.ln [g0, g1, g2, g3, g4, g5, g6, g7] k, T := T }) (fun i _ => 8 - (intOf i).toNat)
  case atStart => exact ⟨0, Nat.zero_le _, rfl, HA1.out⟩
  case round =>
    obtain ⟨k, hk, rfl, hA⟩ := hrel
    have HA := Lib.hid hA
    have hls2 := hA.lt
    have hell := hA.ell
    clear hA HA1 r0 r1 r2 r3 r4 r5 r6 r7 cp fp
    by_cases hlt : k < 8
    · have hlt' : k < [g0, g1, g2, g3, g4, g5, g6, g7].length := by simpa using hlt
      have hix := fun wq => index8 wq g0 g1 g2 g3 g4 g5 g6 g7 k hlt
      have hXb := HGB.out _ (List.getElem_mem hlt')
      have wq : IntKind.i64.wrap ((k : Int) + 1) = (k : Int) + 1 := IntWalk.i64_in _ (by omega)
      have hkeep := freeK_keep nx c.ln [g0, g1, g2, g3, g4, g5, g6, g7] k hlt'
      have hfree := freeK_free nx c.ln [g0, g1, g2, g3, g4, g5, g6, g7] k hlt'
      generalize [g0, g1, g2, g3, g4, g5, g6, g7][k]'hlt' = X at hix hXb hkeep hfree
      have hN := fun nd => HA.out.next_ HH.out X hXb nd
      rw [show c.nx ({ s with pos := P, G := freeK nx c.ln [g0, g1, g2, g3, g4, g5, g6, g7] k, T := T } : AS).pos X = nx X from by rw [Hnx.out]] at hN
      have HNX := Lib.hid hN
      have Hkeep := Lib.hid hkeep
      have Hfree := Lib.hid hfree
      clear hN hkeep hfree
      generalize nx X = Y at HNX Hkeep Hfree
      have e0 : (X = -1) ∨ (X ≠ -1 ∧ Y = c.ln) ∨ (X ≠ -1 ∧ Y ≠ c.ln) := by omega
      rcases e0 with rfl | ⟨hX, rfl⟩ | ⟨hX, hY⟩
      · have hk2 := Hkeep.out (by omega)
        have Hk2 := Lib.hid hk2
        clear hk2
        go_wp2_with fail
        go_quiet (fail)
        go_wp2_with fail
        refine ⟨⟨k + 1, by omega, by simp, ?_⟩, by simp only [intOf]; omega⟩
        rw [Hk2.out]
        exact HA.out.drewN _
      · have hk2 := Hfree.out ⟨hX, rfl⟩
        have eX : (X != -1) = true := by simpa using hX
        have hA2 := fun nd => (HA.out.drewN nd).setG HH.out k hlt (-1) (by omega)
        obtain ⟨hrl, hrc, hrf, _⟩ := HA.out.reg k hlt
        have hrl' : k < (freeK nx c.ln [g0, g1, g2, g3, g4, g5, g6, g7] k).length := hrl
        have hrc' : wr.cell? ⟨c.ab, 4 + k, none⟩ = some (.int .i64 ((freeK nx c.ln [g0, g1, g2, g3, g4, g5, g6, g7] k)[k]'hrl')) := hrc
        generalize (freeK nx c.ln [g0, g1, g2, g3, g4, g5, g6, g7] k)[k]'hrl' = Z at hrc'
        clear hrc hrl
        have HA2 := Lib.hid hA2
        have Hk2 := Lib.hid hk2
        clear hk2 hA2
        go_wp2_with fail
        go_quiet (first | (go_at_call 71; with_reducible exact Calls.quiet_of_same (HNX.out _)))
        go_wp2_with fail
        all_goals first | (exfalso; omega) | skip
        refine ⟨⟨k + 1, by omega, by simp, ?_⟩, by simp only [intOf]; omega⟩
        rw [Hk2.out]
        exact HA2.out _
      · have hk2 := Hkeep.out (by omega)
        have Hk2 := Lib.hid hk2
        have eX : (X != -1) = true := by simpa using hX
        have eY : (Y == (c.ln : Int)) = false := by simpa using hY
        clear hk2
        go_wp2_with fail
        go_quiet (first | (go_at_call 71; with_reducible exact Calls.quiet_of_same (HNX.out _)))
        go_wp2_with fail
        all_goals first | (exfalso; omega) | skip
        refine ⟨⟨k + 1, by omega, by simp, ?_⟩, by simp only [intOf]; omega⟩
        rw [Hk2.out]
        exact HA.out.drewN _
    · have hkn : k = 8 := by omega
      have hA := HA.out
      rw [freeK_all _ _ _ _ (by simpa using hkn)] at hA
      obtain ⟨G', hG'⟩ : ∃ G', G' = freeF nx c.ln [g0, g1, g2, g3, g4, g5, g6, g7] := ⟨_, rfl⟩
      have hS2 := HS2.out
      rw [← hG'] at hA hS2
      have HS3 := Lib.hid hS2
      obtain ⟨vp, vt, vo, q, D, hA, hS⟩ := hA
      obtain ⟨x1, cc1, rfl, hcc1⟩ := own_slice hA.rt
      obtain ⟨c0, c1, c2, c3, c12, c13, c14, c15, c16, c17⟩ := hA.cells
      have hTn : T.length ≤ 10000 := Nat.le_trans hA.tn hA.n
      have HA0 := Lib.hid hA
      have HS0 := Lib.hid hS
      clear hA hS hS2 hG' HS2 HGB
      have hl0 : c.ab < wr.heap.size := HA0.out.lt
      go_wp2_with fail
      go_loopw [45] (fun i wz => ∃ (k : Nat) (q : Nat) (D : DataW Unit), k ≤ T.length ∧ i = .int .i64 k ∧ AlIn c wz vp (.slice x1 T.length cc1) vo Pn q D N { s with pos := P, G := G', T := freeK nx c.ln T k } ∧ SlotSays D (freeK nx c.ln T k) ∧ Once (freeK nx c.ln T k)) (fun i _ => T.length - (intOf i).toNat)
      case atStart => exact ⟨0, q, D, Nat.zero_le _, rfl, by rw [freeK_zero]; exact HA0.out, by rw [freeK_zero]; exact HS0.out, by rw [freeK_zero]; exact HTO.out⟩
      case round =>
        obtain ⟨k, q, D, hk, rfl, hA, hS, hO⟩ := hrel
        have HA := Lib.hid hA
        have HS := Lib.hid hS
        have HO := Lib.hid hO
        have hls2 := hA.lt
        obtain ⟨c0, c1, c2, c3, c12, c13, c14, c15, c16, c17⟩ := hA.cells
        have hX2 : AlX c wr Pn N { s with pos := P, G := G', T := freeK nx c.ln T k } := ⟨vp, _, vo, q, D, hA, hS⟩
        have HX2 := Lib.hid hX2
        clear hA hS hO hX2
        by_cases hlt : k < T.length
        · have hfl := freeK_length nx c.ln T k (by omega)
          have hlt' : k < (freeK nx c.ln T k).length := by omega
          obtain ⟨x2, cc2, hxe, hcc2, hL, hown⟩ := HA.out.taken
          injection hxe with hxe hxe2 hce
          subst hxe
          clear hxe2 hce
          obtain ⟨g, rfl, hI⟩ := hL.resolve_left (fun e => by have e' : freeK nx c.ln T k = [] := e; rw [e'] at hlt'; simp at hlt')
          have d0 := hI.2 k hlt'
          have hgl := hI.1
          rw [Nat.zero_add] at d0
          have hTk := freeK_at nx c.ln T k hlt hlt'
          have hXb := HTB.out _ (List.getElem_mem hlt)
          have hkeep := freeK_keep nx c.ln T k hlt
          have hfree := freeK_free nx c.ln T k hlt
          have d0' : wr.cell? ⟨g, k, none⟩ = some (.int .i64 T[k]) := by rw [← hTk]; exact d0
          clear d0 hI hown
          generalize T[k]'hlt = X at d0' hXb hkeep hfree hTk
          have gf : wr.frozen? ⟨g, k, none⟩ = false := by
            obtain ⟨g', cap, cur, hv, _, hh, _⟩ := HA.out.rt.2.resolve_left (fun h => by have := h.1; simp at this)
            injection hv with hv _ _
            injection hv with hv
            injection hv with hv _ _
            subst hv
            simp [World.frozen?, hh]
          have hga : c.ab ≠ g := by have := (HA.out.rt.lt g rfl).1; have := HH.out.ab; omega
          have wq : IntKind.i64.wrap ((k : Int) + 1) = (k : Int) + 1 := IntWalk.i64_in _ (by omega)
          have hN := fun nd => HX2.out.next_ HH.out X hXb nd
          rw [show c.nx ({ s with pos := P, G := G', T := freeK nx c.ln T k } : AS).pos X = nx X from by rw [Hnx.out]] at hN
          have HNX := Lib.hid hN
          have Hkeep := Lib.hid hkeep
          have Hfree := Lib.hid hfree
          have HTk := Lib.hid hTk
          clear hN hkeep hfree hTk hfl hcc2
          generalize nx X = Y at HNX Hkeep Hfree
          have e0 : (X = -1) ∨ (X ≠ -1 ∧ Y = c.ln) ∨ (X ≠ -1 ∧ Y ≠ c.ln) := by omega
          rcases e0 with rfl | ⟨hX, rfl⟩ | ⟨hX, hY⟩
          · have hk2 := Hkeep.out (by omega)
            have Hk2 := Lib.hid hk2
            clear hk2
            go_wp2_with fail
            go_quiet (fail)
            go_wp2_with fail
            refine ⟨⟨k + 1, q, D, by omega, by simp, ?_⟩, by simp only [intOf]; omega⟩
            rw [Hk2.out]
            exact ⟨HA.out.drewN _, HS.out, HO.out⟩
          · have hk2 := Hfree.out ⟨hX, rfl⟩
            have eX : (X != -1) = true := by simpa using hX
            have hkey : keyOf Tryd.prog 3 (.int .i64 X) = some (.int .i64 X) := keyOf_int_mk Tryd.underlying3 (WalkArith.wf_i64 (by omega))
            have hA2 := fun nd => (HA.out.drewN nd).putT HH.out (g := g) rfl k hlt' (-1) (by omega)
            have HA2 := Lib.hid hA2
            have Hk2 := Lib.hid hk2
            clear hk2 hA2
            go_wp2_with fail
            go_quiet (first | (go_at_call 71; with_reducible exact Calls.quiet_of_same (HNX.out _)))
            go_wp2_with (at_delete; refine wpList_delete_own _ rfl _ _ 80 3 rfl 3 law3 Tryd.underlying80 _ c.mb q D rfl (HA2.out nq).map _ _ rfl hkey ?_; intro w1 hown1 hturn1)
            have hA3 := (HA2.out nq).setD HH.out hown1 hturn1.grown (HA.out.qn)
            refine ⟨⟨k + 1, q, D.del (.int .i64 X), by omega, by simp, ?_⟩, by simp only [intOf]; omega⟩
            rw [Hk2.out]
            exact ⟨hA3, HS.out.del HO.out X k hlt' HTk.out (by omega), HO.out.set k (-1) (.inl rfl)⟩
          · have hk2 := Hkeep.out (by omega)
            have Hk2 := Lib.hid hk2
            have eX : (X != -1) = true := by simpa using hX
            have eY : (Y == (c.ln : Int)) = false := by simpa using hY
            clear hk2
            go_wp2_with fail
            go_quiet (first | (go_at_call 71; with_reducible exact Calls.quiet_of_same (HNX.out _)))
            go_wp2_with fail
            refine ⟨⟨k + 1, q, D, by omega, by simp, ?_⟩, by simp only [intOf]; omega⟩
            rw [Hk2.out]
            exact ⟨HA.out.drewN _, HS.out, HO.out⟩
        · have hkn : k = T.length := by omega
          have hA := HX2.out
          rw [freeK_all _ _ _ _ hkn, ← HS3.out] at hA
          have HA4 := Lib.hid hA
          clear hA HX2
          go_wp2_with fail
          go_end0
          exact ⟨rfl, HA4.out⟩
end Go.Proofs.YtmkencdkglbpbaaDoor
