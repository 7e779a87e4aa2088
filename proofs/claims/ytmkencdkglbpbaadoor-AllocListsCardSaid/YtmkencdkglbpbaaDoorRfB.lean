/- The document's take. -/
import Derived.Test.YtmkencdkglbpbaaDoorRfS
import Derived.Test.YtmkencdkglbpbaaDoorPress
set_option maxRecDepth 100000
set_option linter.unusedVariables false
namespace Go.Proofs.YtmkencdkglbpbaaDoor
open Go.RowKit Go.Maps

set_option maxHeartbeats 8000000 in
theorem takeR_any (x : Option Addr) (n c : Nat) (L : List Op8) (base g0 g1 g2 g3 g4 g5 g6 g7 m er : Int) (vs vo : Value) (T : List Int) (O : List Op8) (B N k : Nat) (v : Int) (sets : Bool) (w : World) (hL : OpsSl w x L) (hn : L.length = n) (hn2 : n ≤ 1000) (hk : k < L.length) (hR : RowsA w B vs vo T O N) (hB : B ≤ w.heap.size) (hf : Fine ⟨k, [g0, g1, g2, g3, g4, g5, g6, g7], T, O, m, er⟩) (hb : 0 ≤ base ∧ base ≤ 1020) (hm : 0 ≤ m ∧ m ≤ N) (hN : N + 2 ≤ 10000)
    (S : AS) (hS : S = takeF (fun y => nextF n k (lastF L 0 y)) base (pinsOf L[k] sets) ⟨k, [g0, g1, g2, g3, g4, g5, g6, g7], T, O, m, er⟩ v) (R : Int) (hRp : R = pickF (fun y => nextF n k (lastF L 0 y)) (pinsOf L[k] sets) ⟨k, [g0, g1, g2, g3, g4, g5, g6, g7], T, O, m, er⟩) :
    Calls Tryd.prog 63 #[.agg #[.slice x n c, .int .i64 base, .int .i64 (k : Int), .int .i64 g0, .int .i64 g1, .int .i64 g2, .int .i64 g3, .int .i64 g4, .int .i64 g5, .int .i64 g6, .int .i64 g7, vs, vo, .int .i64 m, .int .i64 er], .int .i64 v, .bool sets] w fun e w' => ∃ h0 h1 h2 h3 h4 h5 h6 h7 vs' vo', e = .returned (.tuple #[.agg #[.slice x n c, .int .i64 base, .int .i64 (k : Int), .int .i64 h0, .int .i64 h1, .int .i64 h2, .int .i64 h3, .int .i64 h4, .int .i64 h5, .int .i64 h6, .int .i64 h7, vs', vo', .int .i64 S.slots, .int .i64 S.e], .int .i64 R]) ∧ S.G = [h0, h1, h2, h3, h4, h5, h6, h7] ∧ RowsA w' B vs' vo' S.T S.out (N + 1) ∧ w.grownBy w' vo.ownBlock ∧ AtR w vs vs' ∧ AtR w vo vo' := by
  obtain ⟨i0, hi, hz0, hz1, hz2⟩ := info_parts Tryd.infoInt
  have hpk := pick_ok (nx := fun y => nextF n k (lastF L 0 y)) hf (pins_len L[k] sets)
  rw [← hRp] at hpk
  obtain ⟨nx, hnx⟩ : ∃ nx : Int → Int, nx = fun y => nextF n k (lastF L 0 y) := ⟨_, rfl⟩
  rw [← hnx] at hS hRp
  have HNX : Hid (∀ (wq : World) p0 p1 p2 p3 p4 p5 p6 p7 (q1 q2 : Int) (u1 u2 : Option Addr) (n1 c1 n2 c2 : Nat) (y : Int), OpsSl wq x L → y ≠ -1 → Calls Tryd.prog 43 #[.agg #[.slice x n c, .int .i64 base, .int .i64 (k : Int), .int .i64 p0, .int .i64 p1, .int .i64 p2, .int .i64 p3, .int .i64 p4, .int .i64 p5, .int .i64 p6, .int .i64 p7, .slice u1 n1 c1, .slice u2 n2 c2, .int .i64 q1, .int .i64 q2], .int .i64 y, .int .i64 k] wq fun e w' => e = .returned (.int .i64 (nx y)) ∧ Below wq.heap.size wq w') := fun wq p0 p1 p2 p3 p4 p5 p6 p7 q1 q2 u1 u2 n1 c1 n2 c2 y h1 h2 => by
    rw [hnx]
    exact nextR_any x n c L base k p0 p1 p2 p3 p4 p5 p6 p7 q1 q2 u1 u2 n1 c1 n2 c2 y k wq h1 hn hn2 h2 (by omega)
  have HPN : Hid (∀ (wq : World) p0 p1 p2 p3 p4 p5 p6 p7 (q1 q2 : Int) (u1 u2 : Option Addr) (n1 c1 n2 c2 : Nat) (y : Int), OpsSl wq x L → y ≠ -1 → Calls Tryd.prog 72 #[.agg #[.slice x n c, .int .i64 base, .int .i64 (k : Int), .int .i64 p0, .int .i64 p1, .int .i64 p2, .int .i64 p3, .int .i64 p4, .int .i64 p5, .int .i64 p6, .int .i64 p7, .slice u1 n1 c1, .slice u2 n2 c2, .int .i64 q1, .int .i64 q2], .int .i64 y, .bool sets] wq fun e w' => e = .returned (.bool ((pinsOf L[k] sets).contains y)) ∧ Below wq.heap.size wq w') := fun wq p0 p1 p2 p3 p4 p5 p6 p7 q1 q2 u1 u2 n1 c1 n2 c2 y h1 h2 =>
    pinned_any x n c L base k p0 p1 p2 p3 p4 p5 p6 p7 q1 q2 (.slice u1 n1 c1) (.slice u2 n2 c2) y sets k hk wq h1 hn hn2 h2 rfl
  clear hnx
  obtain ⟨r, rfl⟩ := Int.eq_ofNat_of_zero_le hpk.1
  have hr8 : r < 8 := by omega
  obtain ⟨xs, cs, rfl, hcs, hLs, hgs⟩ := own_LSl hR.rt rfl
  obtain ⟨xo, co, rfl, hco⟩ := own_slice hR.ro
  generalize pinsOf L[k] sets = PN at hS hRp HPN
  have HL := Lib.hid hL
  have HR := Lib.hid hR
  have HF := Lib.hid hf
  have HS := Lib.hid hS
  have HRp := Lib.hid hRp
  have hTN := hR.tn
  have hON := hR.on
  clear hL hR hf hS hRp hLs hgs hpk hk hn
  go_enter Tryd.func63, Tryd.ntmps63
  go_upto_region 1 with fail
  obtain ⟨hB2, k5, k6, hs2⟩ := alloc2 w (.cells #[.slice x n c, .int .i64 base, .int .i64 (k : Int), .int .i64 g0, .int .i64 g1, .int .i64 g2, .int .i64 g3, .int .i64 g4, .int .i64 g5, .int .i64 g6, .int .i64 g7, .slice xs T.length cs, .slice xo O.length co, .int .i64 m, .int .i64 er] 86) (.cells #[.slice none 0 0, .int .i64 0, .int .i64 0, .int .i64 0, .int .i64 0, .int .i64 0, .int .i64 0, .int .i64 0, .int .i64 0, .int .i64 0, .int .i64 0, .slice none 0 0, .slice none 0 0, .int .i64 0, .int .i64 0] 86)
  generalize (w.alloc _).alloc _ = w2 at hB2 k5 k6 hs2 ⊢
  have hl2 : w.heap.size + 1 < w2.heap.size := by omega
  have K5 := Lib.hid k5
  have K6 := Lib.hid k6
  have HB2 := Lib.hid hB2
  have HRg := Lib.hid (boxA_regs k5)
  clear hs2 k5 k6 hB2
  go_wp2_with fail
  go_loopw [8, 9] (fun bv iv wz => ∃ (j : Nat) (bs : Int), j ≤ 8 ∧ iv = .int .i64 j ∧ bv = .int .i64 bs ∧ bs = idxV ([g0, g1, g2, g3, g4, g5, g6, g7].take j) (-1) 0 ∧ w2 = wz) (fun _ iv _ => 8 - (intOf iv).toNat)
  case atStart => exact ⟨0, -1, by omega, rfl, rfl, rfl, rfl⟩
  case round =>
    obtain ⟨j, bs, hj, rfl, rfl, hbs, rfl⟩ := hrel
    by_cases hlt : j < 8
    · have hlt' : j < [g0, g1, g2, g3, g4, g5, g6, g7].length := by simpa using hlt
      have c0 := HRg.out.2 j hlt'
      have hst : [g0, g1, g2, g3, g4, g5, g6, g7].take (j + 1) = [g0, g1, g2, g3, g4, g5, g6, g7].take j ++ [[g0, g1, g2, g3, g4, g5, g6, g7][j]] := List.take_succ_eq_append_getElem hlt'
      have hix := idxV_snoc ([g0, g1, g2, g3, g4, g5, g6, g7].take j) ([g0, g1, g2, g3, g4, g5, g6, g7][j]) (-1) 0
      have hbd := (idxV_bd ([g0, g1, g2, g3, g4, g5, g6, g7].take j) (-1) 0).1
      have hlen : ([g0, g1, g2, g3, g4, g5, g6, g7].take j).length = j := by rw [List.length_take]; simp; omega
      rw [← hst, hlen, ← hbs, Nat.zero_add] at hix
      rw [← hbs] at hbd
      have wj : IntKind.i64.wrap ((j : Int) + 1) = (j : Int) + 1 := IntWalk.i64_in _ (by omega)
      generalize [g0, g1, g2, g3, g4, g5, g6, g7][j]'hlt' = X at c0 hix
      have Hix := Lib.hid hix
      clear hst hlen hix hbs
      cases eX : (X == -1)
      · have h2 : bs = idxV ([g0, g1, g2, g3, g4, g5, g6, g7].take (j + 1)) (-1) 0 := by
          have : X ≠ -1 := by simpa using eX
          rw [Hix.out]
          split
          · rfl
          · rw [if_neg (fun e => this e.symm)]; omega
        have H2 := Lib.hid h2
        clear h2
        go_wp2_with fail
        exact ⟨⟨j + 1, bs, by omega, by simp, rfl, H2.out, trivial⟩, by simp only [intOf]; omega⟩
      · by_cases hb0 : bs < 0
        · have h2 : (j : Int) = idxV ([g0, g1, g2, g3, g4, g5, g6, g7].take (j + 1)) (-1) 0 := by
            have : X = -1 := by simpa using eX
            rw [Hix.out, if_neg (by omega), if_pos this.symm]
          have H2 := Lib.hid h2
          have ed : decide (bs < 0) = true := by simpa using hb0
          clear h2
          go_wp2_with fail
          exact ⟨⟨j + 1, j, by omega, by simp, rfl, H2.out, trivial⟩, by simp only [intOf]; omega⟩
        · have h2 : bs = idxV ([g0, g1, g2, g3, g4, g5, g6, g7].take (j + 1)) (-1) 0 := by
            rw [Hix.out, if_pos (by omega)]
          have H2 := Lib.hid h2
          have ed : decide (bs < 0) = false := by simpa using hb0
          clear h2
          go_wp2_with fail
          exact ⟨⟨j + 1, bs, by omega, by simp, rfl, H2.out, trivial⟩, by simp only [intOf]; omega⟩
    · have hj8 : j = 8 := by omega
      rw [hj8] at hbs
      have hbs2 : bs = idxV [g0, g1, g2, g3, g4, g5, g6, g7] (-1) 0 := hbs
      clear hbs hj8
      by_cases hb0 : bs < 0
      · have hfree : idxV [g0, g1, g2, g3, g4, g5, g6, g7] (-1) 0 < 0 := by rw [← hbs2]; exact hb0
        have hm1 : (-1 : Int) ∉ [g0, g1, g2, g3, g4, g5, g6, g7] := fun e => by have := (idxV_mem [g0, g1, g2, g3, g4, g5, g6, g7] (-1) 0).2 e; omega
        have hvf : victimF nx PN [g0, g1, g2, g3, g4, g5, g6, g7] [g0, g1, g2, g3, g4, g5, g6, g7] 0 (-1) = r := by
          have h := HRp.out
          rw [pickF, if_pos (by exact hfree)] at h
          exact h.symm
        obtain rfl : bs = -1 := by have := (idxV_bd [g0, g1, g2, g3, g4, g5, g6, g7] (-1) 0).1; omega
        have Hvf := Lib.hid hvf
        have Hm1 := Lib.hid hm1
        have Hfree := Lib.hid hfree
        clear hfree hm1 hvf hbs2 hb0
        go_wp2_with fail
        go_loopw [8, 10] (fun bv iv wz => ∃ (j : Nat) (bs : Int), j ≤ 8 ∧ iv = .int .i64 j ∧ bv = .int .i64 bs ∧ -1 ≤ bs ∧ bs < 8 ∧ victimF nx PN [g0, g1, g2, g3, g4, g5, g6, g7] ([g0, g1, g2, g3, g4, g5, g6, g7].drop j) j bs = r ∧ Below w2.heap.size w2 wz) (fun _ iv _ => 8 - (intOf iv).toNat)
        case atStart => exact ⟨0, -1, by omega, rfl, rfl, by omega, by omega, Hvf.out, Below.refl _ _⟩
        case round =>
          obtain ⟨j, bs, hj, rfl, rfl, hb0, hb1, hv, hB3⟩ := hrel
          have k5 := (hB3.block _ (by omega)).trans K5.out
          obtain ⟨z0, z1, z2, z3, z4, z5, z6, z7, z8, z9, z10, z11, z12, z13, z14⟩ := blockA_cells k5
          have hRg := boxA_regs k5
          have hlr : w.heap.size + 1 < wr.heap.size := Nat.lt_of_lt_of_le hl2 hB3.size
          have HB3 := Lib.hid hB3
          have Hv := Lib.hid hv
          have HLr := Lib.hid ((HL.out.below HB2.out).below (hB3))
          have Hk5 := Lib.hid k5
          clear hB3 hv k5
          by_cases hlt : j < 8
          · have hlt' : j < [g0, g1, g2, g3, g4, g5, g6, g7].length := by simpa using hlt
            have c0 := hRg.2 j hlt'
            have hdr : [g0, g1, g2, g3, g4, g5, g6, g7].drop j = [g0, g1, g2, g3, g4, g5, g6, g7][j] :: [g0, g1, g2, g3, g4, g5, g6, g7].drop (j + 1) := List.drop_eq_getElem_cons hlt'
            have wj : IntKind.i64.wrap ((j : Int) + 1) = (j : Int) + 1 := IntWalk.i64_in _ (by omega)
            have hXn : [g0, g1, g2, g3, g4, g5, g6, g7][j] ≠ -1 := fun e => Hm1.out (e ▸ List.getElem_mem hlt')
            have hv := Hv.out
            rw [hdr, victimF] at hv
            generalize [g0, g1, g2, g3, g4, g5, g6, g7][j]'hlt' = X at c0 hv hXn
            have HPX := Lib.hid (fun wq (h : OpsSl wq x L) => HPN.out wq g0 g1 g2 g3 g4 g5 g6 g7 m er xs xo T.length cs O.length co X h hXn)
            have HNXX := Lib.hid (fun wq (h : OpsSl wq x L) => HNX.out wq g0 g1 g2 g3 g4 g5 g6 g7 m er xs xo T.length cs O.length co X h hXn)
            clear hdr hXn
            have Kp : Hid (∀ w', Below wr.heap.size wr w' → (w'.cell? ⟨w.heap.size, 0, none⟩ = some (.slice x n c) ∧ w'.cell? ⟨w.heap.size, 1, none⟩ = some (.int .i64 base) ∧ w'.cell? ⟨w.heap.size, 2, none⟩ = some (.int .i64 (k : Int)) ∧ w'.cell? ⟨w.heap.size, 3, none⟩ = some (.int .i64 g0) ∧ w'.cell? ⟨w.heap.size, 4, none⟩ = some (.int .i64 g1) ∧ w'.cell? ⟨w.heap.size, 5, none⟩ = some (.int .i64 g2) ∧ w'.cell? ⟨w.heap.size, 6, none⟩ = some (.int .i64 g3) ∧ w'.cell? ⟨w.heap.size, 7, none⟩ = some (.int .i64 g4) ∧ w'.cell? ⟨w.heap.size, 8, none⟩ = some (.int .i64 g5) ∧ w'.cell? ⟨w.heap.size, 9, none⟩ = some (.int .i64 g6) ∧ w'.cell? ⟨w.heap.size, 10, none⟩ = some (.int .i64 g7) ∧ w'.cell? ⟨w.heap.size, 11, none⟩ = some (.slice xs T.length cs) ∧ w'.cell? ⟨w.heap.size, 12, none⟩ = some (.slice xo O.length co) ∧ w'.cell? ⟨w.heap.size, 13, none⟩ = some (.int .i64 m) ∧ w'.cell? ⟨w.heap.size, 14, none⟩ = some (.int .i64 er)) ∧ w'.cell? ⟨w.heap.size, 3 + j, none⟩ = some (.int .i64 X)) := fun w' h => ⟨blockA_cells ((h.block _ (by omega)).trans Hk5.out), (h.cell (p := ⟨w.heap.size, 3 + j, none⟩) (by show w.heap.size < _; omega)).trans c0⟩
            cases hcon : PN.contains X
            · rw [hcon, if_neg (by simp)] at hv
              rw [hcon] at HPX
              by_cases hbn : bs < 0
              · rw [if_pos (.inl hbn)] at hv
                have HVV := Lib.hid hv
                have ed : decide (bs < 0) = true := by simpa using hbn
                clear hv hbn hcon
                go_wp2_with fail
                have Kx := fun y : BW wr => Kp.out y.val y.prop
                have HLx := Lib.hid (fun y : BW wr => HLr.out.below y.prop)
                as_aux_lemma =>
                  refine wp_region_bw (by kernel_rfl) (by kernel_rfl) ?_
                  repeat (with_reducible refine wpQuiet_step (fun K hK => ?_); go_simp; first | (with_reducible refine hK _ ?_; clear hK K) | (rw [if_neg (by first | decide | simp [undef] | nofun)]; with_reducible refine hK _ ?_; clear hK K) | (apply Exists.intro; refine ⟨fun _ => ?_, hK _ ?_⟩; (go_at_call 72; with_reducible exact Calls.bw_of (HPX.out _ (HLx.out _))); clear hK K))
                  with_reducible refine wpQuiet_nil ?_
                  intro _ hw9
                  obtain ⟨⟨w9, hbz⟩, rfl⟩ := hw9
                  have HBz := Lib.hid (HB3.out.trans (hbz.mono HB3.out.size))
                  clear hbz Kx HLx
                  go_wp2_with fail
                  exact ⟨⟨j + 1, j, by omega, by simp, rfl, by omega, by omega, HVV.out, HBz.out⟩, by simp only [intOf]; omega⟩
              · obtain ⟨t, rfl⟩ := Int.eq_ofNat_of_zero_le (show 0 ≤ bs by omega)
                have hlt2 : t < [g0, g1, g2, g3, g4, g5, g6, g7].length := by simp; omega
                have cY := hRg.2 t hlt2
                have hgd : [g0, g1, g2, g3, g4, g5, g6, g7].getD (t : Int).toNat 0 = [g0, g1, g2, g3, g4, g5, g6, g7][t] := by
                  rw [Int.toNat_natCast, List.getD_eq_getElem?_getD, List.getElem?_eq_getElem hlt2]; rfl
                rw [hgd] at hv
                have hYn : [g0, g1, g2, g3, g4, g5, g6, g7][t] ≠ -1 := fun e => Hm1.out (e ▸ List.getElem_mem hlt2)
                have e1 : decide ((t : Int) < 0) = false := by simp
                generalize [g0, g1, g2, g3, g4, g5, g6, g7][t]'hlt2 = Y at cY hv hYn
                have HNXY := Lib.hid (fun wq (h : OpsSl wq x L) => HNX.out wq g0 g1 g2 g3 g4 g5 g6 g7 m er xs xo T.length cs O.length co Y h hYn)
                have Kp2 : Hid (∀ w', Below wr.heap.size wr w' → (w'.cell? ⟨w.heap.size, 0, none⟩ = some (.slice x n c) ∧ w'.cell? ⟨w.heap.size, 1, none⟩ = some (.int .i64 base) ∧ w'.cell? ⟨w.heap.size, 2, none⟩ = some (.int .i64 (k : Int)) ∧ w'.cell? ⟨w.heap.size, 3, none⟩ = some (.int .i64 g0) ∧ w'.cell? ⟨w.heap.size, 4, none⟩ = some (.int .i64 g1) ∧ w'.cell? ⟨w.heap.size, 5, none⟩ = some (.int .i64 g2) ∧ w'.cell? ⟨w.heap.size, 6, none⟩ = some (.int .i64 g3) ∧ w'.cell? ⟨w.heap.size, 7, none⟩ = some (.int .i64 g4) ∧ w'.cell? ⟨w.heap.size, 8, none⟩ = some (.int .i64 g5) ∧ w'.cell? ⟨w.heap.size, 9, none⟩ = some (.int .i64 g6) ∧ w'.cell? ⟨w.heap.size, 10, none⟩ = some (.int .i64 g7) ∧ w'.cell? ⟨w.heap.size, 11, none⟩ = some (.slice xs T.length cs) ∧ w'.cell? ⟨w.heap.size, 12, none⟩ = some (.slice xo O.length co) ∧ w'.cell? ⟨w.heap.size, 13, none⟩ = some (.int .i64 m) ∧ w'.cell? ⟨w.heap.size, 14, none⟩ = some (.int .i64 er)) ∧ w'.cell? ⟨w.heap.size, 3 + j, none⟩ = some (.int .i64 X) ∧ w'.cell? ⟨w.heap.size, 3 + t, none⟩ = some (.int .i64 Y)) := fun w' h => ⟨(Kp.out w' h).1, (Kp.out w' h).2, (h.cell (p := ⟨w.heap.size, 3 + t, none⟩) (by show w.heap.size < _; omega)).trans cY⟩
                have HY := Lib.hid hYn
                have ht8 : t < 8 := by omega
                have ht8i : (t : Int) < 8 := by omega
                clear hgd hYn hcon hb0 hb1
                generalize nx X = AA at HNXX hv
                generalize nx Y = BB at HNXY hv
                by_cases hab : AA > BB
                · rw [if_pos (.inr hab)] at hv
                  have e2 : decide (AA > BB) = true := by simpa using hab
                  have HVV := Lib.hid hv
                  clear hv hab hbn
                  go_wp2_with fail
                  have Kx := fun y : BW wr => Kp2.out y.val y.prop
                  have HLx := Lib.hid (fun y : BW wr => HLr.out.below y.prop)
                  as_aux_lemma =>
                    refine wp_region_bw (by kernel_rfl) (by kernel_rfl) ?_
                    repeat (with_reducible refine wpQuiet_step (fun K hK => ?_); go_simp; first | (with_reducible refine hK _ ?_; clear hK K) | (rw [if_neg (by first | decide | simp [undef] | nofun)]; with_reducible refine hK _ ?_; clear hK K) | (apply Exists.intro; refine ⟨fun _ => ?_, hK _ ?_⟩; (first | (go_at_call 72; with_reducible exact Calls.bw_of (HPX.out _ (HLx.out _))) | (go_at_call 43; with_reducible exact Calls.bw_of (HNXX.out _ (HLx.out _))) | (go_at_call 43; with_reducible exact Calls.bw_of (HNXY.out _ (HLx.out _)))); clear hK K))
                    with_reducible refine wpQuiet_nil ?_
                    intro _ hw9
                    obtain ⟨⟨w9, hbz⟩, rfl⟩ := hw9
                    have HBz := Lib.hid (HB3.out.trans (hbz.mono HB3.out.size))
                    clear hbz Kx HLx
                    go_wp2_with fail
                    exact ⟨⟨j + 1, j, by omega, by simp, rfl, by omega, by omega, HVV.out, HBz.out⟩, by simp only [intOf]; omega⟩
                · rw [if_neg (by omega)] at hv
                  have e2 : decide (AA > BB) = false := by simpa using hab
                  have HVV := Lib.hid hv
                  clear hv hab hbn
                  go_wp2_with fail
                  have Kx := fun y : BW wr => Kp2.out y.val y.prop
                  have HLx := Lib.hid (fun y : BW wr => HLr.out.below y.prop)
                  as_aux_lemma =>
                    refine wp_region_bw (by kernel_rfl) (by kernel_rfl) ?_
                    repeat (with_reducible refine wpQuiet_step (fun K hK => ?_); go_simp; first | (with_reducible refine hK _ ?_; clear hK K) | (rw [if_neg (by first | decide | simp [undef] | nofun)]; with_reducible refine hK _ ?_; clear hK K) | (apply Exists.intro; refine ⟨fun _ => ?_, hK _ ?_⟩; (first | (go_at_call 72; with_reducible exact Calls.bw_of (HPX.out _ (HLx.out _))) | (go_at_call 43; with_reducible exact Calls.bw_of (HNXX.out _ (HLx.out _))) | (go_at_call 43; with_reducible exact Calls.bw_of (HNXY.out _ (HLx.out _)))); clear hK K))
                    with_reducible refine wpQuiet_nil ?_
                    intro _ hw9
                    obtain ⟨⟨w9, hbz⟩, rfl⟩ := hw9
                    have HBz := Lib.hid (HB3.out.trans (hbz.mono HB3.out.size))
                    clear hbz Kx HLx
                    go_wp2_with fail
                    exact ⟨⟨j + 1, t, by omega, by simp, rfl, by omega, by omega, HVV.out, HBz.out⟩, by simp only [intOf]; omega⟩
            · rw [hcon, if_pos rfl] at hv
              rw [hcon] at HPX
              have HVV := Lib.hid hv
              clear hv hcon
              go_wp2_with fail
              have Kx := fun y : BW wr => Kp.out y.val y.prop
              have HLx := Lib.hid (fun y : BW wr => HLr.out.below y.prop)
              as_aux_lemma =>
                refine wp_region_bw (by kernel_rfl) (by kernel_rfl) ?_
                repeat (with_reducible refine wpQuiet_step (fun K hK => ?_); go_simp; first | (with_reducible refine hK _ ?_; clear hK K) | (rw [if_neg (by first | decide | simp [undef] | nofun)]; with_reducible refine hK _ ?_; clear hK K) | (apply Exists.intro; refine ⟨fun _ => ?_, hK _ ?_⟩; (go_at_call 72; with_reducible exact Calls.bw_of (HPX.out _ (HLx.out _))); clear hK K))
                with_reducible refine wpQuiet_nil ?_
                intro _ hw9
                obtain ⟨⟨w9, hbz⟩, rfl⟩ := hw9
                have HBz := Lib.hid (HB3.out.trans (hbz.mono HB3.out.size))
                clear hbz Kx HLx
                go_wp2_with fail
                exact ⟨⟨j + 1, bs, by omega, by simp, rfl, by omega, by omega, HVV.out, HBz.out⟩, by simp only [intOf]; omega⟩
          · have hj8 : j = 8 := by omega
            have hbr : bs = r := by
              have h := Hv.out
              rw [hj8] at h
              exact h
            subst hbr
            have k6 := (HB3.out.block _ hl2).trans K6.out
            have hRw := (HR.out.below HB2.out).below (HB3.out)
            have hgr : w.grownBy wr (Value.slice xo O.length co).ownBlock := below_grown (HB2.out.trans (HB3.out.mono HB2.out.size))
            have hown0 : ∀ (u : Value) (E : TypeId) (sz : Nat) (l : Nat) (q : List Value), w.ownsRow B E sz u l q → ∀ j, u.ownBlock = some j → j ≠ w.heap.size ∧ j ≠ w.heap.size + 1 := fun u E sz l q h j e => by
              have := (h.lt j e).2
              omega
            have HSp0 := Lib.hid (show SpA w B N x n c base k g0 g1 g2 g3 g4 g5 g6 g7 m er (.slice xs T.length cs) (.slice xo O.length co) (.slice xs T.length cs) (.slice xo O.length co) T O wr from ⟨Hk5.out, k6, hRw, hgr, .inl rfl, .inl rfl, hown0 _ _ _ _ _ HR.out.rt, hown0 _ _ _ _ _ HR.out.ro⟩)
            have hlt' : r < [g0, g1, g2, g3, g4, g5, g6, g7].length := by simpa using hr8
            have c0 := hRg.2 r hlt'
            have hXn : [g0, g1, g2, g3, g4, g5, g6, g7][r] ≠ -1 := fun e => Hm1.out (e ▸ List.getElem_mem hlt')
            have hS2 := takeF_spill HF.out Hfree.out hlt' HRp.out.symm (base := base) (v := v)
            rw [← HS.out] at hS2
            have hls : LSl wr xs T := by
              obtain ⟨xs', cs', he, _, hl, _⟩ := own_LSl hRw.rt rfl
              injection he with he1 he2 he3
              rw [he1]; exact hl
            generalize hX : [g0, g1, g2, g3, g4, g5, g6, g7][r]'hlt' = X at c0 hXn
            rw [show (AS.G ⟨k, [g0, g1, g2, g3, g4, g5, g6, g7], T, O, m, er⟩)[r]'hlt' = X from hX] at hS2
            have HS2 := Lib.hid hS2
            have hwx := whereR_any xs T.length cs T X wr (RSl.of hls) rfl (by omega)
            have hwy := whereR_any xs T.length cs T (-1) wr (RSl.of hls) rfl (by omega)
            have hJb := idxV_bd T (-1) 0
            have hJ0m := idxV_mem T X 0
            obtain ⟨J0, hJ0⟩ : ∃ J0, J0 = idxV T X 0 := ⟨_, rfl⟩
            obtain ⟨J, hJ⟩ : ∃ J, J = idxV T (-1) 0 := ⟨_, rfl⟩
            rw [← hJ0] at hwx hJ0m
            rw [← hJ] at hwy hJb
            have HWX := Lib.hid hwx
            have HWY := Lib.hid hwy
            have HJ := Lib.hid hJ
            have hrI : (r : Int) < 8 := by omega
            have hrI0 : (0 : Int) ≤ r := by omega
            clear hX hwx hwy hJ hJ0 hS2 hls hown0 hgr hRw k6 hXn
            cases hcon : T.contains X
            · skip
              as_aux_lemma =>
                have hneg : J0 < 0 := by
                  have : X ∉ T := fun h => by rw [List.contains_iff_mem.2 h] at hcon; simp at hcon
                  rw [← hJ0m] at this; omega
                have HC := Lib.hid hcon
                clear hJ0m hcon hb0 hb1
                go_wp2_with fail
                refine HWX.out.mono ?_
                rintro e wy ⟨rfl, rfl⟩
                clear z0 z1 z2 z3 z4 z5 z6 z7 z8 z9 z10 z11 z12 z13 z14 c0 hRg
                obtain ⟨z0, z1, z2, z3, z4, z5, z6, z7, z8, z9, z10, z11, z12, z13, z14⟩ := blockA_cells HSp0.out.k5
                go_wp2_with fail
                refine HWY.out.mono ?_
                rintro e wq ⟨rfl, rfl⟩
                have hsz := lt_of_block HSp0.out.k6
                go_upto_if 89 with (at_builtin; refine wpList_append_rows _ rfl (.tmp 84) (.tmp 86) 41 rfl wq.heap.size B 3 i0 (.int .i64 0) 1 8 Tryd.underlying41 hi hz0 hz1 hz2 rfl (by decide) _ _ _ rfl (World.ownsRow_nil _ _ _ _) _ _ _ rfl HSp0.out.rows.rt (i_all T) (by unfold maxLen; omega) (by omega) (Nat.le_refl _) ?_; intro v8 w8 hown8 hgrow8)
                simp only [Nat.zero_add, List.nil_append] at hown8
                obtain ⟨xl, cl, rfl, hcl⟩ := own_slice hown8
                obtain ⟨Bz, hBz⟩ : ∃ Bz, Bz = wq.heap.size := ⟨_, rfl⟩
                rw [← hBz] at hown8 hsz
                have hz2' : w.heap.size + 2 ≤ Bz := by omega
                have hoz : ∀ j, (Value.slice xo O.length co).ownBlock = some j → j < Bz := fun j e => by have := (HSp0.out.rows.ro.lt j e).2; omega
                have hsz' : ∀ j, (Value.slice xs T.length cs).ownBlock = some j → j < Bz := fun j e => by have := (HSp0.out.rows.rt.lt j e).2; omega
                have hBB : B ≤ Bz := by omega
                have hgr8 : wq.grownBy w8 none := hgrow8
                have hsp8 := HSp0.out.grow hgr8 (by cases (Value.slice xs T.length cs).ownBlock <;> simp) (by cases (Value.slice xo O.length co).ownBlock <;> simp) (fun j e => by cases e)
                have hs8 := hgrow8.size
                have hBz8 : Bz ≤ w8.heap.size := by omega
                have HSp8 := Lib.hid hsp8
                have Hown8 := Lib.hid hown8
                have Hoz := Lib.hid hoz
                have Hsz := Lib.hid hsz'
                obtain ⟨T1, hT1⟩ : ∃ T1, T1 = (if J < 0 then T ++ [-1] else T) := ⟨_, rfl⟩
                have HT1 := Lib.hid hT1
                obtain ⟨K, hK⟩ : ∃ K : Nat, (K : Int) = (if J < 0 then (T.length : Int) else J) := by
                  split
                  · exact ⟨T.length, rfl⟩
                  · exact ⟨J.toNat, by omega⟩
                have HK := Lib.hid hK
                clear hK hT1 hBz hown8 hgrow8 hgr8 hsp8 hoz hsz' hsz hs8 HWX HWY z0 z1 z2 z3 z4 z5 z6 z7 z8 z9 z10 z11 z12 z13 z14
                go_cut [12, 13] (fun sv lv wx => ∃ xl cl, sv = .int .i64 K ∧ lv = .slice xl T1.length cl ∧ SpA w B N x n c base k g0 g1 g2 g3 g4 g5 g6 g7 m er (.slice xs T.length cs) (.slice xo O.length co) (.slice xs T.length cs) (.slice xo O.length co) T O wx ∧ wx.ownsRow Bz 3 1 (.slice xl T1.length cl) T1.length (iCells T1))
                case first =>
                  as_aux_lemma =>
                    by_cases hlt : J < 0
                    · have hk := HK.out
                      have ht := HT1.out
                      rw [if_pos hlt] at hk ht
                      have HK2 := Lib.hid hk
                      have HT2 := Lib.hid ht
                      clear hk ht
                      go_wp2_with (at_builtin; refine wpList_append_own_at _ rfl (.tmp 92) (.tmp 93) 41 rfl Bz 3 i0 (.int .i64 0) 1 8 Tryd.underlying41 hi hz0 hz1 hz2 rfl (by decide) _ _ _ rfl (Hown8.out.alloc _) ⟨w8.heap.size, 0, none⟩ 1 1 [.int .i64 (-1)] rfl rfl (i_new _ _ (-1) rfl) (i_one _) (by unfold maxLen; omega) (by omega) (by simp; omega) ?_)
                      all_goals first | (exfalso; omega) | skip
                      intro v' w9 hown9 hgrow9 _ hat9
                      obtain ⟨sx, sc, rfl, hsc⟩ := own_slice hown9
                      have gg : w8.grownBy w9 (Value.slice xl T.length cl).ownBlock := grown_trans (World.grownBy_alloc w8 _ _) hgrow9
                      have hfar : ∀ j, (Value.slice xl T.length cl).ownBlock = some j → Bz ≤ j := fun j e => (Hown8.out.lt j e).1
                      have hsp9 := HSp8.out.grow gg (by
                        cases h1 : (Value.slice xs T.length cs).ownBlock with
                        | none => exact .inl rfl
                        | some j => exact .inr (fun e => by have := hfar j e.symm; have := Hsz.out j h1; omega)) (by
                        cases h1 : (Value.slice xo O.length co).ownBlock with
                        | none => exact .inl rfl
                        | some j => exact .inr (fun e => by have := hfar j e.symm; have := Hoz.out j h1; omega)) (fun j e => by have := hfar j e; omega)
                      have HSp9 := Lib.hid hsp9
                      have Hown9 := Lib.hid hown9
                      clear hsp9 hown9 hgrow9 hat9 gg hfar
                      go_wp2_with fail
                      go_meet
                      refine ⟨sx, sc, by rw [HK2.out], by rw [HT2.out]; simp, HSp9.out, ?_⟩
                      rw [HT2.out, List.length_append, iCells, List.map_append]
                      exact Hown9.out
                    · have hk := HK.out
                      have ht := HT1.out
                      rw [if_neg hlt] at hk ht
                      have HK2 := Lib.hid hk
                      have HT2 := Lib.hid ht
                      clear hk ht
                      go_wp2_with fail
                      all_goals first | (exfalso; omega) | skip
                      go_meet
                      exact ⟨xl, cl, by rw [HK2.out], by rw [HT2.out], HSp8.out, by rw [HT2.out]; exact Hown8.out⟩
                case rest =>
                  as_aux_lemma =>
                    obtain ⟨xl, cl, rfl, rfl, hspc, hownc⟩ := hcut
                    have hKl : K < T1.length := by
                      rw [HT1.out]
                      have h1 := HK.out
                      split at h1 <;> rename_i hc
                      · rw [if_pos hc]; simp; omega
                      · rw [if_neg hc]; omega
                    have hT1n : T1.length ≤ N + 1 := by
                      rw [HT1.out]; split
                      · simp; omega
                      · omega
                    have hKT : K ≤ T.length := by
                      have h1 := HK.out
                      split at h1 <;> omega
                    obtain ⟨xl', cl', he, hcl1, hL1, hg1⟩ := own_LSl hownc rfl
                    injection he with he1 he2 he3
                    subst he1
                    subst he3
                    rcases hL1 with h0 | ⟨g, rfl, hI⟩
                    · rw [h0] at hKl; simp at hKl
                    have hgl := hI.1
                    have e0 := hI.2 K hKl
                    rw [Nat.zero_add] at e0
                    have gf : wc.frozen? ⟨g, K, none⟩ = false := by
                      obtain ⟨g', cap, cur, hv, _, hh, _⟩ := hownc.2.resolve_left (fun h => by have := h.1; simp at this)
                      injection hv with hv _ _
                      injection hv with hv
                      injection hv with hv _ _
                      subst hv
                      simp [World.frozen?, hh]
                    have hgB := (hownc.lt g rfl).1
                    have hga : w.heap.size ≠ g := by omega
                    have f11 := frozen_box hspc.k5 11
                    have hsp2 := hspc.slots hz2' hBB hownc Hoz.out Hsz.out K X hT1n
                    obtain ⟨z0, z1, z2, z3, z4, z5, z6, z7, z8, z9, z10, z11, z12, z13, z14⟩ := blockA_cells hspc.k5
                    have hlb := lt_of_block hspc.k5
                    have hKn : (K : Int) < (T1.length : Int) := by omega
                    obtain ⟨T2, hT2⟩ : ∃ T2, T2 = T1.set K X := ⟨_, rfl⟩
                    obtain ⟨m2, hm2⟩ : ∃ m2, m2 = max m ((K : Int) + 1) := ⟨_, rfl⟩
                    obtain ⟨er2, her2⟩ : ∃ er2, er2 = (if base + 4 * (K : Int) > 1020 then (160 : Int) else er) := ⟨_, rfl⟩
                    obtain ⟨O2, hO2⟩ : ∃ O2, O2 = O ++ [(⟨3, -1, -1, r, -1, -1, -1, base + 4 * (K : Int)⟩ : Op8)] := ⟨_, rfl⟩
                    have hSv : S = ⟨k, [g0, g1, g2, g3, g4, g5, g6, g7].set r v, T2, O2, m2, er2⟩ := by
                      have h := HS2.out
                      rw [HC.out, if_neg (by simp)] at h
                      have hsl : slotOf ⟨k, [g0, g1, g2, g3, g4, g5, g6, g7], T, O, m, er⟩ = K := by
                        have h1 := HK.out
                        unfold slotOf
                        rw [show idxV (AS.T ⟨k, [g0, g1, g2, g3, g4, g5, g6, g7], T, O, m, er⟩) (-1) 0 = J from HJ.out.symm]
                        exact h1.symm
                      rw [hsl] at h
                      rw [h, hT2, hm2, her2, hO2, HT1.out, HJ.out, Int.toNat_natCast]
                    have HSv := Lib.hid hSv
                    have hT2n : T2.length = T1.length := by rw [hT2, List.length_set]
                    have hO2n : O2.length ≤ O.length + 1 := by rw [hO2]; simp
                    rw [← hT2] at hsp2
                    have HSp2 := Lib.hid hsp2
                    have Hm2 := Lib.hid hm2
                    have Her2 := Lib.hid her2
                    have HO2 := Lib.hid hO2
                    have hm2b : 0 ≤ m2 ∧ m2 ≤ (N : Int) + 1 := by omega
                    have w1 : IntKind.i64.wrap ((K : Int) + 1) = (K : Int) + 1 := IntWalk.i64_in _ (by omega)
                    have w2' : IntKind.i64.wrap (4 * (K : Int)) = 4 * (K : Int) := IntWalk.i64_in _ (by omega)
                    have w3 : IntKind.i64.wrap (base + 4 * (K : Int)) = base + 4 * (K : Int) := IntWalk.i64_in _ (by omega)
                    clear hT2 hm2 her2 hO2 hSv hsp2 hspc hI hg1 HSp8 Hown8 HSp0 hT2n hownc
                    go_upto_region 25 with fail
                    generalize World.setCell (World.setCell wc _ _) _ _ = w9 at HSp2 ⊢
                    generalize Value.slice (some ⟨g, 0, none⟩) T1.length cl = vs2 at HSp2 ⊢
                    obtain ⟨xs2, cs2, rfl, hcs2⟩ := own_slice HSp2.out.rows.rt
                    clear z0 z1 z2 z3 z4 z5 z6 z7 z8 z9 z10 z11 z12 z13 z14 e0 gf f11 hlb hgl hga hgB
                    obtain ⟨z0, z1, z2, z3, z4, z5, z6, z7, z8, z9, z10, z11, z12, z13, z14⟩ := blockA_cells HSp2.out.k5
                    have f13 := frozen_box HSp2.out.k5 13
                    have hlb := lt_of_block HSp2.out.k5
                    go_upto_if 104 with fail
                    go_cut [8] (fun bv wx => bv = .int .i64 r ∧ SpA w B (N + 1) x n c base k g0 g1 g2 g3 g4 g5 g6 g7 m2 er (.slice xs2 T2.length cs2) (.slice xo O.length co) (.slice xs T.length cs) (.slice xo O.length co) T2 O wx)
                    case first =>
                      as_aux_lemma =>
                        have HSpM := Lib.hid (HSp2.out.setM ((K : Int) + 1))
                        by_cases hge : (K : Int) ≥ m
                        · have hmm : m2 = (K : Int) + 1 := by rw [Hm2.out]; omega
                          have Hmm := Lib.hid hmm
                          clear hmm
                          go_wp2_with fail
                          all_goals first | (exfalso; omega) | skip
                          go_meet
                          exact ⟨rfl, by rw [Hmm.out]; exact HSpM.out⟩
                        · have hmm : m2 = m := by rw [Hm2.out]; omega
                          have Hmm := Lib.hid hmm
                          clear hmm
                          go_wp2_with fail
                          all_goals first | (exfalso; omega) | skip
                          go_meet
                          exact ⟨rfl, by rw [Hmm.out]; exact HSp2.out⟩
                    case rest =>
                      as_aux_lemma =>
                        obtain ⟨rfl, hsp3⟩ := hcut
                        have HSp3 := Lib.hid hsp3
                        clear hsp3 z0 z1 z2 z3 z4 z5 z6 z7 z8 z9 z10 z11 z12 z13 z14 f13 hlb HSp2
                        obtain ⟨z0, z1, z2, z3, z4, z5, z6, z7, z8, z9, z10, z11, z12, z13, z14⟩ := blockA_cells HSp3.out.k5
                        have f14 := frozen_box HSp3.out.k5 14
                        have hlb := lt_of_block HSp3.out.k5
                        go_upto_if 113 with fail
                        go_cut [8] (fun bv wx => bv = .int .i64 r ∧ SpA w B (N + 1) x n c base k g0 g1 g2 g3 g4 g5 g6 g7 m2 er2 (.slice xs2 T2.length cs2) (.slice xo O.length co) (.slice xs T.length cs) (.slice xo O.length co) T2 O wx)
                        case first =>
                          as_aux_lemma =>
                            have HSpM := Lib.hid (HSp3.out.setE 160)
                            by_cases hge : base + 4 * (K : Int) > 1020
                            · have hmm : er2 = 160 := by rw [Her2.out, if_pos hge]
                              have Hmm := Lib.hid hmm
                              clear hmm
                              go_wp2_with fail
                              all_goals first | (exfalso; omega) | skip
                              go_meet
                              exact ⟨rfl, by rw [Hmm.out]; exact HSpM.out⟩
                            · have hmm : er2 = er := by rw [Her2.out, if_neg hge]
                              have Hmm := Lib.hid hmm
                              clear hmm
                              go_wp2_with fail
                              all_goals first | (exfalso; omega) | skip
                              go_meet
                              exact ⟨rfl, by rw [Hmm.out]; exact HSp3.out⟩
                        case rest =>
                          as_aux_lemma =>
                            obtain ⟨rfl, hsp4⟩ := hcut
                            have HSp4 := Lib.hid hsp4
                            clear hsp4 z0 z1 z2 z3 z4 z5 z6 z7 z8 z9 z10 z11 z12 z13 z14 f14 hlb HSp3
                            obtain ⟨z0, z1, z2, z3, z4, z5, z6, z7, z8, z9, z10, z11, z12, z13, z14⟩ := blockA_cells HSp4.out.k5
                            have hlb := lt_of_block HSp4.out.k5
                            go_wp2_with fail
                            refine (putR_any x n c base k g0 g1 g2 g3 g4 g5 g6 g7 m2 er2 (.slice xs2 T2.length cs2) (.slice xo O.length co) 3 (base + 4 * (K : Int)) (-1) r O B _ HSp4.out.rows.ro (by have := HSp4.out.gr.size; omega) (by omega) (by omega) ⟨_, _, _, rfl⟩).mono ?_
                            rintro e w5 ⟨vo2, rfl, hro5, hg5, hat5⟩
                            rw [← HO2.out] at hro5
                            obtain ⟨xo2, co2, rfl, hco2⟩ := own_slice hro5
                            obtain ⟨k5, hsp5⟩ := HSp4.out.put hro5 hg5 hat5 (by omega)
                            have HSp5 := Lib.hid hsp5
                            have hl5 := lt_of_block k5
                            clear hro5 hg5 hat5 hsp5 z0 z1 z2 z3 z4 z5 z6 z7 z8 z9 z10 z11 z12 z13 z14 hlb
                            go_upto_region 30 with (refine wpList_store_row rfl 86 (.tmp 3) (.tmp 122) (by rfl) w.heap.size #[.slice x n c, .int .i64 base, .int .i64 (k : Int), .int .i64 g0, .int .i64 g1, .int .i64 g2, .int .i64 g3, .int .i64 g4, .int .i64 g5, .int .i64 g6, .int .i64 g7, .slice xs2 T2.length cs2, .slice xo2 O2.length co2, .int .i64 m2, .int .i64 er2] (by rfl) (by rfl) 86 _ k5 sizeA rfl (by simp [Value.oneCell']) ?_)
                            generalize World.setRow w5 _ _ = wz at HSp5 ⊢
                            have HSp := Lib.hid HSp5.out
                            clear HSp5 HSp4 k5 hl5
                            as_aux_lemma =>
                              have cr := (boxA_regs HSp.out.k5).2 r (by simpa using hr8)
                              have fr := frozen_box HSp.out.k5 (3 + r)
                              have hl9 := lt_of_block HSp.out.k5
                              obtain ⟨h0, h1, h2, h3, h4, h5, h6, h7, hset, hsp7⟩ := HSp.out.setG r hr8 v
                              have HSp7 := Lib.hid hsp7
                              have Hset := Lib.hid hset
                              clear hset hsp7 HSp
                              go_upto_region 31 with fail
                              generalize World.setCell wz _ _ = w3 at HSp7 ⊢
                              obtain ⟨z0, z1, z2, z3, z4, z5, z6, z7, z8, z9, z10, z11, z12, z13, z14⟩ := blockA_cells HSp7.out.k5
                              have hl7 := lt_of_block HSp7.out.k5
                              have hl8 := lt_of_block HSp7.out.k6
                              clear cr fr hl9
                              go_wp2_with (refine wpList_store_row rfl 86 (.tmp 6) (.tmp 127) (by rfl) (w.heap.size + 1) #[.slice x n c, .int .i64 base, .int .i64 (k : Int), .int .i64 h0, .int .i64 h1, .int .i64 h2, .int .i64 h3, .int .i64 h4, .int .i64 h5, .int .i64 h6, .int .i64 h7, .slice xs2 T2.length cs2, .slice xo2 O2.length co2, .int .i64 m2, .int .i64 er2] (by rfl) (by rfl) 86 _ HSp7.out.k6 sizeA rfl (by simp [Value.oneCell']) ?_)
                              have k20 := setRow_heap w3 (w.heap.size + 1) _ #[.slice x n c, .int .i64 base, .int .i64 (k : Int), .int .i64 h0, .int .i64 h1, .int .i64 h2, .int .i64 h3, .int .i64 h4, .int .i64 h5, .int .i64 h6, .int .i64 h7, .slice xs2 T2.length cs2, .slice xo2 O2.length co2, .int .i64 m2, .int .i64 er2] _ _ HSp7.out.k6
                              have g20 := setRow_grown w3 (w.heap.size + 1) #[.slice x n c, .int .i64 base, .int .i64 (k : Int), .int .i64 h0, .int .i64 h1, .int .i64 h2, .int .i64 h3, .int .i64 h4, .int .i64 h5, .int .i64 h6, .int .i64 h7, .slice xs2 T2.length cs2, .slice xo2 O2.length co2, .int .i64 m2, .int .i64 er2]
                              generalize World.setRow w3 _ _ = w4 at k20 g20 ⊢
                              obtain ⟨y0, y1, y2, y3, y4, y5, y6, y7, y8, y9, y10, y11, y12, y13, y14⟩ := blockA_cells k20
                              refine ⟨rfl, .tuple #[.agg #[.slice x n c, .int .i64 base, .int .i64 (k : Int), .int .i64 h0, .int .i64 h1, .int .i64 h2, .int .i64 h3, .int .i64 h4, .int .i64 h5, .int .i64 h6, .int .i64 h7, .slice xs2 T2.length cs2, .slice xo2 O2.length co2, .int .i64 m2, .int .i64 er2], .int .i64 r], ?_, h0, h1, h2, h3, h4, h5, h6, h7, .slice xs2 T2.length cs2, .slice xo2 O2.length co2, ?_⟩
                              · simp [results, Tryd.f63, go_sem, y0, y1, y2, y3, y4, y5, y6, y7, y8, y9, y10, y11, y12, y13, y14]
                              have hSv := HSv.out
                              refine ⟨by rw [hSv], by rw [hSv]; exact Hset.out, ?_, ?_, HSp7.out.a1, HSp7.out.a2⟩
                              · rw [hSv]
                                exact HSp7.out.rows.off g20 (off_of fun j e => (HSp7.out.o1 j e).2) (off_of fun j e => (HSp7.out.o2 j e).2)
                              · exact grown_row HSp7.out.gr g20 (fun j e => .inr (by injection e with e; omega))
            · have hcon' : ¬ J0 < 0 := by
                have : X ∈ T := List.contains_iff_mem.1 hcon
                rw [← hJ0m] at this; omega
              have hSv : S = ⟨k, [g0, g1, g2, g3, g4, g5, g6, g7].set r v, T, O, m, er⟩ := by
                have h := HS2.out
                rw [hcon, if_pos rfl] at h
                exact h
              have HSv := Lib.hid hSv
              have HSp := Lib.hid (HSp0.out.mono (Nat.le_succ N))
              clear hJ0m hcon hb0 hb1 hSv HSp0
              go_wp2_with fail
              refine HWX.out.mono ?_
              rintro e wz ⟨rfl, rfl⟩
              clear z0 z1 z2 z3 z4 z5 z6 z7 z8 z9 z10 z11 z12 z13 z14 c0 hRg
              as_aux_lemma =>
                have cr := (boxA_regs HSp.out.k5).2 r (by simpa using hr8)
                have fr := frozen_box HSp.out.k5 (3 + r)
                have hl9 := lt_of_block HSp.out.k5
                obtain ⟨h0, h1, h2, h3, h4, h5, h6, h7, hset, hsp7⟩ := HSp.out.setG r hr8 v
                have HSp7 := Lib.hid hsp7
                have Hset := Lib.hid hset
                clear hset hsp7 HSp
                go_upto_region 31 with fail
                generalize World.setCell wz _ _ = w3 at HSp7 ⊢
                obtain ⟨z0, z1, z2, z3, z4, z5, z6, z7, z8, z9, z10, z11, z12, z13, z14⟩ := blockA_cells HSp7.out.k5
                have hl7 := lt_of_block HSp7.out.k5
                have hl8 := lt_of_block HSp7.out.k6
                clear cr fr hl9
                go_wp2_with (refine wpList_store_row rfl 86 (.tmp 6) (.tmp 127) (by rfl) (w.heap.size + 1) #[.slice x n c, .int .i64 base, .int .i64 (k : Int), .int .i64 h0, .int .i64 h1, .int .i64 h2, .int .i64 h3, .int .i64 h4, .int .i64 h5, .int .i64 h6, .int .i64 h7, .slice xs T.length cs, .slice xo O.length co, .int .i64 m, .int .i64 er] (by rfl) (by rfl) 86 _ HSp7.out.k6 sizeA rfl (by simp [Value.oneCell']) ?_)
                have k20 := setRow_heap w3 (w.heap.size + 1) _ #[.slice x n c, .int .i64 base, .int .i64 (k : Int), .int .i64 h0, .int .i64 h1, .int .i64 h2, .int .i64 h3, .int .i64 h4, .int .i64 h5, .int .i64 h6, .int .i64 h7, .slice xs T.length cs, .slice xo O.length co, .int .i64 m, .int .i64 er] _ _ HSp7.out.k6
                have g20 := setRow_grown w3 (w.heap.size + 1) #[.slice x n c, .int .i64 base, .int .i64 (k : Int), .int .i64 h0, .int .i64 h1, .int .i64 h2, .int .i64 h3, .int .i64 h4, .int .i64 h5, .int .i64 h6, .int .i64 h7, .slice xs T.length cs, .slice xo O.length co, .int .i64 m, .int .i64 er]
                generalize World.setRow w3 _ _ = w4 at k20 g20 ⊢
                obtain ⟨y0, y1, y2, y3, y4, y5, y6, y7, y8, y9, y10, y11, y12, y13, y14⟩ := blockA_cells k20
                refine ⟨rfl, .tuple #[.agg #[.slice x n c, .int .i64 base, .int .i64 (k : Int), .int .i64 h0, .int .i64 h1, .int .i64 h2, .int .i64 h3, .int .i64 h4, .int .i64 h5, .int .i64 h6, .int .i64 h7, .slice xs T.length cs, .slice xo O.length co, .int .i64 m, .int .i64 er], .int .i64 r], ?_, h0, h1, h2, h3, h4, h5, h6, h7, .slice xs T.length cs, .slice xo O.length co, ?_⟩
                · simp [results, Tryd.f63, go_sem, y0, y1, y2, y3, y4, y5, y6, y7, y8, y9, y10, y11, y12, y13, y14]
                have hSv := HSv.out
                refine ⟨by rw [hSv], by rw [hSv]; exact Hset.out, ?_, ?_, HSp7.out.a1, HSp7.out.a2⟩
                · rw [hSv]
                  exact HSp7.out.rows.off g20 (off_of fun j e => (HSp7.out.o1 j e).2) (off_of fun j e => (HSp7.out.o2 j e).2)
                · exact grown_row HSp7.out.gr g20 (fun j e => .inr (by injection e with e; omega))
      · skip
        as_aux_lemma =>
          have hR2 := HRp.out
          rw [pickF, if_neg (by show ¬ idxV [g0, g1, g2, g3, g4, g5, g6, g7] (-1) 0 < 0; rw [← hbs2]; exact hb0)] at hR2
          have hR3 : (r : Int) = idxV [g0, g1, g2, g3, g4, g5, g6, g7] (-1) 0 := hR2
          obtain rfl : bs = r := hbs2.trans hR3.symm
          have hSv : S = ⟨k, [g0, g1, g2, g3, g4, g5, g6, g7].set r v, T, O, m, er⟩ := by
            have hp : pickF nx PN ⟨k, [g0, g1, g2, g3, g4, g5, g6, g7], T, O, m, er⟩ = r := HRp.out.symm
            have h := HS.out
            unfold takeF at h
            rw [hp, if_neg (by show ¬ idxV [g0, g1, g2, g3, g4, g5, g6, g7] (-1) 0 < 0; rw [← hR3]; omega)] at h
            exact h
          have HSv := Lib.hid hSv
          have cr := HRg.out.2 r (by simpa using hr8)
          have fr := frozen_box K5.out (3 + r)
          obtain ⟨h0, h1, h2, h3, h4, h5, h6, h7, hset, k7⟩ := boxA_setG K5.out r hr8 v
          have k8 := ((setCell_grown w2 w.heap.size (3 + r) (.int .i64 v)).block (w.heap.size + 1) (lt_of_block K6.out) (by simp)).trans K6.out
          have G7 := Lib.hid (grown_row (r := (Value.slice xo O.length co).ownBlock) (below_grown HB2.out) (setCell_grown w2 w.heap.size (3 + r) (.int .i64 v)) (fun j e => .inr (by injection e with e; omega)))
          have R7 := Lib.hid ((HR.out.below HB2.out).off (setCell_grown w2 w.heap.size (3 + r) (.int .i64 v)) (own_new HR.out.rt (Nat.le_refl _)) (own_new HR.out.ro (Nat.le_refl _)))
          have Hset := Lib.hid hset
          clear hR2 hR3 hbs2 hSv hset
          go_upto_region 9 with fail
          generalize World.setCell w2 _ _ = w3 at k7 k8 G7 R7 ⊢
          obtain ⟨z0, z1, z2, z3, z4, z5, z6, z7, z8, z9, z10, z11, z12, z13, z14⟩ := blockA_cells k7
          have hl7 := lt_of_block k7
          have hl8 := lt_of_block k8
          clear cr fr
          iterate 7 go_step
          refine wpList_store_row rfl 86 (.tmp 6) (.tmp 34) (by rfl) (w.heap.size + 1) #[.slice x n c, .int .i64 base, .int .i64 (k : Int), .int .i64 h0, .int .i64 h1, .int .i64 h2, .int .i64 h3, .int .i64 h4, .int .i64 h5, .int .i64 h6, .int .i64 h7, .slice xs T.length cs, .slice xo O.length co, .int .i64 m, .int .i64 er] (by rfl) (by rfl) 86 _ k8 sizeA rfl (by simp [Value.oneCell']) ?_
          have k20 := setRow_heap w3 (w.heap.size + 1) _ #[.slice x n c, .int .i64 base, .int .i64 (k : Int), .int .i64 h0, .int .i64 h1, .int .i64 h2, .int .i64 h3, .int .i64 h4, .int .i64 h5, .int .i64 h6, .int .i64 h7, .slice xs T.length cs, .slice xo O.length co, .int .i64 m, .int .i64 er] _ _ k8
          have g20 := setRow_grown w3 (w.heap.size + 1) #[.slice x n c, .int .i64 base, .int .i64 (k : Int), .int .i64 h0, .int .i64 h1, .int .i64 h2, .int .i64 h3, .int .i64 h4, .int .i64 h5, .int .i64 h6, .int .i64 h7, .slice xs T.length cs, .slice xo O.length co, .int .i64 m, .int .i64 er]
          generalize World.setRow w3 _ _ = w4 at k20 g20 ⊢
          obtain ⟨y0, y1, y2, y3, y4, y5, y6, y7, y8, y9, y10, y11, y12, y13, y14⟩ := blockA_cells k20
          go_wp2_with fail
          refine ⟨rfl, .tuple #[.agg #[.slice x n c, .int .i64 base, .int .i64 (k : Int), .int .i64 h0, .int .i64 h1, .int .i64 h2, .int .i64 h3, .int .i64 h4, .int .i64 h5, .int .i64 h6, .int .i64 h7, .slice xs T.length cs, .slice xo O.length co, .int .i64 m, .int .i64 er], .int .i64 r], ?_, h0, h1, h2, h3, h4, h5, h6, h7, .slice xs T.length cs, .slice xo O.length co, ?_⟩
          · simp [results, Tryd.f63, go_sem, y0, y1, y2, y3, y4, y5, y6, y7, y8, y9, y10, y11, y12, y13, y14]
          have hSv := HSv.out
          refine ⟨by rw [hSv], by rw [hSv]; exact Hset.out, ?_, ?_, .inl rfl, .inl rfl⟩
          · rw [hSv]
            exact (R7.out.off g20 (own_new HR.out.rt (by omega)) (own_new HR.out.ro (by omega))).mono (Nat.le_succ N)
          · exact grown_row G7.out g20 (fun j e => .inr (by injection e with e; omega))
end Go.Proofs.YtmkencdkglbpbaaDoor
