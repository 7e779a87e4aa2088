/- The document's Do: kinds that store. -/
import Derived.Test.YtmkencdkglbpbaaRefDoB
set_option maxRecDepth 100000
set_option linter.unusedVariables false
namespace Go.Proofs.Ytmkencdkglbpbaa
open Go.RowKit

theorem refL_len1 (L : List (Int × Int)) (ad x : Int) : (refL L ad x).length ≤ L.length + 1 := by
  unfold refL
  split
  · have := List.length_filter_le (fun p : Int × Int => p.1 != ad) L
    simp; omega
  · omega
theorem putM {w : World} {b : Nat} {o0 o1 o2 o3 : Value} {t : TypeId} (kh : w.heap[b]? = some (.cells #[o0, o1, o2, o3] t (0, 0))) (a2 a3 : Value) :
    ((w.setCell ⟨b, 2, none⟩ a2).setCell ⟨b, 3, none⟩ a3).heap[b]? = some (.cells #[o0, o1, a2, a3] t (0, 0)) ∧ w.grownBy ((w.setCell ⟨b, 2, none⟩ a2).setCell ⟨b, 3, none⟩ a3) (some b) := by
  refine ⟨?_, ?_⟩
  · have h := setCell_heap (setCell_heap kh 2 a2) 3 a3
    simp only [List.setIfInBounds_toArray, List.set_cons_succ, List.set_cons_zero] at h
    exact h
  · iterate 2 refine grown_trans ?_ (setCell_grown _ _ _ _)
    exact ⟨rfl, rfl, rfl, Nat.le_refl _, fun _ _ _ => rfl⟩
theorem lrow_past {w w1 w2 : World} {lx : Option Addr} {q : Nat} {L : List (Int × Int)} {a b : Nat} (h : LRow w lx q L) (ha : ∀ x, w.cell? ⟨a, 0, none⟩ ≠ some (.int .u32 x)) (hb : ∀ x, w.cell? ⟨b, 0, none⟩ ≠ some (.int .u32 x)) (g1 : w.grownBy w1 (some a)) (g2 : w1.grownBy w2 (some b)) : LRow w2 lx q L := by
  obtain ⟨h1, h2⟩ := h
  refine ⟨h1, h2.imp id fun ⟨g, e, hg, hc⟩ => ⟨g, e, Nat.lt_of_lt_of_le hg (Nat.le_trans g1.size g2.size), fun i hi => ?_⟩⟩
  obtain ⟨c0, c1⟩ := hc i hi
  have hz := (hc 0 (by omega)).1
  rw [Nat.zero_mul] at hz
  have n1 : g ≠ a := fun e => ha _ (e ▸ hz)
  have n2 : g ≠ b := fun e => hb _ (e ▸ hz)
  have hb : w2.heap[g]? = w.heap[g]? := (g2.block g (Nat.lt_of_lt_of_le hg g1.size) (by intro e; injection e with e; exact n2 e)).trans (g1.block g hg (by intro e; injection e with e; exact n1 e))
  exact ⟨(World.cell?_of_block (w := w) (a := ⟨g, i * 2, none⟩) hb).trans c0, (World.cell?_of_block (w := w) (a := ⟨g, i * 2 + 1, none⟩) hb).trans c1⟩

set_option maxHeartbeats 4000000 in
theorem refDo_3 (rx : Option Addr) (n c : Nat) (R : List Int) (S : Int) (lx : Option Addr) (q lc : Nat) (L : List (Int × Int)) (m : Nat → Int) (K t0 t1 f0 f1 f2 f3 N : Int) (w : World) (hA : RefAt w rx n c R lx q lc L m) (hS : 0 ≤ S ∧ S < 4294967296) (hN : 0 ≤ N ∧ N < 4294967296) (hq : q ≤ 10000) (hf : ∀ j (hj : j < [f0, f1, f2, f3].length), -1 ≤ [f0, f1, f2, f3][j] ∧ [f0, f1, f2, f3][j] < n) (ht : ∀ j (hj : j < [t0, t1].length), -1 ≤ [t0, t1][j] ∧ [t0, t1][j] < n) (hK : K = 3) :
    Calls Try.prog 11 #[.agg #[.slice rx n c, .int .u32 S, .slice none 0 0, .slice lx q lc], .agg #[.int .i64 K, .int .i64 t0, .int .i64 t1, .int .i64 f0, .int .i64 f1, .int .i64 f2, .int .i64 f3, .int .u32 N]] w (RefPost w rx lx S q 0 (storeE (atV 3 S N (vvR R f0) (vvR R f1))) R (storeM m (atV 3 S N (vvR R f0) (vvR R f1)) (vvR R f0))) := by
  have k3 : (K == 3) = true := by simpa using hK
  have k30 : (K == 30) = false := by simp; omega
  have k31 : (K == 31) = false := by simp; omega
  have k5 : (K == 5) = false := by simp; omega
  have k6 : (K == 6) = false := by simp; omega
  have k2 : (K == 2) = false := by simp; omega
  clear hK
  have HA := Lib.hid hA
  have Hfrom := Lib.hid hf
  have Hto := Lib.hid ht
  clear hA hf ht
  go_enter Try.func11, Try.ntmps11
  go_upto_region 2 with fail
  obtain ⟨hB4, kS, kO, kR, kV⟩ := alloc_four w (.cells #[.slice rx n c, .int .u32 S, .slice none 0 0, .slice lx q lc] 31) (.cells #[.int .i64 K, .int .i64 t0, .int .i64 t1, .int .i64 f0, .int .i64 f1, .int .i64 f2, .int .i64 f3, .int .u32 N] 50) (.cells #[.slice none 0 0, .int .u32 0, .slice none 0 0, .slice none 0 0] 31) (.cells #[.int .u32 0, .int .u32 0, .int .u32 0, .int .u32 0] 69)
  generalize (((w.alloc _).alloc _).alloc _).alloc _ = w4 at hB4 kS kO kR kV ⊢
  have HD4 : Hid (DoSt w rx n c S lx q lc K t0 t1 f0 f1 f2 f3 N 0 0 0 0 w4) := ⟨kS, kO, kR, kV, hB4⟩
  clear hB4 kS kO kR kV
  go_wp2_with fail
  go_loopw [8] (fun iv wr => ∃ j : Nat, j ≤ 4 ∧ iv = .int .i64 j ∧ DoSt w rx n c S lx q lc K t0 t1 f0 f1 f2 f3 N 0 0 0 0 wr) (fun iv _ => 4 - (intOf iv).toNat)
  case atStart => exact ⟨0, by omega, rfl, HD4.out⟩
  case round =>
  obtain ⟨j, hj, rfl, hD⟩ := hrel
  by_cases hlt : j < 4
  · have hlt' : j < [f0, f1, f2, f3].length := hlt
    have hc := hD.from j hlt'
    have hX := Hfrom.out j hlt'
    obtain ⟨X, hXe⟩ : ∃ X, [f0, f1, f2, f3][j]'hlt' = X := ⟨_, rfl⟩
    rw [hXe] at hc hX
    have HXe := Lib.hid hXe
    have c0 := hD.sc.1
    have wj : IntKind.i64.wrap ((j : Int) + 1) = (j : Int) + 1 := IntWalk.i64_in _ (by omega)
    have hjI : (j : Int) < 4 := by omega
    have hl := hD.size
    have hl0 : w.heap.size < wr.heap.size := by omega
    have hl1 : w.heap.size + 1 < wr.heap.size := by omega
    clear hXe hl
    have e1 : decide ((n : Int) ≤ X) = false := by simp; omega
    have HD := Lib.hid hD
    clear hD hX
    go_wp2_with fail
    go_quiet (fail)
    go_wp2_with fail
    exact ⟨⟨j + 1, by omega, by simp, HD.out.below (below_drewN (Below.refl _ _) nq)⟩, by simp only [intOf]; omega⟩
  · have e4 : decide ((j : Int) < 4) = false := by simp; omega
    have HD4 := Lib.hid hD
    clear hD hj hlt
    go_wp2_with fail
    go_loopw [9] (fun iv wr => ∃ j : Nat, j ≤ 2 ∧ iv = .int .i64 j ∧ DoSt w rx n c S lx q lc K t0 t1 f0 f1 f2 f3 N 0 0 0 0 wr) (fun iv _ => 2 - (intOf iv).toNat)
    case atStart => exact ⟨0, by omega, rfl, HD4.out⟩
    case round =>
    obtain ⟨j, hj, rfl, hD⟩ := hrel
    by_cases hlt : j < 2
    · have hlt' : j < [t0, t1].length := hlt
      have hc := hD.to j hlt'
      have hX := Hto.out j hlt'
      obtain ⟨X, hXe⟩ : ∃ X, [t0, t1][j]'hlt' = X := ⟨_, rfl⟩
      rw [hXe] at hc hX
      have HXe := Lib.hid hXe
      have c0 := hD.sc.1
      have wj : IntKind.i64.wrap ((j : Int) + 1) = (j : Int) + 1 := IntWalk.i64_in _ (by omega)
      have hjI : (j : Int) < 2 := by omega
      have hl := hD.size
      have hl0 : w.heap.size < wr.heap.size := by omega
      have hl1 : w.heap.size + 1 < wr.heap.size := by omega
      clear hXe hl
      have e1 : decide ((n : Int) ≤ X) = false := by simp; omega
      have HD := Lib.hid hD
      clear hD hX
      go_wp2_with fail
      go_quiet (fail)
      go_wp2_with fail
      exact ⟨⟨j + 1, by omega, by simp, HD.out.below (below_drewN (Below.refl _ _) nq)⟩, by simp only [intOf]; omega⟩
    · have e2 : decide ((j : Int) < 2) = false := by simp; omega
      have HD4 := Lib.hid (show DoSt w rx n c S lx q lc K t0 t1 f0 f1 f2 f3 N (vAt R [f0, f1, f2, f3] 0 0) (vAt R [f0, f1, f2, f3] 0 1) (vAt R [f0, f1, f2, f3] 0 2) (vAt R [f0, f1, f2, f3] 0 3) wr from hD)
      clear hD hj hlt
      go_wp2_with fail
      go_loopw [10] (fun iv wr => ∃ j : Nat, j ≤ 4 ∧ iv = .int .i64 j ∧ DoSt w rx n c S lx q lc K t0 t1 f0 f1 f2 f3 N (vAt R [f0, f1, f2, f3] j 0) (vAt R [f0, f1, f2, f3] j 1) (vAt R [f0, f1, f2, f3] j 2) (vAt R [f0, f1, f2, f3] j 3) wr) (fun iv _ => 4 - (intOf iv).toNat)
      case atStart => exact ⟨0, by omega, rfl, HD4.out⟩
      case round =>
      obtain ⟨j, hj, rfl, hD⟩ := hrel
      by_cases hlt : j < 4
      · have hlt' : j < [f0, f1, f2, f3].length := hlt
        have hc := hD.from j hlt'
        have hX := Hfrom.out j hlt'
        have hsk := vAt_skip R [f0, f1, f2, f3] j hlt'
        have hst := hD.setV hlt
        obtain ⟨X, hXe⟩ : ∃ X, [f0, f1, f2, f3][j]'hlt' = X := ⟨_, rfl⟩
        rw [hXe] at hc hX hsk
        have HXe := Lib.hid hXe
        have wj : IntKind.i64.wrap ((j : Int) + 1) = (j : Int) + 1 := IntWalk.i64_in _ (by omega)
        have hjI : (j : Int) < 4 := by omega
        have hl := hD.size
        have hl1 : w.heap.size + 1 < wr.heap.size := by omega
        clear hXe hl hst
        by_cases hX0 : X < 0
        · have e1 : decide (0 ≤ X) = false := by simp; omega
          have Hsk := Lib.hid (hsk hX0)
          have HD := Lib.hid hD
          clear hD hX hX0 hsk
          go_wp2_with fail
          exact ⟨⟨j + 1, by omega, by simp, by rw [Hsk.out 0, Hsk.out 1, Hsk.out 2, Hsk.out 3]; exact HD.out⟩, by simp only [intOf]; omega⟩
        · have e1 : decide (0 ≤ X) = true := by simp; omega
          obtain ⟨x, rfl⟩ := Int.eq_ofNat_of_zero_le (show 0 ≤ X by omega)
          have hxn : x < n := by omega
          have hxl : x < R.length := by have := HA.out.len; omega
          obtain ⟨b, o, rfl, hbl, hcell⟩ := HA.out.row.resolve_left (by omega)
          have htd := hD.below ((Below.refl _ wr).drew)
          have hc2 := hcell x hxl
          obtain ⟨y, hy⟩ : ∃ y, R[x]'hxl = y := ⟨_, rfl⟩
          rw [hy] at hc2
          have hvx : vvR R ((x : Nat) : Int) = y := by
            unfold vvR
            rw [if_pos (by omega), Int.toNat_natCast, List.getD_eq_getElem?_getD, List.getElem?_eq_getElem hxl, hy]; rfl
          have hvx2 : vvR R ([f0, f1, f2, f3].getD j (-1)) = y := by
            rw [List.getD_eq_getElem?_getD, List.getElem?_eq_getElem hlt', HXe.out]; exact hvx
          have Hc2 := Lib.hid hc2
          have Hvx := Lib.hid hvx2
          have hbw : b < w.heap.size := hbl
          have hxI : (x : Int) < (n : Int) := by omega
          have hx0 : (0 : Int) ≤ (x : Int) := by omega
          have hnc := HA.out.cap
          clear hD hX hX0 hsk hcell hc2 hvx hvx2 hy hbl
          go_upto_region 16 with fail
          clear hc hl1
          refine wp_region_still_tail 10 (by kernel_rfl) (by kernel_rfl) ?_
          change wpStill _ _ (World.drew wr) (fun a' => wpList _ _ _ _ a' (World.drew wr)) _ _
          generalize World.drew wr = wd at htd ⊢
          simp only [List.take_succ_cons, List.take_zero, List.drop_succ_cons, List.drop_zero]
          have hc := htd.from j hlt'
          rw [HXe.out] at hc
          have c0 := htd.sc.1
          have hc2 := (htd.bel.cell (p := ⟨b, o + x, none⟩) hbw).trans Hc2.out
          have hl := htd.size
          have hl0 : w.heap.size < wd.heap.size := by omega
          have hl1 : w.heap.size + 1 < wd.heap.size := by omega
          have hl3 : w.heap.size + 3 < wd.heap.size := by omega
          have fV := (blk_cells htd.kV j).2
          have hvj : (wd.cell? ⟨w.heap.size + 3, j, none⟩).isSome = true := by
            obtain ⟨q0, q1, q2, q3⟩ := htd.vc
            match j, hlt with
            | 0, _ => rw [q0]; rfl
            | 1, _ => rw [q1]; rfl
            | 2, _ => rw [q2]; rfl
            | 3, _ => rw [q3]; rfl
          obtain ⟨uo, huo⟩ := Option.isSome_iff_exists.1 hvj
          have hfin := htd.setV hlt y Hvx.out
          have Hfin := Lib.hid hfin
          clear hl hfin htd hvj
          repeat still_step
          refine wpStill_nil ?_
          go_wp2_with fail
          exact ⟨⟨j + 1, by omega, by simp, Hfin.out⟩, by simp only [intOf]; omega⟩
      · have e10 : decide ((j : Int) < 4) = false := by simp; omega
        have hj4 : j = 4 := by omega
        rw [hj4] at hD
        have hD : DoSt w rx n c S lx q lc K t0 t1 f0 f1 f2 f3 N (vvR R f0) (vvR R f1) (vvR R f2) (vvR R f3) wr := hD
        have hb0 := vvR_bd HA.out.bytes f0
        have hb1 := vvR_bd HA.out.bytes f1
        have hb2 := vvR_bd HA.out.bytes f2
        have hb3 := vvR_bd HA.out.bytes f3
        obtain ⟨v0, hv0⟩ : ∃ v, vvR R f0 = v := ⟨_, rfl⟩
        rw [hv0] at hD hb0
        have Hv0 := Lib.hid hv0
        clear hv0
        obtain ⟨v1, hv1⟩ : ∃ v, vvR R f1 = v := ⟨_, rfl⟩
        rw [hv1] at hD hb1
        have Hv1 := Lib.hid hv1
        clear hv1
        obtain ⟨v2, hv2⟩ : ∃ v, vvR R f2 = v := ⟨_, rfl⟩
        rw [hv2] at hD hb2
        have Hv2 := Lib.hid hv2
        clear hv2
        obtain ⟨v3, hv3⟩ : ∃ v, vvR R f3 = v := ⟨_, rfl⟩
        rw [hv3] at hD hb3
        have Hv3 := Lib.hid hv3
        clear hv3
        obtain ⟨a0, a1⟩ := hb0
        obtain ⟨b0, b1⟩ := hb1
        obtain ⟨c0, c1⟩ := hb2
        obtain ⟨d0, d1⟩ := hb3
        obtain ⟨y0, y1, y2, y3⟩ := hD.sc
        obtain ⟨x0, x1, x2, x3, x4, x5, x6, x7⟩ := hD.oc
        obtain ⟨r0, r1, r2, r3⟩ := hD.rc
        obtain ⟨p0, p1, p2, p3⟩ := hD.rf
        obtain ⟨q0, q1, q2, q3⟩ := hD.vc
        have hl := hD.size
        have hl0 : w.heap.size < wr.heap.size := by omega
        have hl1 : w.heap.size + 1 < wr.heap.size := by omega
        have hl2 : w.heap.size + 2 < wr.heap.size := by omega
        have hl3 : w.heap.size + 3 < wr.heap.size := by omega
        have HD := Lib.hid hD
        clear hD hj hlt hj4 hl
        obtain ⟨A, hA2⟩ : ∃ A, (S + N) % 4294967296 = A := ⟨_, rfl⟩
        have hAb : 0 ≤ A ∧ A < 4294967296 := by omega
        have hAV : atV 3 S N v0 v1 = A := by rw [← hA2]; simp [atV]
        have HAV := Lib.hid hAV
        obtain ⟨hAb0, hAb1⟩ := hAb
        clear hAV
        go_wp2_with fail
        have hst := refStore_any none 0 0 lx q lc L A v0 wr (HA.out.lrow.below HD.out.bel) HA.out.lcap (by omega) hAb0 hAb1
        refine hst.mono ?_
        rintro e w5 ⟨lx', q', lc', rfl, hL', hq', hb5, hap⟩
        have HAP := Lib.hid (hap.imp id fun h g e => Nat.le_trans HD.out.bel.size (h g e))
        clear hap
        have HD5 := Lib.hid (HD.out.below hb5)
        have HL5 := Lib.hid hL'
        clear hst hb5 hL' y0 y1 y2 y3 x0 x1 x2 x3 x4 x5 x6 x7 r0 r1 r2 r3 p0 p1 p2 p3 q0 q1 q2 q3 hl0 hl1 hl2 hl3
        obtain ⟨y0, y1, y2, y3⟩ := HD5.out.sc
        obtain ⟨r0, r1, r2, r3⟩ := HD5.out.rc
        obtain ⟨p0, p1, p2, p3⟩ := HD5.out.rf
        have g2 := (blk_cells HD5.out.kS 2).2
        have g3 := (blk_cells HD5.out.kS 3).2
        have hl := HD5.out.size
        have hl0 : w.heap.size < w5.heap.size := by omega
        have hl2 : w.heap.size + 2 < w5.heap.size := by omega
        have hne : ¬ (w.heap.size + 1 + 1 = w.heap.size) := by omega
        clear hl
        have hq5 : q' ≤ q + 1 := by
          have h1 := HL5.out.1
          have h2 := HA.out.lrow.1
          have h3 := refL_len1 L A v0
          omega
        have hbV : 0 ≤ v0 ∧ v0 < 4294967296 := ⟨by omega, by omega⟩
        have hinv := inv_store HA.out.inv A v0 hbV.1 hbV.2
        have HI5 := Lib.hid hinv
        clear hinv hbV
        obtain ⟨E, hE⟩ : ∃ E, storeE A = E := ⟨_, rfl⟩
        rw [hE]
        have HE := Lib.hid hE
        clear hE
        go_wp2_with fail
        obtain ⟨kM, gM⟩ := putM HD5.out.kS (.slice none 0 0) (.slice lx' q' lc')
        obtain ⟨kz, gz⟩ := putS ((gM.block _ hl2 (by simp)).trans HD5.out.kR) (.slice rx n c) (.int .u32 S) (.slice none 0 0) (.slice lx' q' lc')
        have hb9 := below_grown_at (below_grown_at HD5.out.bel gM (Nat.le_refl _)) gz (by omega)
        have hL9 := lrow_past HL5.out (fun x => by rw [y0]; simp) (fun x => by rw [show w.heap.size + 2 = w.heap.size + 1 + 1 from rfl, r0]; simp) gM gz
        have hrow9 := HA.out.row.below hb9
        generalize World.setCell _ _ _ = wz at kz hb9 hL9 hrow9 ⊢
        have z0 := (blk_cells kz 0).1
        have z1 := (blk_cells kz 1).1
        have z2 := (blk_cells kz 2).1
        have z3 := (blk_cells kz 3).1
        refine ⟨rfl, .tuple #[refS rx n c S lx' q' lc', .int .i64 0, .int .i64 E], ?_, ?_⟩
        · simp [results, Try.f11, go_sem, z0, z1, z2, z3, refS]
        · rw [Hv0.out, Hv1.out, HAV.out]
          exact ⟨rx, n, c, lx', q', lc', refL L A v0, by rw [HE.out], ⟨hrow9, HA.out.len, HA.out.cap, HA.out.small, HA.out.bytes, hL9, hq', HI5.out⟩, hq5, hb9, .inl rfl, HAP.out⟩

set_option maxHeartbeats 4000000 in
theorem refDo_6 (rx : Option Addr) (n c : Nat) (R : List Int) (S : Int) (lx : Option Addr) (q lc : Nat) (L : List (Int × Int)) (m : Nat → Int) (K t0 t1 f0 f1 f2 f3 N : Int) (w : World) (hA : RefAt w rx n c R lx q lc L m) (hS : 0 ≤ S ∧ S < 4294967296) (hN : 0 ≤ N ∧ N < 4294967296) (hq : q ≤ 10000) (hf : ∀ j (hj : j < [f0, f1, f2, f3].length), -1 ≤ [f0, f1, f2, f3][j] ∧ [f0, f1, f2, f3][j] < n) (ht : ∀ j (hj : j < [t0, t1].length), -1 ≤ [t0, t1][j] ∧ [t0, t1][j] < n) (hK : K = 6) :
    Calls Try.prog 11 #[.agg #[.slice rx n c, .int .u32 S, .slice none 0 0, .slice lx q lc], .agg #[.int .i64 K, .int .i64 t0, .int .i64 t1, .int .i64 f0, .int .i64 f1, .int .i64 f2, .int .i64 f3, .int .u32 N]] w (RefPost w rx lx S q 0 (storeE (atV 6 S N (vvR R f0) (vvR R f1))) R (storeM m (atV 6 S N (vvR R f0) (vvR R f1)) (vvR R f2))) := by
  have k6 : (K == 6) = true := by simpa using hK
  have k30 : (K == 30) = false := by simp; omega
  have k31 : (K == 31) = false := by simp; omega
  have k5 : (K == 5) = false := by simp; omega
  have k3 : (K == 3) = false := by simp; omega
  have k2 : (K == 2) = false := by simp; omega
  clear hK
  have HA := Lib.hid hA
  have Hfrom := Lib.hid hf
  have Hto := Lib.hid ht
  clear hA hf ht
  go_enter Try.func11, Try.ntmps11
  go_upto_region 2 with fail
  obtain ⟨hB4, kS, kO, kR, kV⟩ := alloc_four w (.cells #[.slice rx n c, .int .u32 S, .slice none 0 0, .slice lx q lc] 31) (.cells #[.int .i64 K, .int .i64 t0, .int .i64 t1, .int .i64 f0, .int .i64 f1, .int .i64 f2, .int .i64 f3, .int .u32 N] 50) (.cells #[.slice none 0 0, .int .u32 0, .slice none 0 0, .slice none 0 0] 31) (.cells #[.int .u32 0, .int .u32 0, .int .u32 0, .int .u32 0] 69)
  generalize (((w.alloc _).alloc _).alloc _).alloc _ = w4 at hB4 kS kO kR kV ⊢
  have HD4 : Hid (DoSt w rx n c S lx q lc K t0 t1 f0 f1 f2 f3 N 0 0 0 0 w4) := ⟨kS, kO, kR, kV, hB4⟩
  clear hB4 kS kO kR kV
  go_wp2_with fail
  go_loopw [8] (fun iv wr => ∃ j : Nat, j ≤ 4 ∧ iv = .int .i64 j ∧ DoSt w rx n c S lx q lc K t0 t1 f0 f1 f2 f3 N 0 0 0 0 wr) (fun iv _ => 4 - (intOf iv).toNat)
  case atStart => exact ⟨0, by omega, rfl, HD4.out⟩
  case round =>
  obtain ⟨j, hj, rfl, hD⟩ := hrel
  by_cases hlt : j < 4
  · have hlt' : j < [f0, f1, f2, f3].length := hlt
    have hc := hD.from j hlt'
    have hX := Hfrom.out j hlt'
    obtain ⟨X, hXe⟩ : ∃ X, [f0, f1, f2, f3][j]'hlt' = X := ⟨_, rfl⟩
    rw [hXe] at hc hX
    have HXe := Lib.hid hXe
    have c0 := hD.sc.1
    have wj : IntKind.i64.wrap ((j : Int) + 1) = (j : Int) + 1 := IntWalk.i64_in _ (by omega)
    have hjI : (j : Int) < 4 := by omega
    have hl := hD.size
    have hl0 : w.heap.size < wr.heap.size := by omega
    have hl1 : w.heap.size + 1 < wr.heap.size := by omega
    clear hXe hl
    have e1 : decide ((n : Int) ≤ X) = false := by simp; omega
    have HD := Lib.hid hD
    clear hD hX
    go_wp2_with fail
    go_quiet (fail)
    go_wp2_with fail
    exact ⟨⟨j + 1, by omega, by simp, HD.out.below (below_drewN (Below.refl _ _) nq)⟩, by simp only [intOf]; omega⟩
  · have e4 : decide ((j : Int) < 4) = false := by simp; omega
    have HD4 := Lib.hid hD
    clear hD hj hlt
    go_wp2_with fail
    go_loopw [9] (fun iv wr => ∃ j : Nat, j ≤ 2 ∧ iv = .int .i64 j ∧ DoSt w rx n c S lx q lc K t0 t1 f0 f1 f2 f3 N 0 0 0 0 wr) (fun iv _ => 2 - (intOf iv).toNat)
    case atStart => exact ⟨0, by omega, rfl, HD4.out⟩
    case round =>
    obtain ⟨j, hj, rfl, hD⟩ := hrel
    by_cases hlt : j < 2
    · have hlt' : j < [t0, t1].length := hlt
      have hc := hD.to j hlt'
      have hX := Hto.out j hlt'
      obtain ⟨X, hXe⟩ : ∃ X, [t0, t1][j]'hlt' = X := ⟨_, rfl⟩
      rw [hXe] at hc hX
      have HXe := Lib.hid hXe
      have c0 := hD.sc.1
      have wj : IntKind.i64.wrap ((j : Int) + 1) = (j : Int) + 1 := IntWalk.i64_in _ (by omega)
      have hjI : (j : Int) < 2 := by omega
      have hl := hD.size
      have hl0 : w.heap.size < wr.heap.size := by omega
      have hl1 : w.heap.size + 1 < wr.heap.size := by omega
      clear hXe hl
      have e1 : decide ((n : Int) ≤ X) = false := by simp; omega
      have HD := Lib.hid hD
      clear hD hX
      go_wp2_with fail
      go_quiet (fail)
      go_wp2_with fail
      exact ⟨⟨j + 1, by omega, by simp, HD.out.below (below_drewN (Below.refl _ _) nq)⟩, by simp only [intOf]; omega⟩
    · have e2 : decide ((j : Int) < 2) = false := by simp; omega
      have HD4 := Lib.hid (show DoSt w rx n c S lx q lc K t0 t1 f0 f1 f2 f3 N (vAt R [f0, f1, f2, f3] 0 0) (vAt R [f0, f1, f2, f3] 0 1) (vAt R [f0, f1, f2, f3] 0 2) (vAt R [f0, f1, f2, f3] 0 3) wr from hD)
      clear hD hj hlt
      go_wp2_with fail
      go_loopw [10] (fun iv wr => ∃ j : Nat, j ≤ 4 ∧ iv = .int .i64 j ∧ DoSt w rx n c S lx q lc K t0 t1 f0 f1 f2 f3 N (vAt R [f0, f1, f2, f3] j 0) (vAt R [f0, f1, f2, f3] j 1) (vAt R [f0, f1, f2, f3] j 2) (vAt R [f0, f1, f2, f3] j 3) wr) (fun iv _ => 4 - (intOf iv).toNat)
      case atStart => exact ⟨0, by omega, rfl, HD4.out⟩
      case round =>
      obtain ⟨j, hj, rfl, hD⟩ := hrel
      by_cases hlt : j < 4
      · have hlt' : j < [f0, f1, f2, f3].length := hlt
        have hc := hD.from j hlt'
        have hX := Hfrom.out j hlt'
        have hsk := vAt_skip R [f0, f1, f2, f3] j hlt'
        have hst := hD.setV hlt
        obtain ⟨X, hXe⟩ : ∃ X, [f0, f1, f2, f3][j]'hlt' = X := ⟨_, rfl⟩
        rw [hXe] at hc hX hsk
        have HXe := Lib.hid hXe
        have wj : IntKind.i64.wrap ((j : Int) + 1) = (j : Int) + 1 := IntWalk.i64_in _ (by omega)
        have hjI : (j : Int) < 4 := by omega
        have hl := hD.size
        have hl1 : w.heap.size + 1 < wr.heap.size := by omega
        clear hXe hl hst
        by_cases hX0 : X < 0
        · have e1 : decide (0 ≤ X) = false := by simp; omega
          have Hsk := Lib.hid (hsk hX0)
          have HD := Lib.hid hD
          clear hD hX hX0 hsk
          go_wp2_with fail
          exact ⟨⟨j + 1, by omega, by simp, by rw [Hsk.out 0, Hsk.out 1, Hsk.out 2, Hsk.out 3]; exact HD.out⟩, by simp only [intOf]; omega⟩
        · have e1 : decide (0 ≤ X) = true := by simp; omega
          obtain ⟨x, rfl⟩ := Int.eq_ofNat_of_zero_le (show 0 ≤ X by omega)
          have hxn : x < n := by omega
          have hxl : x < R.length := by have := HA.out.len; omega
          obtain ⟨b, o, rfl, hbl, hcell⟩ := HA.out.row.resolve_left (by omega)
          have htd := hD.below ((Below.refl _ wr).drew)
          have hc2 := hcell x hxl
          obtain ⟨y, hy⟩ : ∃ y, R[x]'hxl = y := ⟨_, rfl⟩
          rw [hy] at hc2
          have hvx : vvR R ((x : Nat) : Int) = y := by
            unfold vvR
            rw [if_pos (by omega), Int.toNat_natCast, List.getD_eq_getElem?_getD, List.getElem?_eq_getElem hxl, hy]; rfl
          have hvx2 : vvR R ([f0, f1, f2, f3].getD j (-1)) = y := by
            rw [List.getD_eq_getElem?_getD, List.getElem?_eq_getElem hlt', HXe.out]; exact hvx
          have Hc2 := Lib.hid hc2
          have Hvx := Lib.hid hvx2
          have hbw : b < w.heap.size := hbl
          have hxI : (x : Int) < (n : Int) := by omega
          have hx0 : (0 : Int) ≤ (x : Int) := by omega
          have hnc := HA.out.cap
          clear hD hX hX0 hsk hcell hc2 hvx hvx2 hy hbl
          go_upto_region 16 with fail
          clear hc hl1
          refine wp_region_still_tail 10 (by kernel_rfl) (by kernel_rfl) ?_
          change wpStill _ _ (World.drew wr) (fun a' => wpList _ _ _ _ a' (World.drew wr)) _ _
          generalize World.drew wr = wd at htd ⊢
          simp only [List.take_succ_cons, List.take_zero, List.drop_succ_cons, List.drop_zero]
          have hc := htd.from j hlt'
          rw [HXe.out] at hc
          have c0 := htd.sc.1
          have hc2 := (htd.bel.cell (p := ⟨b, o + x, none⟩) hbw).trans Hc2.out
          have hl := htd.size
          have hl0 : w.heap.size < wd.heap.size := by omega
          have hl1 : w.heap.size + 1 < wd.heap.size := by omega
          have hl3 : w.heap.size + 3 < wd.heap.size := by omega
          have fV := (blk_cells htd.kV j).2
          have hvj : (wd.cell? ⟨w.heap.size + 3, j, none⟩).isSome = true := by
            obtain ⟨q0, q1, q2, q3⟩ := htd.vc
            match j, hlt with
            | 0, _ => rw [q0]; rfl
            | 1, _ => rw [q1]; rfl
            | 2, _ => rw [q2]; rfl
            | 3, _ => rw [q3]; rfl
          obtain ⟨uo, huo⟩ := Option.isSome_iff_exists.1 hvj
          have hfin := htd.setV hlt y Hvx.out
          have Hfin := Lib.hid hfin
          clear hl hfin htd hvj
          repeat still_step
          refine wpStill_nil ?_
          go_wp2_with fail
          exact ⟨⟨j + 1, by omega, by simp, Hfin.out⟩, by simp only [intOf]; omega⟩
      · have e10 : decide ((j : Int) < 4) = false := by simp; omega
        have hj4 : j = 4 := by omega
        rw [hj4] at hD
        have hD : DoSt w rx n c S lx q lc K t0 t1 f0 f1 f2 f3 N (vvR R f0) (vvR R f1) (vvR R f2) (vvR R f3) wr := hD
        have hb0 := vvR_bd HA.out.bytes f0
        have hb1 := vvR_bd HA.out.bytes f1
        have hb2 := vvR_bd HA.out.bytes f2
        have hb3 := vvR_bd HA.out.bytes f3
        obtain ⟨v0, hv0⟩ : ∃ v, vvR R f0 = v := ⟨_, rfl⟩
        rw [hv0] at hD hb0
        have Hv0 := Lib.hid hv0
        clear hv0
        obtain ⟨v1, hv1⟩ : ∃ v, vvR R f1 = v := ⟨_, rfl⟩
        rw [hv1] at hD hb1
        have Hv1 := Lib.hid hv1
        clear hv1
        obtain ⟨v2, hv2⟩ : ∃ v, vvR R f2 = v := ⟨_, rfl⟩
        rw [hv2] at hD hb2
        have Hv2 := Lib.hid hv2
        clear hv2
        obtain ⟨v3, hv3⟩ : ∃ v, vvR R f3 = v := ⟨_, rfl⟩
        rw [hv3] at hD hb3
        have Hv3 := Lib.hid hv3
        clear hv3
        obtain ⟨a0, a1⟩ := hb0
        obtain ⟨b0, b1⟩ := hb1
        obtain ⟨c0, c1⟩ := hb2
        obtain ⟨d0, d1⟩ := hb3
        obtain ⟨y0, y1, y2, y3⟩ := hD.sc
        obtain ⟨x0, x1, x2, x3, x4, x5, x6, x7⟩ := hD.oc
        obtain ⟨r0, r1, r2, r3⟩ := hD.rc
        obtain ⟨p0, p1, p2, p3⟩ := hD.rf
        obtain ⟨q0, q1, q2, q3⟩ := hD.vc
        have hl := hD.size
        have hl0 : w.heap.size < wr.heap.size := by omega
        have hl1 : w.heap.size + 1 < wr.heap.size := by omega
        have hl2 : w.heap.size + 2 < wr.heap.size := by omega
        have hl3 : w.heap.size + 3 < wr.heap.size := by omega
        have HD := Lib.hid hD
        clear hD hj hlt hj4 hl
        obtain ⟨A, hA2⟩ : ∃ A, (v0 + 4 * v1 % 4294967296) % 4294967296 = A := ⟨_, rfl⟩
        have hAb : 0 ≤ A ∧ A < 4294967296 := by omega
        have hAV : atV 6 S N v0 v1 = A := by rw [← hA2]; simp [atV]
        have HAV := Lib.hid hAV
        obtain ⟨hAb0, hAb1⟩ := hAb
        clear hAV
        go_wp2_with fail
        have hst := refStore_any none 0 0 lx q lc L A v2 wr (HA.out.lrow.below HD.out.bel) HA.out.lcap (by omega) hAb0 hAb1
        refine hst.mono ?_
        rintro e w5 ⟨lx', q', lc', rfl, hL', hq', hb5, hap⟩
        have HAP := Lib.hid (hap.imp id fun h g e => Nat.le_trans HD.out.bel.size (h g e))
        clear hap
        have HD5 := Lib.hid (HD.out.below hb5)
        have HL5 := Lib.hid hL'
        clear hst hb5 hL' y0 y1 y2 y3 x0 x1 x2 x3 x4 x5 x6 x7 r0 r1 r2 r3 p0 p1 p2 p3 q0 q1 q2 q3 hl0 hl1 hl2 hl3
        obtain ⟨y0, y1, y2, y3⟩ := HD5.out.sc
        obtain ⟨r0, r1, r2, r3⟩ := HD5.out.rc
        obtain ⟨p0, p1, p2, p3⟩ := HD5.out.rf
        have g2 := (blk_cells HD5.out.kS 2).2
        have g3 := (blk_cells HD5.out.kS 3).2
        have hl := HD5.out.size
        have hl0 : w.heap.size < w5.heap.size := by omega
        have hl2 : w.heap.size + 2 < w5.heap.size := by omega
        have hne : ¬ (w.heap.size + 1 + 1 = w.heap.size) := by omega
        clear hl
        have hq5 : q' ≤ q + 1 := by
          have h1 := HL5.out.1
          have h2 := HA.out.lrow.1
          have h3 := refL_len1 L A v2
          omega
        have hbV : 0 ≤ v2 ∧ v2 < 4294967296 := ⟨by omega, by omega⟩
        have hinv := inv_store HA.out.inv A v2 hbV.1 hbV.2
        have HI5 := Lib.hid hinv
        clear hinv hbV
        obtain ⟨E, hE⟩ : ∃ E, storeE A = E := ⟨_, rfl⟩
        rw [hE]
        have HE := Lib.hid hE
        clear hE
        go_wp2_with fail
        obtain ⟨kM, gM⟩ := putM HD5.out.kS (.slice none 0 0) (.slice lx' q' lc')
        obtain ⟨kz, gz⟩ := putS ((gM.block _ hl2 (by simp)).trans HD5.out.kR) (.slice rx n c) (.int .u32 S) (.slice none 0 0) (.slice lx' q' lc')
        have hb9 := below_grown_at (below_grown_at HD5.out.bel gM (Nat.le_refl _)) gz (by omega)
        have hL9 := lrow_past HL5.out (fun x => by rw [y0]; simp) (fun x => by rw [show w.heap.size + 2 = w.heap.size + 1 + 1 from rfl, r0]; simp) gM gz
        have hrow9 := HA.out.row.below hb9
        generalize World.setCell _ _ _ = wz at kz hb9 hL9 hrow9 ⊢
        have z0 := (blk_cells kz 0).1
        have z1 := (blk_cells kz 1).1
        have z2 := (blk_cells kz 2).1
        have z3 := (blk_cells kz 3).1
        refine ⟨rfl, .tuple #[refS rx n c S lx' q' lc', .int .i64 0, .int .i64 E], ?_, ?_⟩
        · simp [results, Try.f11, go_sem, z0, z1, z2, z3, refS]
        · rw [Hv0.out, Hv1.out, Hv2.out, HAV.out]
          exact ⟨rx, n, c, lx', q', lc', refL L A v2, by rw [HE.out], ⟨hrow9, HA.out.len, HA.out.cap, HA.out.small, HA.out.bytes, hL9, hq', HI5.out⟩, hq5, hb9, .inl rfl, HAP.out⟩
end Go.Proofs.Ytmkencdkglbpbaa
