/- The document's Do: kinds of words. -/
import Derived.Test.YtmkencdkglbpbaaRefDoD
import Derived.Test.YtmkencdkglbpbaaValA
set_option maxRecDepth 100000
set_option linter.unusedVariables false
namespace Go.Proofs.Ytmkencdkglbpbaa
open Go.RowKit


set_option maxHeartbeats 8000000 in
theorem refDo_4 (rx : Option Addr) (n c : Nat) (R : List Int) (S : Int) (lx : Option Addr) (q lc : Nat) (L : List (Int × Int)) (m : Nat → Int) (K t0 t1 f0 f1 f2 f3 N : Int) (w : World) (hA : RefAt w rx n c R lx q lc L m) (hS : 0 ≤ S ∧ S < 4294967296) (hN : 0 ≤ N ∧ N < 4294967296) (hq : q ≤ 10000) (hf : ∀ j (hj : j < [f0, f1, f2, f3].length), -1 ≤ [f0, f1, f2, f3][j] ∧ [f0, f1, f2, f3][j] < n) (ht : ∀ j (hj : j < [t0, t1].length), -1 ≤ [t0, t1][j] ∧ [t0, t1][j] < n) (hK : K = 4) (ht0 : 0 ≤ t0) (ht1 : t1 = -1) (R' : List Int) (hR' : R' = R.set t0.toNat (atV 4 S N (vvR R f0) (vvR R f1))) :
    Calls Try.prog 11 #[.agg #[.slice rx n c, .int .u32 S, .slice none 0 0, .slice lx q lc], .agg #[.int .i64 K, .int .i64 t0, .int .i64 t1, .int .i64 f0, .int .i64 f1, .int .i64 f2, .int .i64 f3, .int .u32 N]] w (RefPost w rx lx S q 0 0 R' m) := by
  have k4 : (K == 4) = true := by simpa using hK
  have k30 : (K == 30) = false := by simp; omega
  have k31 : (K == 31) = false := by simp; omega
  have k5 : (K == 5) = false := by simp; omega
  have k6 : (K == 6) = false := by simp; omega
  have k3 : (K == 3) = false := by simp; omega
  have k2 : (K == 2) = false := by simp; omega
  have kn4 : (K != 4) = false := by simp; omega
  obtain ⟨i0, hi, hz0, hz1, hz2⟩ := info_parts Try.infoU32
  obtain ⟨ra, hta⟩ := Int.eq_ofNat_of_zero_le ht0
  have hr0 : ra < n := by
    have h2 := (ht 0 (by simp)).2
    have h3 : [t0, t1][0] = t0 := rfl
    rw [h3] at h2
    omega
  have HT0 := Lib.hid hta
  have HT1 := Lib.hid ht1
  have HR' := Lib.hid hR'
  have HKK := Lib.hid hK
  clear hta ht0 ht1 hR' hK
  have HA := Lib.hid hA
  have Hfrom := Lib.hid hf
  have Hto := Lib.hid ht
  clear hA hf ht
  go_enter Try.func11, Try.ntmps11
  go_upto_region 2 with fail
  obtain ⟨hB4, kS, kO, kR, kV⟩ := alloc_four w (.cells #[.slice rx n c, .int .u32 S, .slice none 0 0, .slice lx q lc] 31) (.cells #[.int .i64 K, .int .i64 t0, .int .i64 t1, .int .i64 f0, .int .i64 f1, .int .i64 f2, .int .i64 f3, .int .u32 N] 50) (.cells #[.slice none 0 0, .int .u32 0, .slice none 0 0, .slice none 0 0] 31) (.cells #[.int .u32 0, .int .u32 0, .int .u32 0, .int .u32 0] 69)
  generalize (((w.alloc _).alloc _).alloc _).alloc _ = w4 at hB4 kS kO kR kV ⊢
  have HD4 : Hid (DoSt w rx n c S lx q lc K t0 t1 f0 f1 f2 f3 N 0 0 0 0 w4) := ⟨kS, kO, kR, kV, hB4⟩
  clear hB4 kS kO kR kV
  go_wp2_with fail
  go_loopw [8] (fun iv wr => ∃ j : Nat, j ≤ 4 ∧ iv = .int .i64 j ∧ DoSt w rx n c S lx q lc K t0 t1 f0 f1 f2 f3 N 0 0 0 0 wr) (fun iv _ => 4 - (intOf iv).toNat)
  case atStart => exact ⟨0, by omega, rfl, HD4.out⟩
  case round =>
  obtain ⟨j, hj, rfl, hD⟩ := hrel
  by_cases hlt : j < 4
  · have hlt' : j < [f0, f1, f2, f3].length := hlt
    have hc := hD.from j hlt'
    have hX := Hfrom.out j hlt'
    obtain ⟨X, hXe⟩ : ∃ X, [f0, f1, f2, f3][j]'hlt' = X := ⟨_, rfl⟩
    rw [hXe] at hc hX
    have HXe := Lib.hid hXe
    have c0 := hD.sc.1
    have wj : IntKind.i64.wrap ((j : Int) + 1) = (j : Int) + 1 := IntWalk.i64_in _ (by omega)
    have hjI : (j : Int) < 4 := by omega
    have hl := hD.size
    have hl0 : w.heap.size < wr.heap.size := by omega
    have hl1 : w.heap.size + 1 < wr.heap.size := by omega
    clear hXe hl
    have e1 : decide ((n : Int) ≤ X) = false := by simp; omega
    have HD := Lib.hid hD
    clear hD hX
    go_wp2_with fail
    go_quiet (fail)
    go_wp2_with fail
    exact ⟨⟨j + 1, by omega, by simp, HD.out.below (below_drewN (Below.refl _ _) nq)⟩, by simp only [intOf]; omega⟩
  · have e4 : decide ((j : Int) < 4) = false := by simp; omega
    have HD4 := Lib.hid hD
    clear hD hj hlt
    go_wp2_with fail
    go_loopw [9] (fun iv wr => ∃ j : Nat, j ≤ 2 ∧ iv = .int .i64 j ∧ DoSt w rx n c S lx q lc K t0 t1 f0 f1 f2 f3 N 0 0 0 0 wr) (fun iv _ => 2 - (intOf iv).toNat)
    case atStart => exact ⟨0, by omega, rfl, HD4.out⟩
    case round =>
    obtain ⟨j, hj, rfl, hD⟩ := hrel
    by_cases hlt : j < 2
    · have hlt' : j < [t0, t1].length := hlt
      have hc := hD.to j hlt'
      have hX := Hto.out j hlt'
      obtain ⟨X, hXe⟩ : ∃ X, [t0, t1][j]'hlt' = X := ⟨_, rfl⟩
      rw [hXe] at hc hX
      have HXe := Lib.hid hXe
      have c0 := hD.sc.1
      have wj : IntKind.i64.wrap ((j : Int) + 1) = (j : Int) + 1 := IntWalk.i64_in _ (by omega)
      have hjI : (j : Int) < 2 := by omega
      have hl := hD.size
      have hl0 : w.heap.size < wr.heap.size := by omega
      have hl1 : w.heap.size + 1 < wr.heap.size := by omega
      clear hXe hl
      have e1 : decide ((n : Int) ≤ X) = false := by simp; omega
      have HD := Lib.hid hD
      clear hD hX
      go_wp2_with fail
      go_quiet (fail)
      go_wp2_with fail
      exact ⟨⟨j + 1, by omega, by simp, HD.out.below (below_drewN (Below.refl _ _) nq)⟩, by simp only [intOf]; omega⟩
    · have e2 : decide ((j : Int) < 2) = false := by simp; omega
      have HD4 := Lib.hid (show DoSt w rx n c S lx q lc K t0 t1 f0 f1 f2 f3 N (vAt R [f0, f1, f2, f3] 0 0) (vAt R [f0, f1, f2, f3] 0 1) (vAt R [f0, f1, f2, f3] 0 2) (vAt R [f0, f1, f2, f3] 0 3) wr from hD)
      clear hD hj hlt
      go_wp2_with fail
      go_loopw [10] (fun iv wr => ∃ j : Nat, j ≤ 4 ∧ iv = .int .i64 j ∧ DoSt w rx n c S lx q lc K t0 t1 f0 f1 f2 f3 N (vAt R [f0, f1, f2, f3] j 0) (vAt R [f0, f1, f2, f3] j 1) (vAt R [f0, f1, f2, f3] j 2) (vAt R [f0, f1, f2, f3] j 3) wr) (fun iv _ => 4 - (intOf iv).toNat)
      case atStart => exact ⟨0, by omega, rfl, HD4.out⟩
      case round =>
      obtain ⟨j, hj, rfl, hD⟩ := hrel
      by_cases hlt : j < 4
      · have hlt' : j < [f0, f1, f2, f3].length := hlt
        have hc := hD.from j hlt'
        have hX := Hfrom.out j hlt'
        have hsk := vAt_skip R [f0, f1, f2, f3] j hlt'
        have hst := hD.setV hlt
        obtain ⟨X, hXe⟩ : ∃ X, [f0, f1, f2, f3][j]'hlt' = X := ⟨_, rfl⟩
        rw [hXe] at hc hX hsk
        have HXe := Lib.hid hXe
        have wj : IntKind.i64.wrap ((j : Int) + 1) = (j : Int) + 1 := IntWalk.i64_in _ (by omega)
        have hjI : (j : Int) < 4 := by omega
        have hl := hD.size
        have hl1 : w.heap.size + 1 < wr.heap.size := by omega
        clear hXe hl hst
        by_cases hX0 : X < 0
        · have e1 : decide (0 ≤ X) = false := by simp; omega
          have Hsk := Lib.hid (hsk hX0)
          have HD := Lib.hid hD
          clear hD hX hX0 hsk
          go_wp2_with fail
          exact ⟨⟨j + 1, by omega, by simp, by rw [Hsk.out 0, Hsk.out 1, Hsk.out 2, Hsk.out 3]; exact HD.out⟩, by simp only [intOf]; omega⟩
        · have e1 : decide (0 ≤ X) = true := by simp; omega
          obtain ⟨x, rfl⟩ := Int.eq_ofNat_of_zero_le (show 0 ≤ X by omega)
          have hxn : x < n := by omega
          have hxl : x < R.length := by have := HA.out.len; omega
          obtain ⟨b, o, rfl, hbl, hcell⟩ := HA.out.row.resolve_left (by omega)
          have htd := hD.below ((Below.refl _ wr).drew)
          have hc2 := hcell x hxl
          obtain ⟨y, hy⟩ : ∃ y, R[x]'hxl = y := ⟨_, rfl⟩
          rw [hy] at hc2
          have hvx : vvR R ((x : Nat) : Int) = y := by
            unfold vvR
            rw [if_pos (by omega), Int.toNat_natCast, List.getD_eq_getElem?_getD, List.getElem?_eq_getElem hxl, hy]; rfl
          have hvx2 : vvR R ([f0, f1, f2, f3].getD j (-1)) = y := by
            rw [List.getD_eq_getElem?_getD, List.getElem?_eq_getElem hlt', HXe.out]; exact hvx
          have Hc2 := Lib.hid hc2
          have Hvx := Lib.hid hvx2
          have hbw : b < w.heap.size := hbl
          have hxI : (x : Int) < (n : Int) := by omega
          have hx0 : (0 : Int) ≤ (x : Int) := by omega
          have hnc := HA.out.cap
          clear hD hX hX0 hsk hcell hc2 hvx hvx2 hy hbl
          go_upto_region 16 with fail
          clear hc hl1
          refine wp_region_still_tail 10 (by kernel_rfl) (by kernel_rfl) ?_
          change wpStill _ _ (World.drew wr) (fun a' => wpList _ _ _ _ a' (World.drew wr)) _ _
          generalize World.drew wr = wd at htd ⊢
          simp only [List.take_succ_cons, List.take_zero, List.drop_succ_cons, List.drop_zero]
          have hc := htd.from j hlt'
          rw [HXe.out] at hc
          have c0 := htd.sc.1
          have hc2 := (htd.bel.cell (p := ⟨b, o + x, none⟩) hbw).trans Hc2.out
          have hl := htd.size
          have hl0 : w.heap.size < wd.heap.size := by omega
          have hl1 : w.heap.size + 1 < wd.heap.size := by omega
          have hl3 : w.heap.size + 3 < wd.heap.size := by omega
          have fV := (blk_cells htd.kV j).2
          have hvj : (wd.cell? ⟨w.heap.size + 3, j, none⟩).isSome = true := by
            obtain ⟨q0, q1, q2, q3⟩ := htd.vc
            match j, hlt with
            | 0, _ => rw [q0]; rfl
            | 1, _ => rw [q1]; rfl
            | 2, _ => rw [q2]; rfl
            | 3, _ => rw [q3]; rfl
          obtain ⟨uo, huo⟩ := Option.isSome_iff_exists.1 hvj
          have hfin := htd.setV hlt y Hvx.out
          have Hfin := Lib.hid hfin
          clear hl hfin htd hvj
          repeat still_step
          refine wpStill_nil ?_
          go_wp2_with fail
          exact ⟨⟨j + 1, by omega, by simp, Hfin.out⟩, by simp only [intOf]; omega⟩
      · have e10 : decide ((j : Int) < 4) = false := by simp; omega
        have hj4 : j = 4 := by omega
        rw [hj4] at hD
        have hD : DoSt w rx n c S lx q lc K t0 t1 f0 f1 f2 f3 N (vvR R f0) (vvR R f1) (vvR R f2) (vvR R f3) wr := hD
        have hb0 := vvR_bd HA.out.bytes f0
        have hb1 := vvR_bd HA.out.bytes f1
        have hb2 := vvR_bd HA.out.bytes f2
        have hb3 := vvR_bd HA.out.bytes f3
        obtain ⟨v0, hv0⟩ : ∃ v, vvR R f0 = v := ⟨_, rfl⟩
        rw [hv0] at hD hb0
        have Hv0 := Lib.hid hv0
        clear hv0
        obtain ⟨v1, hv1⟩ : ∃ v, vvR R f1 = v := ⟨_, rfl⟩
        rw [hv1] at hD hb1
        have Hv1 := Lib.hid hv1
        clear hv1
        obtain ⟨v2, hv2⟩ : ∃ v, vvR R f2 = v := ⟨_, rfl⟩
        rw [hv2] at hD hb2
        have Hv2 := Lib.hid hv2
        clear hv2
        obtain ⟨v3, hv3⟩ : ∃ v, vvR R f3 = v := ⟨_, rfl⟩
        rw [hv3] at hD hb3
        have Hv3 := Lib.hid hv3
        clear hv3
        obtain ⟨a0, a1⟩ := hb0
        obtain ⟨b0, b1⟩ := hb1
        obtain ⟨c0, c1⟩ := hb2
        obtain ⟨d0, d1⟩ := hb3
        obtain ⟨y0, y1, y2, y3⟩ := hD.sc
        obtain ⟨x0, x1, x2, x3, x4, x5, x6, x7⟩ := hD.oc
        obtain ⟨r0, r1, r2, r3⟩ := hD.rc
        obtain ⟨p0, p1, p2, p3⟩ := hD.rf
        obtain ⟨q0, q1, q2, q3⟩ := hD.vc
        have hl := hD.size
        have hl0 : w.heap.size < wr.heap.size := by omega
        have hl1 : w.heap.size + 1 < wr.heap.size := by omega
        have hl2 : w.heap.size + 2 < wr.heap.size := by omega
        have hl3 : w.heap.size + 3 < wr.heap.size := by omega
        have HD := Lib.hid hD
        clear hD hj hlt hj4 hl
        obtain ⟨A, hA2⟩ : ∃ A, (S + N) % 4294967296 = A := ⟨_, rfl⟩
        have hAb : 0 ≤ A ∧ A < 4294967296 := by omega
        have hAV : atV 4 S N v0 v1 = A := by rw [← hA2]; simp [atV]
        have HAV := Lib.hid hAV
        obtain ⟨hAb0, hAb1⟩ := hAb
        clear hAV
        have hR' := HR'.out
        rw [Hv0.out, Hv1.out, HAV.out, HT0.out, Int.toNat_natCast] at hR'
        obtain ⟨LO, hLO⟩ : ∃ LO, LO = A := ⟨_, rfl⟩
        rw [← hLO] at hR'
        have HW := Lib.hid hR'
        have hLO0 : 0 ≤ LO := by omega
        have hLO1 : LO < 4294967296 := by omega
        have hm1 : A % 4294967296 = LO := by omega
        have wu : IntKind.u64.wrap A = A := by rw [IntKind.wrap_u64]; omega
        clear hR' hLO
        go_upto_region 39 with fail
        obtain ⟨wt, hwt⟩ : ∃ wt, wt = wr := ⟨_, rfl⟩
        rw [← hwt] at HD ⊢
        have HDt := HD
        clear hwt HD y0 y1 y2 y3 x0 x1 x2 x3 x4 x5 x6 x7 r0 r1 r2 r3 p0 p1 p2 p3 q0 q1 q2 q3 hl0 hl1 hl2 hl3
        have hnR := HA.out.len
        have hul : (uCells R).length = n * 1 := by simp [uCells, hnR]
        have HUL := Lib.hid hul
        have hx3 := (HA.out.row.below HDt.out.bel).news hnR
        have HX3 := Lib.hid hx3
        have hn100 := HA.out.small
        obtain ⟨y0, y1, y2, y3⟩ := HDt.out.sc
        have hl := HDt.out.size
        have hl0 : w.heap.size < wt.heap.size := by omega
        clear hul hx3 hnR hl
        go_wp2_with (at_builtin; refine wpList_append_uarg rfl (.tmp 161) (.tmp 163) 25 rfl wt.heap.size 22 i0 (.int .u32 0) 1 4 Try.underlying25 hi hz0 hz1 hz2 rfl (by decide) _ 0 [] rfl (World.ownsRow_nil _ _ _ _) rx n c (uCells R) rfl HUL.out HX3.out (u_all R) (by unfold maxLen; omega) (by omega) (by simp) ?_)
        intro v4 w4 hown4 hgrow4 hnil4
        obtain ⟨g, gc, rfl, hg, hcap, hU4⟩ : ∃ g gc, v4 = .slice (some ⟨g, 0, none⟩) n gc ∧ wt.heap.size ≤ g ∧ n ≤ gc ∧ URow w4 g R := by
          have hnR := HA.out.len
          rcases hown4.2 with ⟨h1, h2⟩ | ⟨g, cap, cur, rfl, hg, hh, hc, _⟩
          · omega
          · refine ⟨g, cap, by simp, hg, by omega, lt_of_block hh, fun i => by simp [World.frozen?, hh], fun j hj => ?_⟩
            rw [hown4.cellAt j (by omega)]
            simp [uCells, hj]
        have hD4 := HDt.out.below (below_none (by simpa [Value.ownBlock] using hgrow4))
        have hg3 : w.heap.size + 3 < g := by have := HDt.out.size; omega
        have hrl : ra < R.length := by rw [HA.out.len]; exact hr0
        have hc0 := hU4.2.2 ra hrl
        have hf0 := hU4.2.1 ra
        obtain ⟨uo, huo⟩ : ∃ uo, R[ra]'hrl = uo := ⟨_, rfl⟩
        rw [huo] at hc0
        have hU6 := hU4.set ra LO hrl
        have hD6 := hD4.past (setCell_grown w4 g ra (.int .u32 LO)) hg3
        have HU6 := Lib.hid hU6
        have HD6 := Lib.hid hD6
        obtain ⟨x0, x1, x2, x3, x4, x5, x6, x7⟩ := hD4.oc
        rw [HT0.out] at x1
        have hl := hD4.size
        have hl1 : w.heap.size + 1 < w4.heap.size := by omega
        have hr0I : (ra : Int) < (n : Int) := by omega
        have hr0p : (0 : Int) ≤ (ra : Int) := by omega
        have hgl : g < w4.heap.size := hU4.1
        clear hown4 hgrow4 hnil4 hU4 hD4 hU6 hD6 huo hl y0 y1 y2 y3 hl0
        go_upto_region 42 with fail
        generalize World.setCell w4 _ _ = w6 at HU6 HD6 ⊢
        clear hc0 hf0 x0 x1 x2 x3 x4 x5 x6 x7 hl1 hgl
        obtain ⟨x0, x1, x2, x3, x4, x5, x6, x7⟩ := HD6.out.oc
        rw [HT1.out] at x2
        have hl := HD6.out.size
        have hl1 : w.heap.size + 1 < w6.heap.size := by omega
        clear hl
        go_upto_region 44 with fail
        obtain ⟨w7, hw7⟩ : ∃ w7, w7 = w6 := ⟨_, rfl⟩
        rw [← hw7] at HU6 HD6 ⊢
        have HU7 := HU6
        have HD7 := HD6
        clear hw7 HU6 HD6 x0 x1 x2 x3 x4 x5 x6 x7 hl1
        obtain ⟨y0, y1, y2, y3⟩ := HD7.out.sc
        obtain ⟨r0', r1', r2', r3'⟩ := HD7.out.rc
        obtain ⟨p0, p1, p2, p3⟩ := HD7.out.rf
        have s0f := (blk_cells HD7.out.kS 0).2
        have hl := HD7.out.size
        have hl0 : w.heap.size < w7.heap.size := by omega
        have hl2 : w.heap.size + 2 < w7.heap.size := by omega
        have hne : ¬ (w.heap.size + 1 + 1 = w.heap.size) := by omega
        clear hl
        go_wp2_with fail
        obtain ⟨kM, gM⟩ := putR HD7.out.kS (.slice (some ⟨g, 0, none⟩) n gc)
        obtain ⟨kz, gz⟩ := putS ((gM.block _ hl2 (by simp)).trans HD7.out.kR) (.slice (some ⟨g, 0, none⟩) n gc) (.int .u32 S) (.slice none 0 0) (.slice lx q lc)
        have hb9 := below_grown_at (below_grown_at HD7.out.bel gM (Nat.le_refl _)) gz (by omega)
        have hU9 := (HU7.out.past gM (by omega)).past gz (by omega)
        generalize World.setCell _ _ _ = wz at kz hb9 hU9 ⊢
        have z0 := (blk_cells kz 0).1
        have z1 := (blk_cells kz 1).1
        have z2 := (blk_cells kz 2).1
        have z3 := (blk_cells kz 3).1
        refine ⟨rfl, .tuple #[refS (some ⟨g, 0, none⟩) n gc S lx q lc, .int .i64 0, .int .i64 0], ?_, ?_⟩
        · simp [results, Try.f11, go_sem, z0, z1, z2, z3, refS]
        · rw [HW.out]
          refine ⟨some ⟨g, 0, none⟩, n, gc, lx, q, lc, L, rfl, ⟨hU9.usl, by simp [HA.out.len], hcap, HA.out.small, fun y hy => ?_, HA.out.lrow.below hb9, HA.out.lcap, HA.out.inv⟩, by omega, hb9, .inr (fun b o e => by injection e with e; injection e with e; omega), .inl rfl⟩
          rcases List.mem_or_eq_of_mem_set hy with hy | rfl
          · exact HA.out.bytes y hy
          · exact ⟨hLO0, hLO1⟩

set_option maxHeartbeats 8000000 in
theorem refDo_one (rx : Option Addr) (n c : Nat) (R : List Int) (S : Int) (lx : Option Addr) (q lc : Nat) (L : List (Int × Int)) (m : Nat → Int) (K t0 t1 f0 f1 f2 f3 N : Int) (w : World) (hA : RefAt w rx n c R lx q lc L m) (hS : 0 ≤ S ∧ S < 4294967296) (hN : 0 ≤ N ∧ N < 4294967296) (hq : q ≤ 10000) (hf : ∀ j (hj : j < [f0, f1, f2, f3].length), -1 ≤ [f0, f1, f2, f3][j] ∧ [f0, f1, f2, f3][j] < n) (ht : ∀ j (hj : j < [t0, t1].length), -1 ≤ [t0, t1][j] ∧ [t0, t1][j] < n) (kk : Nat) (hK : K = kk) (hk29 : kk ≤ 29) (hkm : kk = 0 ∨ kk = 1 ∨ 7 ≤ kk) (ht0 : 0 ≤ t0) (ht1 : t1 = -1) (X : Int) (hX : X = ((valL N (vvR R f0) (vvR R f1) (vvR R f2) (vvR R f3) (vvR R f0 / vvR R f1)).getD kk 0)) (hX0 : 0 ≤ X) (hX1 : X < 18446744073709551616) (R' : List Int) (hR' : R' = R.set t0.toNat (X % 4294967296)) :
    Calls Try.prog 11 #[.agg #[.slice rx n c, .int .u32 S, .slice none 0 0, .slice lx q lc], .agg #[.int .i64 K, .int .i64 t0, .int .i64 t1, .int .i64 f0, .int .i64 f1, .int .i64 f2, .int .i64 f3, .int .u32 N]] w (RefPost w rx lx S q 0 0 R' m) := by
  have k30 : (K == 30) = false := by simp; omega
  have k31 : (K == 31) = false := by simp; omega
  have k5 : (K == 5) = false := by simp; omega
  have k6 : (K == 6) = false := by simp; omega
  have k3 : (K == 3) = false := by simp; omega
  have k2 : (K == 2) = false := by simp; omega
  have k4 : (K == 4) = false := by simp; omega
  have kn4 : (K != 4) = true := by simp; omega
  obtain ⟨i0, hi, hz0, hz1, hz2⟩ := info_parts Try.infoU32
  obtain ⟨ra, hta⟩ := Int.eq_ofNat_of_zero_le ht0
  have hr0 : ra < n := by
    have h2 := (ht 0 (by simp)).2
    have h3 : [t0, t1][0] = t0 := rfl
    rw [h3] at h2
    omega
  have HT0 := Lib.hid hta
  have HT1 := Lib.hid ht1
  have HR' := Lib.hid hR'
  have HKK := Lib.hid hK
  clear hta ht0 ht1 hR' hK
  have HX := Lib.hid hX
  clear hX
  have HA := Lib.hid hA
  have Hfrom := Lib.hid hf
  have Hto := Lib.hid ht
  clear hA hf ht
  go_enter Try.func11, Try.ntmps11
  go_upto_region 2 with fail
  obtain ⟨hB4, kS, kO, kR, kV⟩ := alloc_four w (.cells #[.slice rx n c, .int .u32 S, .slice none 0 0, .slice lx q lc] 31) (.cells #[.int .i64 K, .int .i64 t0, .int .i64 t1, .int .i64 f0, .int .i64 f1, .int .i64 f2, .int .i64 f3, .int .u32 N] 50) (.cells #[.slice none 0 0, .int .u32 0, .slice none 0 0, .slice none 0 0] 31) (.cells #[.int .u32 0, .int .u32 0, .int .u32 0, .int .u32 0] 69)
  generalize (((w.alloc _).alloc _).alloc _).alloc _ = w4 at hB4 kS kO kR kV ⊢
  have HD4 : Hid (DoSt w rx n c S lx q lc K t0 t1 f0 f1 f2 f3 N 0 0 0 0 w4) := ⟨kS, kO, kR, kV, hB4⟩
  clear hB4 kS kO kR kV
  go_wp2_with fail
  go_loopw [8] (fun iv wr => ∃ j : Nat, j ≤ 4 ∧ iv = .int .i64 j ∧ DoSt w rx n c S lx q lc K t0 t1 f0 f1 f2 f3 N 0 0 0 0 wr) (fun iv _ => 4 - (intOf iv).toNat)
  case atStart => exact ⟨0, by omega, rfl, HD4.out⟩
  case round =>
  obtain ⟨j, hj, rfl, hD⟩ := hrel
  by_cases hlt : j < 4
  · have hlt' : j < [f0, f1, f2, f3].length := hlt
    have hc := hD.from j hlt'
    have hX := Hfrom.out j hlt'
    obtain ⟨X, hXe⟩ : ∃ X, [f0, f1, f2, f3][j]'hlt' = X := ⟨_, rfl⟩
    rw [hXe] at hc hX
    have HXe := Lib.hid hXe
    have c0 := hD.sc.1
    have wj : IntKind.i64.wrap ((j : Int) + 1) = (j : Int) + 1 := IntWalk.i64_in _ (by omega)
    have hjI : (j : Int) < 4 := by omega
    have hl := hD.size
    have hl0 : w.heap.size < wr.heap.size := by omega
    have hl1 : w.heap.size + 1 < wr.heap.size := by omega
    clear hXe hl
    have e1 : decide ((n : Int) ≤ X) = false := by simp; omega
    have HD := Lib.hid hD
    clear hD hX
    go_wp2_with fail
    go_quiet (fail)
    go_wp2_with fail
    exact ⟨⟨j + 1, by omega, by simp, HD.out.below (below_drewN (Below.refl _ _) nq)⟩, by simp only [intOf]; omega⟩
  · have e4 : decide ((j : Int) < 4) = false := by simp; omega
    have HD4 := Lib.hid hD
    clear hD hj hlt
    go_wp2_with fail
    go_loopw [9] (fun iv wr => ∃ j : Nat, j ≤ 2 ∧ iv = .int .i64 j ∧ DoSt w rx n c S lx q lc K t0 t1 f0 f1 f2 f3 N 0 0 0 0 wr) (fun iv _ => 2 - (intOf iv).toNat)
    case atStart => exact ⟨0, by omega, rfl, HD4.out⟩
    case round =>
    obtain ⟨j, hj, rfl, hD⟩ := hrel
    by_cases hlt : j < 2
    · have hlt' : j < [t0, t1].length := hlt
      have hc := hD.to j hlt'
      have hX := Hto.out j hlt'
      obtain ⟨X, hXe⟩ : ∃ X, [t0, t1][j]'hlt' = X := ⟨_, rfl⟩
      rw [hXe] at hc hX
      have HXe := Lib.hid hXe
      have c0 := hD.sc.1
      have wj : IntKind.i64.wrap ((j : Int) + 1) = (j : Int) + 1 := IntWalk.i64_in _ (by omega)
      have hjI : (j : Int) < 2 := by omega
      have hl := hD.size
      have hl0 : w.heap.size < wr.heap.size := by omega
      have hl1 : w.heap.size + 1 < wr.heap.size := by omega
      clear hXe hl
      have e1 : decide ((n : Int) ≤ X) = false := by simp; omega
      have HD := Lib.hid hD
      clear hD hX
      go_wp2_with fail
      go_quiet (fail)
      go_wp2_with fail
      exact ⟨⟨j + 1, by omega, by simp, HD.out.below (below_drewN (Below.refl _ _) nq)⟩, by simp only [intOf]; omega⟩
    · have e2 : decide ((j : Int) < 2) = false := by simp; omega
      have HD4 := Lib.hid (show DoSt w rx n c S lx q lc K t0 t1 f0 f1 f2 f3 N (vAt R [f0, f1, f2, f3] 0 0) (vAt R [f0, f1, f2, f3] 0 1) (vAt R [f0, f1, f2, f3] 0 2) (vAt R [f0, f1, f2, f3] 0 3) wr from hD)
      clear hD hj hlt
      go_wp2_with fail
      go_loopw [10] (fun iv wr => ∃ j : Nat, j ≤ 4 ∧ iv = .int .i64 j ∧ DoSt w rx n c S lx q lc K t0 t1 f0 f1 f2 f3 N (vAt R [f0, f1, f2, f3] j 0) (vAt R [f0, f1, f2, f3] j 1) (vAt R [f0, f1, f2, f3] j 2) (vAt R [f0, f1, f2, f3] j 3) wr) (fun iv _ => 4 - (intOf iv).toNat)
      case atStart => exact ⟨0, by omega, rfl, HD4.out⟩
      case round =>
      obtain ⟨j, hj, rfl, hD⟩ := hrel
      by_cases hlt : j < 4
      · have hlt' : j < [f0, f1, f2, f3].length := hlt
        have hc := hD.from j hlt'
        have hX := Hfrom.out j hlt'
        have hsk := vAt_skip R [f0, f1, f2, f3] j hlt'
        have hst := hD.setV hlt
        obtain ⟨X, hXe⟩ : ∃ X, [f0, f1, f2, f3][j]'hlt' = X := ⟨_, rfl⟩
        rw [hXe] at hc hX hsk
        have HXe := Lib.hid hXe
        have wj : IntKind.i64.wrap ((j : Int) + 1) = (j : Int) + 1 := IntWalk.i64_in _ (by omega)
        have hjI : (j : Int) < 4 := by omega
        have hl := hD.size
        have hl1 : w.heap.size + 1 < wr.heap.size := by omega
        clear hXe hl hst
        by_cases hX0 : X < 0
        · have e1 : decide (0 ≤ X) = false := by simp; omega
          have Hsk := Lib.hid (hsk hX0)
          have HD := Lib.hid hD
          clear hD hX hX0 hsk
          go_wp2_with fail
          exact ⟨⟨j + 1, by omega, by simp, by rw [Hsk.out 0, Hsk.out 1, Hsk.out 2, Hsk.out 3]; exact HD.out⟩, by simp only [intOf]; omega⟩
        · have e1 : decide (0 ≤ X) = true := by simp; omega
          obtain ⟨x, rfl⟩ := Int.eq_ofNat_of_zero_le (show 0 ≤ X by omega)
          have hxn : x < n := by omega
          have hxl : x < R.length := by have := HA.out.len; omega
          obtain ⟨b, o, rfl, hbl, hcell⟩ := HA.out.row.resolve_left (by omega)
          have htd := hD.below ((Below.refl _ wr).drew)
          have hc2 := hcell x hxl
          obtain ⟨y, hy⟩ : ∃ y, R[x]'hxl = y := ⟨_, rfl⟩
          rw [hy] at hc2
          have hvx : vvR R ((x : Nat) : Int) = y := by
            unfold vvR
            rw [if_pos (by omega), Int.toNat_natCast, List.getD_eq_getElem?_getD, List.getElem?_eq_getElem hxl, hy]; rfl
          have hvx2 : vvR R ([f0, f1, f2, f3].getD j (-1)) = y := by
            rw [List.getD_eq_getElem?_getD, List.getElem?_eq_getElem hlt', HXe.out]; exact hvx
          have Hc2 := Lib.hid hc2
          have Hvx := Lib.hid hvx2
          have hbw : b < w.heap.size := hbl
          have hxI : (x : Int) < (n : Int) := by omega
          have hx0 : (0 : Int) ≤ (x : Int) := by omega
          have hnc := HA.out.cap
          clear hD hX hX0 hsk hcell hc2 hvx hvx2 hy hbl
          go_upto_region 16 with fail
          clear hc hl1
          refine wp_region_still_tail 10 (by kernel_rfl) (by kernel_rfl) ?_
          change wpStill _ _ (World.drew wr) (fun a' => wpList _ _ _ _ a' (World.drew wr)) _ _
          generalize World.drew wr = wd at htd ⊢
          simp only [List.take_succ_cons, List.take_zero, List.drop_succ_cons, List.drop_zero]
          have hc := htd.from j hlt'
          rw [HXe.out] at hc
          have c0 := htd.sc.1
          have hc2 := (htd.bel.cell (p := ⟨b, o + x, none⟩) hbw).trans Hc2.out
          have hl := htd.size
          have hl0 : w.heap.size < wd.heap.size := by omega
          have hl1 : w.heap.size + 1 < wd.heap.size := by omega
          have hl3 : w.heap.size + 3 < wd.heap.size := by omega
          have fV := (blk_cells htd.kV j).2
          have hvj : (wd.cell? ⟨w.heap.size + 3, j, none⟩).isSome = true := by
            obtain ⟨q0, q1, q2, q3⟩ := htd.vc
            match j, hlt with
            | 0, _ => rw [q0]; rfl
            | 1, _ => rw [q1]; rfl
            | 2, _ => rw [q2]; rfl
            | 3, _ => rw [q3]; rfl
          obtain ⟨uo, huo⟩ := Option.isSome_iff_exists.1 hvj
          have hfin := htd.setV hlt y Hvx.out
          have Hfin := Lib.hid hfin
          clear hl hfin htd hvj
          repeat still_step
          refine wpStill_nil ?_
          go_wp2_with fail
          exact ⟨⟨j + 1, by omega, by simp, Hfin.out⟩, by simp only [intOf]; omega⟩
      · have e10 : decide ((j : Int) < 4) = false := by simp; omega
        have hj4 : j = 4 := by omega
        rw [hj4] at hD
        have hD : DoSt w rx n c S lx q lc K t0 t1 f0 f1 f2 f3 N (vvR R f0) (vvR R f1) (vvR R f2) (vvR R f3) wr := hD
        have hb0 := vvR_bd HA.out.bytes f0
        have hb1 := vvR_bd HA.out.bytes f1
        have hb2 := vvR_bd HA.out.bytes f2
        have hb3 := vvR_bd HA.out.bytes f3
        obtain ⟨v0, hv0⟩ : ∃ v, vvR R f0 = v := ⟨_, rfl⟩
        rw [hv0] at hD hb0
        have Hv0 := Lib.hid hv0
        clear hv0
        obtain ⟨v1, hv1⟩ : ∃ v, vvR R f1 = v := ⟨_, rfl⟩
        rw [hv1] at hD hb1
        have Hv1 := Lib.hid hv1
        clear hv1
        obtain ⟨v2, hv2⟩ : ∃ v, vvR R f2 = v := ⟨_, rfl⟩
        rw [hv2] at hD hb2
        have Hv2 := Lib.hid hv2
        clear hv2
        obtain ⟨v3, hv3⟩ : ∃ v, vvR R f3 = v := ⟨_, rfl⟩
        rw [hv3] at hD hb3
        have Hv3 := Lib.hid hv3
        clear hv3
        obtain ⟨a0, a1⟩ := hb0
        obtain ⟨b0, b1⟩ := hb1
        obtain ⟨c0, c1⟩ := hb2
        obtain ⟨d0, d1⟩ := hb3
        obtain ⟨y0, y1, y2, y3⟩ := hD.sc
        obtain ⟨x0, x1, x2, x3, x4, x5, x6, x7⟩ := hD.oc
        obtain ⟨r0, r1, r2, r3⟩ := hD.rc
        obtain ⟨p0, p1, p2, p3⟩ := hD.rf
        obtain ⟨q0, q1, q2, q3⟩ := hD.vc
        have hl := hD.size
        have hl0 : w.heap.size < wr.heap.size := by omega
        have hl1 : w.heap.size + 1 < wr.heap.size := by omega
        have hl2 : w.heap.size + 2 < wr.heap.size := by omega
        have hl3 : w.heap.size + 3 < wr.heap.size := by omega
        have HD := Lib.hid hD
        clear hD hj hlt hj4 hl
        obtain ⟨A, hA2⟩ : ∃ A, (S + N) % 4294967296 = A := ⟨_, rfl⟩
        have hAb0 : 0 ≤ A := by omega
        have hAb1 : A < 4294967296 := by omega
        have wu : IntKind.u64.wrap A = A := by rw [IntKind.wrap_u64]; omega
        go_upto_region 38 with fail
        go_wp2_with fail
        have hval := value_any kk t0 t1 f0 f1 f2 f3 N v0 v1 v2 v3 wr hk29 hN ⟨a0, a1⟩ ⟨b0, b1⟩ ⟨c0, c1⟩ ⟨d0, d1⟩
        rw [← HKK.out] at hval
        have hX := HX.out
        rw [Hv0.out, Hv1.out, Hv2.out, Hv3.out] at hX
        rw [← hX] at hval
        refine hval.mono ?_
        rintro e w5 ⟨rfl, hb5⟩
        have HDt := Lib.hid (HD.out.below hb5)
        have hR' := HR'.out
        rw [HT0.out, Int.toNat_natCast] at hR'
        obtain ⟨LO, hm1⟩ : ∃ LO, X % 4294967296 = LO := ⟨_, rfl⟩
        obtain ⟨HI, hm2⟩ : ∃ HI, X / 4294967296 = HI := ⟨_, rfl⟩
        rw [hm1] at hR'
        have HW := Lib.hid hR'
        have hLO0 : 0 ≤ LO := by omega
        have hLO1 : LO < 4294967296 := by omega
        have hHI0 : 0 ≤ HI := by omega
        have hHI1 : HI < 4294967296 := by omega
        have hc1 : IntKind.u32.wrap LO = LO := by rw [IntKind.wrap_u32]; omega
        have hc2 : IntKind.u32.wrap HI = HI := by rw [IntKind.wrap_u32]; omega
        obtain ⟨wt, hwt⟩ : ∃ wt, wt = w5 := ⟨_, rfl⟩
        rw [← hwt] at HDt ⊢
        clear hwt hval hb5 hX hR' y0 y1 y2 y3 x0 x1 x2 x3 x4 x5 x6 x7 r0 r1 r2 r3 p0 p1 p2 p3 q0 q1 q2 q3 hl0 hl1 hl2 hl3
        go_upto_region 39 with fail
        have hnR := HA.out.len
        have hul : (uCells R).length = n * 1 := by simp [uCells, hnR]
        have HUL := Lib.hid hul
        have hx3 := (HA.out.row.below HDt.out.bel).news hnR
        have HX3 := Lib.hid hx3
        have hn100 := HA.out.small
        obtain ⟨y0, y1, y2, y3⟩ := HDt.out.sc
        have hl := HDt.out.size
        have hl0 : w.heap.size < wt.heap.size := by omega
        clear hul hx3 hnR hl
        go_wp2_with (at_builtin; refine wpList_append_uarg rfl (.tmp 161) (.tmp 163) 25 rfl wt.heap.size 22 i0 (.int .u32 0) 1 4 Try.underlying25 hi hz0 hz1 hz2 rfl (by decide) _ 0 [] rfl (World.ownsRow_nil _ _ _ _) rx n c (uCells R) rfl HUL.out HX3.out (u_all R) (by unfold maxLen; omega) (by omega) (by simp) ?_)
        intro v4 w4 hown4 hgrow4 hnil4
        obtain ⟨g, gc, rfl, hg, hcap, hU4⟩ : ∃ g gc, v4 = .slice (some ⟨g, 0, none⟩) n gc ∧ wt.heap.size ≤ g ∧ n ≤ gc ∧ URow w4 g R := by
          have hnR := HA.out.len
          rcases hown4.2 with ⟨h1, h2⟩ | ⟨g, cap, cur, rfl, hg, hh, hc, _⟩
          · omega
          · refine ⟨g, cap, by simp, hg, by omega, lt_of_block hh, fun i => by simp [World.frozen?, hh], fun j hj => ?_⟩
            rw [hown4.cellAt j (by omega)]
            simp [uCells, hj]
        have hD4 := HDt.out.below (below_none (by simpa [Value.ownBlock] using hgrow4))
        have hg3 : w.heap.size + 3 < g := by have := HDt.out.size; omega
        have hrl : ra < R.length := by rw [HA.out.len]; exact hr0
        have hc0 := hU4.2.2 ra hrl
        have hf0 := hU4.2.1 ra
        obtain ⟨uo, huo⟩ : ∃ uo, R[ra]'hrl = uo := ⟨_, rfl⟩
        rw [huo] at hc0
        have hU6 := hU4.set ra LO hrl
        have hD6 := hD4.past (setCell_grown w4 g ra (.int .u32 LO)) hg3
        have HU6 := Lib.hid hU6
        have HD6 := Lib.hid hD6
        obtain ⟨x0, x1, x2, x3, x4, x5, x6, x7⟩ := hD4.oc
        rw [HT0.out] at x1
        have hl := hD4.size
        have hl1 : w.heap.size + 1 < w4.heap.size := by omega
        have hr0I : (ra : Int) < (n : Int) := by omega
        have hr0p : (0 : Int) ≤ (ra : Int) := by omega
        have hgl : g < w4.heap.size := hU4.1
        clear hown4 hgrow4 hnil4 hU4 hD4 hU6 hD6 huo hl y0 y1 y2 y3 hl0
        go_upto_region 42 with fail
        generalize World.setCell w4 _ _ = w6 at HU6 HD6 ⊢
        clear hc0 hf0 x0 x1 x2 x3 x4 x5 x6 x7 hl1 hgl
        obtain ⟨x0, x1, x2, x3, x4, x5, x6, x7⟩ := HD6.out.oc
        rw [HT1.out] at x2
        have hl := HD6.out.size
        have hl1 : w.heap.size + 1 < w6.heap.size := by omega
        clear hl
        go_upto_region 44 with fail
        obtain ⟨w7, hw7⟩ : ∃ w7, w7 = w6 := ⟨_, rfl⟩
        rw [← hw7] at HU6 HD6 ⊢
        have HU7 := HU6
        have HD7 := HD6
        clear hw7 HU6 HD6 x0 x1 x2 x3 x4 x5 x6 x7 hl1
        obtain ⟨y0, y1, y2, y3⟩ := HD7.out.sc
        obtain ⟨r0', r1', r2', r3'⟩ := HD7.out.rc
        obtain ⟨p0, p1, p2, p3⟩ := HD7.out.rf
        have s0f := (blk_cells HD7.out.kS 0).2
        have hl := HD7.out.size
        have hl0 : w.heap.size < w7.heap.size := by omega
        have hl2 : w.heap.size + 2 < w7.heap.size := by omega
        have hne : ¬ (w.heap.size + 1 + 1 = w.heap.size) := by omega
        clear hl
        go_wp2_with fail
        obtain ⟨kM, gM⟩ := putR HD7.out.kS (.slice (some ⟨g, 0, none⟩) n gc)
        obtain ⟨kz, gz⟩ := putS ((gM.block _ hl2 (by simp)).trans HD7.out.kR) (.slice (some ⟨g, 0, none⟩) n gc) (.int .u32 S) (.slice none 0 0) (.slice lx q lc)
        have hb9 := below_grown_at (below_grown_at HD7.out.bel gM (Nat.le_refl _)) gz (by omega)
        have hU9 := (HU7.out.past gM (by omega)).past gz (by omega)
        generalize World.setCell _ _ _ = wz at kz hb9 hU9 ⊢
        have z0 := (blk_cells kz 0).1
        have z1 := (blk_cells kz 1).1
        have z2 := (blk_cells kz 2).1
        have z3 := (blk_cells kz 3).1
        refine ⟨rfl, .tuple #[refS (some ⟨g, 0, none⟩) n gc S lx q lc, .int .i64 0, .int .i64 0], ?_, ?_⟩
        · simp [results, Try.f11, go_sem, z0, z1, z2, z3, refS]
        · rw [HW.out]
          refine ⟨some ⟨g, 0, none⟩, n, gc, lx, q, lc, L, rfl, ⟨hU9.usl, by simp [HA.out.len], hcap, HA.out.small, fun y hy => ?_, HA.out.lrow.below hb9, HA.out.lcap, HA.out.inv⟩, by omega, hb9, .inr (fun b o e => by injection e with e; injection e with e; omega), .inl rfl⟩
          rcases List.mem_or_eq_of_mem_set hy with hy | rfl
          · exact HA.out.bytes y hy
          · exact ⟨hLO0, hLO1⟩

set_option maxHeartbeats 8000000 in
theorem refDo_two (rx : Option Addr) (n c : Nat) (R : List Int) (S : Int) (lx : Option Addr) (q lc : Nat) (L : List (Int × Int)) (m : Nat → Int) (K t0 t1 f0 f1 f2 f3 N : Int) (w : World) (hA : RefAt w rx n c R lx q lc L m) (hS : 0 ≤ S ∧ S < 4294967296) (hN : 0 ≤ N ∧ N < 4294967296) (hq : q ≤ 10000) (hf : ∀ j (hj : j < [f0, f1, f2, f3].length), -1 ≤ [f0, f1, f2, f3][j] ∧ [f0, f1, f2, f3][j] < n) (ht : ∀ j (hj : j < [t0, t1].length), -1 ≤ [t0, t1][j] ∧ [t0, t1][j] < n) (kk : Nat) (hK : K = kk) (hk29 : kk ≤ 29) (hkm : kk = 0 ∨ kk = 1 ∨ 7 ≤ kk) (ht0 : 0 ≤ t0) (ht1 : 0 ≤ t1) (X : Int) (hX : X = ((valL N (vvR R f0) (vvR R f1) (vvR R f2) (vvR R f3) (vvR R f0 / vvR R f1)).getD kk 0)) (hX0 : 0 ≤ X) (hX1 : X < 18446744073709551616) (R' : List Int) (hR' : R' = (R.set t0.toNat (X % 4294967296)).set t1.toNat (X / 4294967296)) :
    Calls Try.prog 11 #[.agg #[.slice rx n c, .int .u32 S, .slice none 0 0, .slice lx q lc], .agg #[.int .i64 K, .int .i64 t0, .int .i64 t1, .int .i64 f0, .int .i64 f1, .int .i64 f2, .int .i64 f3, .int .u32 N]] w (RefPost w rx lx S q 0 0 R' m) := by
  have k30 : (K == 30) = false := by simp; omega
  have k31 : (K == 31) = false := by simp; omega
  have k5 : (K == 5) = false := by simp; omega
  have k6 : (K == 6) = false := by simp; omega
  have k3 : (K == 3) = false := by simp; omega
  have k2 : (K == 2) = false := by simp; omega
  have k4 : (K == 4) = false := by simp; omega
  have kn4 : (K != 4) = true := by simp; omega
  obtain ⟨i0, hi, hz0, hz1, hz2⟩ := info_parts Try.infoU32
  obtain ⟨ra, hta⟩ := Int.eq_ofNat_of_zero_le ht0
  have hr0 : ra < n := by
    have h2 := (ht 0 (by simp)).2
    have h3 : [t0, t1][0] = t0 := rfl
    rw [h3] at h2
    omega
  have HT0 := Lib.hid hta
  obtain ⟨rb, htb⟩ := Int.eq_ofNat_of_zero_le ht1
  have hr1 : rb < n := by
    have h2 := (ht 1 (by simp)).2
    have h3 : [t0, t1][1] = t1 := rfl
    rw [h3] at h2
    omega
  have HT1 := Lib.hid htb
  clear htb
  have HR' := Lib.hid hR'
  have HKK := Lib.hid hK
  clear hta ht0 ht1 hR' hK
  have HX := Lib.hid hX
  clear hX
  have HA := Lib.hid hA
  have Hfrom := Lib.hid hf
  have Hto := Lib.hid ht
  clear hA hf ht
  go_enter Try.func11, Try.ntmps11
  go_upto_region 2 with fail
  obtain ⟨hB4, kS, kO, kR, kV⟩ := alloc_four w (.cells #[.slice rx n c, .int .u32 S, .slice none 0 0, .slice lx q lc] 31) (.cells #[.int .i64 K, .int .i64 t0, .int .i64 t1, .int .i64 f0, .int .i64 f1, .int .i64 f2, .int .i64 f3, .int .u32 N] 50) (.cells #[.slice none 0 0, .int .u32 0, .slice none 0 0, .slice none 0 0] 31) (.cells #[.int .u32 0, .int .u32 0, .int .u32 0, .int .u32 0] 69)
  generalize (((w.alloc _).alloc _).alloc _).alloc _ = w4 at hB4 kS kO kR kV ⊢
  have HD4 : Hid (DoSt w rx n c S lx q lc K t0 t1 f0 f1 f2 f3 N 0 0 0 0 w4) := ⟨kS, kO, kR, kV, hB4⟩
  clear hB4 kS kO kR kV
  go_wp2_with fail
  go_loopw [8] (fun iv wr => ∃ j : Nat, j ≤ 4 ∧ iv = .int .i64 j ∧ DoSt w rx n c S lx q lc K t0 t1 f0 f1 f2 f3 N 0 0 0 0 wr) (fun iv _ => 4 - (intOf iv).toNat)
  case atStart => exact ⟨0, by omega, rfl, HD4.out⟩
  case round =>
  obtain ⟨j, hj, rfl, hD⟩ := hrel
  by_cases hlt : j < 4
  · have hlt' : j < [f0, f1, f2, f3].length := hlt
    have hc := hD.from j hlt'
    have hX := Hfrom.out j hlt'
    obtain ⟨X, hXe⟩ : ∃ X, [f0, f1, f2, f3][j]'hlt' = X := ⟨_, rfl⟩
    rw [hXe] at hc hX
    have HXe := Lib.hid hXe
    have c0 := hD.sc.1
    have wj : IntKind.i64.wrap ((j : Int) + 1) = (j : Int) + 1 := IntWalk.i64_in _ (by omega)
    have hjI : (j : Int) < 4 := by omega
    have hl := hD.size
    have hl0 : w.heap.size < wr.heap.size := by omega
    have hl1 : w.heap.size + 1 < wr.heap.size := by omega
    clear hXe hl
    have e1 : decide ((n : Int) ≤ X) = false := by simp; omega
    have HD := Lib.hid hD
    clear hD hX
    go_wp2_with fail
    go_quiet (fail)
    go_wp2_with fail
    exact ⟨⟨j + 1, by omega, by simp, HD.out.below (below_drewN (Below.refl _ _) nq)⟩, by simp only [intOf]; omega⟩
  · have e4 : decide ((j : Int) < 4) = false := by simp; omega
    have HD4 := Lib.hid hD
    clear hD hj hlt
    go_wp2_with fail
    go_loopw [9] (fun iv wr => ∃ j : Nat, j ≤ 2 ∧ iv = .int .i64 j ∧ DoSt w rx n c S lx q lc K t0 t1 f0 f1 f2 f3 N 0 0 0 0 wr) (fun iv _ => 2 - (intOf iv).toNat)
    case atStart => exact ⟨0, by omega, rfl, HD4.out⟩
    case round =>
    obtain ⟨j, hj, rfl, hD⟩ := hrel
    by_cases hlt : j < 2
    · have hlt' : j < [t0, t1].length := hlt
      have hc := hD.to j hlt'
      have hX := Hto.out j hlt'
      obtain ⟨X, hXe⟩ : ∃ X, [t0, t1][j]'hlt' = X := ⟨_, rfl⟩
      rw [hXe] at hc hX
      have HXe := Lib.hid hXe
      have c0 := hD.sc.1
      have wj : IntKind.i64.wrap ((j : Int) + 1) = (j : Int) + 1 := IntWalk.i64_in _ (by omega)
      have hjI : (j : Int) < 2 := by omega
      have hl := hD.size
      have hl0 : w.heap.size < wr.heap.size := by omega
      have hl1 : w.heap.size + 1 < wr.heap.size := by omega
      clear hXe hl
      have e1 : decide ((n : Int) ≤ X) = false := by simp; omega
      have HD := Lib.hid hD
      clear hD hX
      go_wp2_with fail
      go_quiet (fail)
      go_wp2_with fail
      exact ⟨⟨j + 1, by omega, by simp, HD.out.below (below_drewN (Below.refl _ _) nq)⟩, by simp only [intOf]; omega⟩
    · have e2 : decide ((j : Int) < 2) = false := by simp; omega
      have HD4 := Lib.hid (show DoSt w rx n c S lx q lc K t0 t1 f0 f1 f2 f3 N (vAt R [f0, f1, f2, f3] 0 0) (vAt R [f0, f1, f2, f3] 0 1) (vAt R [f0, f1, f2, f3] 0 2) (vAt R [f0, f1, f2, f3] 0 3) wr from hD)
      clear hD hj hlt
      go_wp2_with fail
      go_loopw [10] (fun iv wr => ∃ j : Nat, j ≤ 4 ∧ iv = .int .i64 j ∧ DoSt w rx n c S lx q lc K t0 t1 f0 f1 f2 f3 N (vAt R [f0, f1, f2, f3] j 0) (vAt R [f0, f1, f2, f3] j 1) (vAt R [f0, f1, f2, f3] j 2) (vAt R [f0, f1, f2, f3] j 3) wr) (fun iv _ => 4 - (intOf iv).toNat)
      case atStart => exact ⟨0, by omega, rfl, HD4.out⟩
      case round =>
      obtain ⟨j, hj, rfl, hD⟩ := hrel
      by_cases hlt : j < 4
      · have hlt' : j < [f0, f1, f2, f3].length := hlt
        have hc := hD.from j hlt'
        have hX := Hfrom.out j hlt'
        have hsk := vAt_skip R [f0, f1, f2, f3] j hlt'
        have hst := hD.setV hlt
        obtain ⟨X, hXe⟩ : ∃ X, [f0, f1, f2, f3][j]'hlt' = X := ⟨_, rfl⟩
        rw [hXe] at hc hX hsk
        have HXe := Lib.hid hXe
        have wj : IntKind.i64.wrap ((j : Int) + 1) = (j : Int) + 1 := IntWalk.i64_in _ (by omega)
        have hjI : (j : Int) < 4 := by omega
        have hl := hD.size
        have hl1 : w.heap.size + 1 < wr.heap.size := by omega
        clear hXe hl hst
        by_cases hX0 : X < 0
        · have e1 : decide (0 ≤ X) = false := by simp; omega
          have Hsk := Lib.hid (hsk hX0)
          have HD := Lib.hid hD
          clear hD hX hX0 hsk
          go_wp2_with fail
          exact ⟨⟨j + 1, by omega, by simp, by rw [Hsk.out 0, Hsk.out 1, Hsk.out 2, Hsk.out 3]; exact HD.out⟩, by simp only [intOf]; omega⟩
        · have e1 : decide (0 ≤ X) = true := by simp; omega
          obtain ⟨x, rfl⟩ := Int.eq_ofNat_of_zero_le (show 0 ≤ X by omega)
          have hxn : x < n := by omega
          have hxl : x < R.length := by have := HA.out.len; omega
          obtain ⟨b, o, rfl, hbl, hcell⟩ := HA.out.row.resolve_left (by omega)
          have htd := hD.below ((Below.refl _ wr).drew)
          have hc2 := hcell x hxl
          obtain ⟨y, hy⟩ : ∃ y, R[x]'hxl = y := ⟨_, rfl⟩
          rw [hy] at hc2
          have hvx : vvR R ((x : Nat) : Int) = y := by
            unfold vvR
            rw [if_pos (by omega), Int.toNat_natCast, List.getD_eq_getElem?_getD, List.getElem?_eq_getElem hxl, hy]; rfl
          have hvx2 : vvR R ([f0, f1, f2, f3].getD j (-1)) = y := by
            rw [List.getD_eq_getElem?_getD, List.getElem?_eq_getElem hlt', HXe.out]; exact hvx
          have Hc2 := Lib.hid hc2
          have Hvx := Lib.hid hvx2
          have hbw : b < w.heap.size := hbl
          have hxI : (x : Int) < (n : Int) := by omega
          have hx0 : (0 : Int) ≤ (x : Int) := by omega
          have hnc := HA.out.cap
          clear hD hX hX0 hsk hcell hc2 hvx hvx2 hy hbl
          go_upto_region 16 with fail
          clear hc hl1
          refine wp_region_still_tail 10 (by kernel_rfl) (by kernel_rfl) ?_
          change wpStill _ _ (World.drew wr) (fun a' => wpList _ _ _ _ a' (World.drew wr)) _ _
          generalize World.drew wr = wd at htd ⊢
          simp only [List.take_succ_cons, List.take_zero, List.drop_succ_cons, List.drop_zero]
          have hc := htd.from j hlt'
          rw [HXe.out] at hc
          have c0 := htd.sc.1
          have hc2 := (htd.bel.cell (p := ⟨b, o + x, none⟩) hbw).trans Hc2.out
          have hl := htd.size
          have hl0 : w.heap.size < wd.heap.size := by omega
          have hl1 : w.heap.size + 1 < wd.heap.size := by omega
          have hl3 : w.heap.size + 3 < wd.heap.size := by omega
          have fV := (blk_cells htd.kV j).2
          have hvj : (wd.cell? ⟨w.heap.size + 3, j, none⟩).isSome = true := by
            obtain ⟨q0, q1, q2, q3⟩ := htd.vc
            match j, hlt with
            | 0, _ => rw [q0]; rfl
            | 1, _ => rw [q1]; rfl
            | 2, _ => rw [q2]; rfl
            | 3, _ => rw [q3]; rfl
          obtain ⟨uo, huo⟩ := Option.isSome_iff_exists.1 hvj
          have hfin := htd.setV hlt y Hvx.out
          have Hfin := Lib.hid hfin
          clear hl hfin htd hvj
          repeat still_step
          refine wpStill_nil ?_
          go_wp2_with fail
          exact ⟨⟨j + 1, by omega, by simp, Hfin.out⟩, by simp only [intOf]; omega⟩
      · have e10 : decide ((j : Int) < 4) = false := by simp; omega
        have hj4 : j = 4 := by omega
        rw [hj4] at hD
        have hD : DoSt w rx n c S lx q lc K t0 t1 f0 f1 f2 f3 N (vvR R f0) (vvR R f1) (vvR R f2) (vvR R f3) wr := hD
        have hb0 := vvR_bd HA.out.bytes f0
        have hb1 := vvR_bd HA.out.bytes f1
        have hb2 := vvR_bd HA.out.bytes f2
        have hb3 := vvR_bd HA.out.bytes f3
        obtain ⟨v0, hv0⟩ : ∃ v, vvR R f0 = v := ⟨_, rfl⟩
        rw [hv0] at hD hb0
        have Hv0 := Lib.hid hv0
        clear hv0
        obtain ⟨v1, hv1⟩ : ∃ v, vvR R f1 = v := ⟨_, rfl⟩
        rw [hv1] at hD hb1
        have Hv1 := Lib.hid hv1
        clear hv1
        obtain ⟨v2, hv2⟩ : ∃ v, vvR R f2 = v := ⟨_, rfl⟩
        rw [hv2] at hD hb2
        have Hv2 := Lib.hid hv2
        clear hv2
        obtain ⟨v3, hv3⟩ : ∃ v, vvR R f3 = v := ⟨_, rfl⟩
        rw [hv3] at hD hb3
        have Hv3 := Lib.hid hv3
        clear hv3
        obtain ⟨a0, a1⟩ := hb0
        obtain ⟨b0, b1⟩ := hb1
        obtain ⟨c0, c1⟩ := hb2
        obtain ⟨d0, d1⟩ := hb3
        obtain ⟨y0, y1, y2, y3⟩ := hD.sc
        obtain ⟨x0, x1, x2, x3, x4, x5, x6, x7⟩ := hD.oc
        obtain ⟨r0, r1, r2, r3⟩ := hD.rc
        obtain ⟨p0, p1, p2, p3⟩ := hD.rf
        obtain ⟨q0, q1, q2, q3⟩ := hD.vc
        have hl := hD.size
        have hl0 : w.heap.size < wr.heap.size := by omega
        have hl1 : w.heap.size + 1 < wr.heap.size := by omega
        have hl2 : w.heap.size + 2 < wr.heap.size := by omega
        have hl3 : w.heap.size + 3 < wr.heap.size := by omega
        have HD := Lib.hid hD
        clear hD hj hlt hj4 hl
        obtain ⟨A, hA2⟩ : ∃ A, (S + N) % 4294967296 = A := ⟨_, rfl⟩
        have hAb0 : 0 ≤ A := by omega
        have hAb1 : A < 4294967296 := by omega
        have wu : IntKind.u64.wrap A = A := by rw [IntKind.wrap_u64]; omega
        go_upto_region 38 with fail
        go_wp2_with fail
        have hval := value_any kk t0 t1 f0 f1 f2 f3 N v0 v1 v2 v3 wr hk29 hN ⟨a0, a1⟩ ⟨b0, b1⟩ ⟨c0, c1⟩ ⟨d0, d1⟩
        rw [← HKK.out] at hval
        have hX := HX.out
        rw [Hv0.out, Hv1.out, Hv2.out, Hv3.out] at hX
        rw [← hX] at hval
        refine hval.mono ?_
        rintro e w5 ⟨rfl, hb5⟩
        have HDt := Lib.hid (HD.out.below hb5)
        have hR' := HR'.out
        rw [HT0.out, Int.toNat_natCast, HT1.out, Int.toNat_natCast] at hR'
        obtain ⟨LO, hm1⟩ : ∃ LO, X % 4294967296 = LO := ⟨_, rfl⟩
        obtain ⟨HI, hm2⟩ : ∃ HI, X / 4294967296 = HI := ⟨_, rfl⟩
        rw [hm1, hm2] at hR'
        have HW := Lib.hid hR'
        have hLO0 : 0 ≤ LO := by omega
        have hLO1 : LO < 4294967296 := by omega
        have hHI0 : 0 ≤ HI := by omega
        have hHI1 : HI < 4294967296 := by omega
        have hc1 : IntKind.u32.wrap LO = LO := by rw [IntKind.wrap_u32]; omega
        have hc2 : IntKind.u32.wrap HI = HI := by rw [IntKind.wrap_u32]; omega
        obtain ⟨wt, hwt⟩ : ∃ wt, wt = w5 := ⟨_, rfl⟩
        rw [← hwt] at HDt ⊢
        clear hwt hval hb5 hX hR' y0 y1 y2 y3 x0 x1 x2 x3 x4 x5 x6 x7 r0 r1 r2 r3 p0 p1 p2 p3 q0 q1 q2 q3 hl0 hl1 hl2 hl3
        go_upto_region 39 with fail
        have hnR := HA.out.len
        have hul : (uCells R).length = n * 1 := by simp [uCells, hnR]
        have HUL := Lib.hid hul
        have hx3 := (HA.out.row.below HDt.out.bel).news hnR
        have HX3 := Lib.hid hx3
        have hn100 := HA.out.small
        obtain ⟨y0, y1, y2, y3⟩ := HDt.out.sc
        have hl := HDt.out.size
        have hl0 : w.heap.size < wt.heap.size := by omega
        clear hul hx3 hnR hl
        go_wp2_with (at_builtin; refine wpList_append_uarg rfl (.tmp 161) (.tmp 163) 25 rfl wt.heap.size 22 i0 (.int .u32 0) 1 4 Try.underlying25 hi hz0 hz1 hz2 rfl (by decide) _ 0 [] rfl (World.ownsRow_nil _ _ _ _) rx n c (uCells R) rfl HUL.out HX3.out (u_all R) (by unfold maxLen; omega) (by omega) (by simp) ?_)
        intro v4 w4 hown4 hgrow4 hnil4
        obtain ⟨g, gc, rfl, hg, hcap, hU4⟩ : ∃ g gc, v4 = .slice (some ⟨g, 0, none⟩) n gc ∧ wt.heap.size ≤ g ∧ n ≤ gc ∧ URow w4 g R := by
          have hnR := HA.out.len
          rcases hown4.2 with ⟨h1, h2⟩ | ⟨g, cap, cur, rfl, hg, hh, hc, _⟩
          · omega
          · refine ⟨g, cap, by simp, hg, by omega, lt_of_block hh, fun i => by simp [World.frozen?, hh], fun j hj => ?_⟩
            rw [hown4.cellAt j (by omega)]
            simp [uCells, hj]
        have hD4 := HDt.out.below (below_none (by simpa [Value.ownBlock] using hgrow4))
        have hg3 : w.heap.size + 3 < g := by have := HDt.out.size; omega
        have hrl : ra < R.length := by rw [HA.out.len]; exact hr0
        have hc0 := hU4.2.2 ra hrl
        have hf0 := hU4.2.1 ra
        obtain ⟨uo, huo⟩ : ∃ uo, R[ra]'hrl = uo := ⟨_, rfl⟩
        rw [huo] at hc0
        have hU6 := hU4.set ra LO hrl
        have hD6 := hD4.past (setCell_grown w4 g ra (.int .u32 LO)) hg3
        have HU6 := Lib.hid hU6
        have HD6 := Lib.hid hD6
        obtain ⟨x0, x1, x2, x3, x4, x5, x6, x7⟩ := hD4.oc
        rw [HT0.out] at x1
        have hl := hD4.size
        have hl1 : w.heap.size + 1 < w4.heap.size := by omega
        have hr0I : (ra : Int) < (n : Int) := by omega
        have hr0p : (0 : Int) ≤ (ra : Int) := by omega
        have hgl : g < w4.heap.size := hU4.1
        clear hown4 hgrow4 hnil4 hU4 hD4 hU6 hD6 huo hl y0 y1 y2 y3 hl0
        go_upto_region 42 with fail
        generalize World.setCell w4 _ _ = w6 at HU6 HD6 ⊢
        clear hc0 hf0 x0 x1 x2 x3 x4 x5 x6 x7 hl1 hgl
        obtain ⟨x0, x1, x2, x3, x4, x5, x6, x7⟩ := HD6.out.oc
        rw [HT1.out] at x2
        have hl := HD6.out.size
        have hl1 : w.heap.size + 1 < w6.heap.size := by omega
        have hr1l : rb < (R.set ra LO).length := by rw [List.length_set, HA.out.len]; exact hr1
        have hc1 := HU6.out.2.2 rb hr1l
        have hf1 := HU6.out.2.1 rb
        obtain ⟨u1, hu1⟩ : ∃ uo, (R.set ra LO)[rb]'hr1l = uo := ⟨_, rfl⟩
        rw [hu1] at hc1
        have HU7 := Lib.hid (HU6.out.set rb HI hr1l)
        have HD7 := Lib.hid (HD6.out.past (setCell_grown w6 g rb (.int .u32 HI)) hg3)
        have hr1I : (rb : Int) < (n : Int) := by omega
        have hr1p : (0 : Int) ≤ (rb : Int) := by omega
        have hgl : g < w6.heap.size := HU6.out.1
        clear hl hu1
        go_upto_region 44 with fail
        generalize World.setCell w6 _ _ = w7 at HU7 HD7 ⊢
        clear hc1 hf1 x0 x1 x2 x3 x4 x5 x6 x7 hl1 hgl HU6 HD6
        obtain ⟨y0, y1, y2, y3⟩ := HD7.out.sc
        obtain ⟨r0', r1', r2', r3'⟩ := HD7.out.rc
        obtain ⟨p0, p1, p2, p3⟩ := HD7.out.rf
        have s0f := (blk_cells HD7.out.kS 0).2
        have hl := HD7.out.size
        have hl0 : w.heap.size < w7.heap.size := by omega
        have hl2 : w.heap.size + 2 < w7.heap.size := by omega
        have hne : ¬ (w.heap.size + 1 + 1 = w.heap.size) := by omega
        clear hl
        go_wp2_with fail
        obtain ⟨kM, gM⟩ := putR HD7.out.kS (.slice (some ⟨g, 0, none⟩) n gc)
        obtain ⟨kz, gz⟩ := putS ((gM.block _ hl2 (by simp)).trans HD7.out.kR) (.slice (some ⟨g, 0, none⟩) n gc) (.int .u32 S) (.slice none 0 0) (.slice lx q lc)
        have hb9 := below_grown_at (below_grown_at HD7.out.bel gM (Nat.le_refl _)) gz (by omega)
        have hU9 := (HU7.out.past gM (by omega)).past gz (by omega)
        generalize World.setCell _ _ _ = wz at kz hb9 hU9 ⊢
        have z0 := (blk_cells kz 0).1
        have z1 := (blk_cells kz 1).1
        have z2 := (blk_cells kz 2).1
        have z3 := (blk_cells kz 3).1
        refine ⟨rfl, .tuple #[refS (some ⟨g, 0, none⟩) n gc S lx q lc, .int .i64 0, .int .i64 0], ?_, ?_⟩
        · simp [results, Try.f11, go_sem, z0, z1, z2, z3, refS]
        · rw [HW.out]
          refine ⟨some ⟨g, 0, none⟩, n, gc, lx, q, lc, L, rfl, ⟨hU9.usl, by simp [HA.out.len], hcap, HA.out.small, fun y hy => ?_, HA.out.lrow.below hb9, HA.out.lcap, HA.out.inv⟩, by omega, hb9, .inr (fun b o e => by injection e with e; injection e with e; omega), .inl rfl⟩
          rcases List.mem_or_eq_of_mem_set hy with hy | rfl
          · rcases List.mem_or_eq_of_mem_set hy with hy | rfl
            · exact HA.out.bytes y hy
            · exact ⟨hLO0, hLO1⟩
          · exact ⟨hHI0, hHI1⟩
end Go.Proofs.Ytmkencdkglbpbaa
