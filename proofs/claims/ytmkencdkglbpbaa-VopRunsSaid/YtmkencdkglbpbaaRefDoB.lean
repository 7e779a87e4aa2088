/- The document's Do: traps. -/
import Derived.Test.YtmkencdkglbpbaaRefDoA
set_option maxRecDepth 100000
set_option linter.unusedVariables false
namespace Go.Proofs.Ytmkencdkglbpbaa
open Go.RowKit


theorem putSd {w : World} {b : Nat} {o0 o1 o2 o3 : Value} {t : TypeId} (kh : w.heap[b]? = some (.cells #[o0, o1, o2, o3] t (0, 0))) (a0 a1 a2 a3 : Value) :
    (((((w.setCell ⟨b, 0, none⟩ a0).setCell ⟨b, 1, none⟩ a1).setCell ⟨b, 2, none⟩ a2).setCell ⟨b, 3, none⟩ a3).drew).heap[b]? = some (.cells #[a0, a1, a2, a3] t (0, 0)) ∧ w.grownBy (((((w.setCell ⟨b, 0, none⟩ a0).setCell ⟨b, 1, none⟩ a1).setCell ⟨b, 2, none⟩ a2).setCell ⟨b, 3, none⟩ a3).drew) (some b) := by
  obtain ⟨h1, h2⟩ := putS kh a0 a1 a2 a3
  exact ⟨h1, h2.os, h2.tape, h2.output, h2.size, h2.block⟩
theorem far_put (w : World) (b a i : Nat) (v0 v1 v2 v3 : Value) (h : a ≠ b) : ((((w.setCell ⟨b, 0, none⟩ v0).setCell ⟨b, 1, none⟩ v1).setCell ⟨b, 2, none⟩ v2).setCell ⟨b, 3, none⟩ v3).drew.cell? ⟨a, i, none⟩ = w.cell? ⟨a, i, none⟩ := by
  have g : ∀ (u : World) (j : Nat) (v : Value), (u.setCell ⟨b, j, none⟩ v).cell? ⟨a, i, none⟩ = u.cell? ⟨a, i, none⟩ := fun u j v => World.cell?_setCell_other _ _ _ _ (by intro e; injection e with e; exact h (by first | exact e | exact e.symm))
  rw [World.cell?_drew, g, g, g, g]
/-- The words that are read, one by one. -/
def vAt (R F : List Int) (k i : Nat) : Int := if i < k then vvR R (F.getD i (-1)) else 0
theorem vAt_skip (R F : List Int) (j : Nat) (hj : j < F.length) : F[j] < 0 → ∀ i, vAt R F (j + 1) i = vAt R F j i := by
  intro h i
  unfold vAt
  by_cases h1 : i < j
  · rw [if_pos (by omega), if_pos h1]
  · by_cases h2 : i = j
    · subst h2
      rw [if_pos (by omega), if_neg (by omega), List.getD_eq_getElem?_getD, List.getElem?_eq_getElem hj]
      show vvR R F[i] = 0
      unfold vvR
      rw [if_neg (by omega)]
    · rw [if_neg (by omega), if_neg h1]
theorem DoSt.setV {w : World} {rx : Option Addr} {n c : Nat} {S : Int} {lx : Option Addr} {q lc : Nat} {K t0 t1 f0 f1 f2 f3 N : Int} {wr : World} {R F : List Int} {j : Nat} (h : DoSt w rx n c S lx q lc K t0 t1 f0 f1 f2 f3 N (vAt R F j 0) (vAt R F j 1) (vAt R F j 2) (vAt R F j 3) wr) (hj : j < 4) (y : Int) (hy : vvR R (F.getD j (-1)) = y) :
    DoSt w rx n c S lx q lc K t0 t1 f0 f1 f2 f3 N (vAt R F (j + 1) 0) (vAt R F (j + 1) 1) (vAt R F (j + 1) 2) (vAt R F (j + 1) 3) (wr.setCell ⟨w.heap.size + 3, j, none⟩ (.int .u32 y)) := by
  have g := setCell_grown wr (w.heap.size + 3) j (.int .u32 y)
  refine ⟨(g.block _ (lt_of_block h.kS) (by simp)).trans h.kS, (g.block _ (lt_of_block h.kO) (by simp)).trans h.kO, (g.block _ (lt_of_block h.kR) (by simp)).trans h.kR, ?_, below_grown_at h.bel g (by omega)⟩
  rw [setCell_heap h.kV j _]
  subst hy
  match j, hj with
  | 0, _ => rfl
  | 1, _ => rfl
  | 2, _ => rfl
  | 3, _ => rfl

set_option maxHeartbeats 4000000 in
theorem refDo_30 (rx : Option Addr) (n c : Nat) (R : List Int) (S : Int) (lx : Option Addr) (q lc : Nat) (L : List (Int × Int)) (m : Nat → Int) (K t0 t1 f0 f1 f2 f3 N : Int) (w : World) (hA : RefAt w rx n c R lx q lc L m) (hS : 0 ≤ S ∧ S < 4294967296) (hN : 0 ≤ N ∧ N < 4294967296) (hq : q ≤ 10000) (hf : ∀ j (hj : j < [f0, f1, f2, f3].length), -1 ≤ [f0, f1, f2, f3][j] ∧ [f0, f1, f2, f3][j] < n) (ht : ∀ j (hj : j < [t0, t1].length), -1 ≤ [t0, t1][j] ∧ [t0, t1][j] < n) (hK : K = 30) :
    Calls Try.prog 11 #[.agg #[.slice rx n c, .int .u32 S, .slice none 0 0, .slice lx q lc], .agg #[.int .i64 K, .int .i64 t0, .int .i64 t1, .int .i64 f0, .int .i64 f1, .int .i64 f2, .int .i64 f3, .int .u32 N]] w (RefPost w rx lx S q (truthV (decide (N ≤ vvR R f0))) 0 R m) := by
  have k30 : (K == 30) = true := by simpa using hK
  clear hK
  have HA := Lib.hid hA
  have Hfrom := Lib.hid hf
  have Hto := Lib.hid ht
  clear hA hf ht
  go_enter Try.func11, Try.ntmps11
  go_upto_region 2 with fail
  obtain ⟨hB4, kS, kO, kR, kV⟩ := alloc_four w (.cells #[.slice rx n c, .int .u32 S, .slice none 0 0, .slice lx q lc] 31) (.cells #[.int .i64 K, .int .i64 t0, .int .i64 t1, .int .i64 f0, .int .i64 f1, .int .i64 f2, .int .i64 f3, .int .u32 N] 50) (.cells #[.slice none 0 0, .int .u32 0, .slice none 0 0, .slice none 0 0] 31) (.cells #[.int .u32 0, .int .u32 0, .int .u32 0, .int .u32 0] 69)
  generalize (((w.alloc _).alloc _).alloc _).alloc _ = w4 at hB4 kS kO kR kV ⊢
  have HD4 : Hid (DoSt w rx n c S lx q lc K t0 t1 f0 f1 f2 f3 N 0 0 0 0 w4) := ⟨kS, kO, kR, kV, hB4⟩
  clear hB4 kS kO kR kV
  go_wp2_with fail
  go_loopw [8] (fun iv wr => ∃ j : Nat, j ≤ 4 ∧ iv = .int .i64 j ∧ DoSt w rx n c S lx q lc K t0 t1 f0 f1 f2 f3 N 0 0 0 0 wr) (fun iv _ => 4 - (intOf iv).toNat)
  case atStart => exact ⟨0, by omega, rfl, HD4.out⟩
  case round =>
  obtain ⟨j, hj, rfl, hD⟩ := hrel
  by_cases hlt : j < 4
  · have hlt' : j < [f0, f1, f2, f3].length := hlt
    have hc := hD.from j hlt'
    have hX := Hfrom.out j hlt'
    obtain ⟨X, hXe⟩ : ∃ X, [f0, f1, f2, f3][j]'hlt' = X := ⟨_, rfl⟩
    rw [hXe] at hc hX
    have HXe := Lib.hid hXe
    have c0 := hD.sc.1
    have wj : IntKind.i64.wrap ((j : Int) + 1) = (j : Int) + 1 := IntWalk.i64_in _ (by omega)
    have hjI : (j : Int) < 4 := by omega
    have hl := hD.size
    have hl0 : w.heap.size < wr.heap.size := by omega
    have hl1 : w.heap.size + 1 < wr.heap.size := by omega
    clear hXe hl
    have e1 : decide ((n : Int) ≤ X) = false := by simp; omega
    have HD := Lib.hid hD
    clear hD hX
    go_wp2_with fail
    go_quiet (fail)
    go_wp2_with fail
    exact ⟨⟨j + 1, by omega, by simp, HD.out.below (below_drewN (Below.refl _ _) nq)⟩, by simp only [intOf]; omega⟩
  · have e4 : decide ((j : Int) < 4) = false := by simp; omega
    have HD4 := Lib.hid hD
    clear hD hj hlt
    go_wp2_with fail
    go_loopw [9] (fun iv wr => ∃ j : Nat, j ≤ 2 ∧ iv = .int .i64 j ∧ DoSt w rx n c S lx q lc K t0 t1 f0 f1 f2 f3 N 0 0 0 0 wr) (fun iv _ => 2 - (intOf iv).toNat)
    case atStart => exact ⟨0, by omega, rfl, HD4.out⟩
    case round =>
    obtain ⟨j, hj, rfl, hD⟩ := hrel
    by_cases hlt : j < 2
    · have hlt' : j < [t0, t1].length := hlt
      have hc := hD.to j hlt'
      have hX := Hto.out j hlt'
      obtain ⟨X, hXe⟩ : ∃ X, [t0, t1][j]'hlt' = X := ⟨_, rfl⟩
      rw [hXe] at hc hX
      have HXe := Lib.hid hXe
      have c0 := hD.sc.1
      have wj : IntKind.i64.wrap ((j : Int) + 1) = (j : Int) + 1 := IntWalk.i64_in _ (by omega)
      have hjI : (j : Int) < 2 := by omega
      have hl := hD.size
      have hl0 : w.heap.size < wr.heap.size := by omega
      have hl1 : w.heap.size + 1 < wr.heap.size := by omega
      clear hXe hl
      have e1 : decide ((n : Int) ≤ X) = false := by simp; omega
      have HD := Lib.hid hD
      clear hD hX
      go_wp2_with fail
      go_quiet (fail)
      go_wp2_with fail
      exact ⟨⟨j + 1, by omega, by simp, HD.out.below (below_drewN (Below.refl _ _) nq)⟩, by simp only [intOf]; omega⟩
    · have e2 : decide ((j : Int) < 2) = false := by simp; omega
      have HD4 := Lib.hid (show DoSt w rx n c S lx q lc K t0 t1 f0 f1 f2 f3 N (vAt R [f0, f1, f2, f3] 0 0) (vAt R [f0, f1, f2, f3] 0 1) (vAt R [f0, f1, f2, f3] 0 2) (vAt R [f0, f1, f2, f3] 0 3) wr from hD)
      clear hD hj hlt
      go_wp2_with fail
      go_loopw [10] (fun iv wr => ∃ j : Nat, j ≤ 4 ∧ iv = .int .i64 j ∧ DoSt w rx n c S lx q lc K t0 t1 f0 f1 f2 f3 N (vAt R [f0, f1, f2, f3] j 0) (vAt R [f0, f1, f2, f3] j 1) (vAt R [f0, f1, f2, f3] j 2) (vAt R [f0, f1, f2, f3] j 3) wr) (fun iv _ => 4 - (intOf iv).toNat)
      case atStart => exact ⟨0, by omega, rfl, HD4.out⟩
      case round =>
      obtain ⟨j, hj, rfl, hD⟩ := hrel
      by_cases hlt : j < 4
      · have hlt' : j < [f0, f1, f2, f3].length := hlt
        have hc := hD.from j hlt'
        have hX := Hfrom.out j hlt'
        have hsk := vAt_skip R [f0, f1, f2, f3] j hlt'
        have hst := hD.setV hlt
        obtain ⟨X, hXe⟩ : ∃ X, [f0, f1, f2, f3][j]'hlt' = X := ⟨_, rfl⟩
        rw [hXe] at hc hX hsk
        have HXe := Lib.hid hXe
        have wj : IntKind.i64.wrap ((j : Int) + 1) = (j : Int) + 1 := IntWalk.i64_in _ (by omega)
        have hjI : (j : Int) < 4 := by omega
        have hl := hD.size
        have hl1 : w.heap.size + 1 < wr.heap.size := by omega
        clear hXe hl hst
        by_cases hX0 : X < 0
        · have e1 : decide (0 ≤ X) = false := by simp; omega
          have Hsk := Lib.hid (hsk hX0)
          have HD := Lib.hid hD
          clear hD hX hX0 hsk
          go_wp2_with fail
          exact ⟨⟨j + 1, by omega, by simp, by rw [Hsk.out 0, Hsk.out 1, Hsk.out 2, Hsk.out 3]; exact HD.out⟩, by simp only [intOf]; omega⟩
        · have e1 : decide (0 ≤ X) = true := by simp; omega
          obtain ⟨x, rfl⟩ := Int.eq_ofNat_of_zero_le (show 0 ≤ X by omega)
          have hxn : x < n := by omega
          have hxl : x < R.length := by have := HA.out.len; omega
          obtain ⟨b, o, rfl, hbl, hcell⟩ := HA.out.row.resolve_left (by omega)
          have htd := hD.below ((Below.refl _ wr).drew)
          have hc2 := hcell x hxl
          obtain ⟨y, hy⟩ : ∃ y, R[x]'hxl = y := ⟨_, rfl⟩
          rw [hy] at hc2
          have hvx : vvR R ((x : Nat) : Int) = y := by
            unfold vvR
            rw [if_pos (by omega), Int.toNat_natCast, List.getD_eq_getElem?_getD, List.getElem?_eq_getElem hxl, hy]; rfl
          have hvx2 : vvR R ([f0, f1, f2, f3].getD j (-1)) = y := by
            rw [List.getD_eq_getElem?_getD, List.getElem?_eq_getElem hlt', HXe.out]; exact hvx
          have Hc2 := Lib.hid hc2
          have Hvx := Lib.hid hvx2
          have hbw : b < w.heap.size := hbl
          have hxI : (x : Int) < (n : Int) := by omega
          have hx0 : (0 : Int) ≤ (x : Int) := by omega
          have hnc := HA.out.cap
          clear hD hX hX0 hsk hcell hc2 hvx hvx2 hy hbl
          go_upto_region 16 with fail
          clear hc hl1
          refine wp_region_still_tail 10 (by kernel_rfl) (by kernel_rfl) ?_
          change wpStill _ _ (World.drew wr) (fun a' => wpList _ _ _ _ a' (World.drew wr)) _ _
          generalize World.drew wr = wd at htd ⊢
          simp only [List.take_succ_cons, List.take_zero, List.drop_succ_cons, List.drop_zero]
          have hc := htd.from j hlt'
          rw [HXe.out] at hc
          have c0 := htd.sc.1
          have hc2 := (htd.bel.cell (p := ⟨b, o + x, none⟩) hbw).trans Hc2.out
          have hl := htd.size
          have hl0 : w.heap.size < wd.heap.size := by omega
          have hl1 : w.heap.size + 1 < wd.heap.size := by omega
          have hl3 : w.heap.size + 3 < wd.heap.size := by omega
          have fV := (blk_cells htd.kV j).2
          have hvj : (wd.cell? ⟨w.heap.size + 3, j, none⟩).isSome = true := by
            obtain ⟨q0, q1, q2, q3⟩ := htd.vc
            match j, hlt with
            | 0, _ => rw [q0]; rfl
            | 1, _ => rw [q1]; rfl
            | 2, _ => rw [q2]; rfl
            | 3, _ => rw [q3]; rfl
          obtain ⟨uo, huo⟩ := Option.isSome_iff_exists.1 hvj
          have hfin := htd.setV hlt y Hvx.out
          have Hfin := Lib.hid hfin
          clear hl hfin htd hvj
          repeat still_step
          refine wpStill_nil ?_
          go_wp2_with fail
          exact ⟨⟨j + 1, by omega, by simp, Hfin.out⟩, by simp only [intOf]; omega⟩
      · have e10 : decide ((j : Int) < 4) = false := by simp; omega
        have hj4 : j = 4 := by omega
        rw [hj4] at hD
        have hD : DoSt w rx n c S lx q lc K t0 t1 f0 f1 f2 f3 N (vvR R f0) (vvR R f1) (vvR R f2) (vvR R f3) wr := hD
        have hb0 := vvR_bd HA.out.bytes f0
        have hb1 := vvR_bd HA.out.bytes f1
        have hb2 := vvR_bd HA.out.bytes f2
        have hb3 := vvR_bd HA.out.bytes f3
        obtain ⟨v0, hv0⟩ : ∃ v, vvR R f0 = v := ⟨_, rfl⟩
        rw [hv0] at hD hb0
        have Hv0 := Lib.hid hv0
        clear hv0
        obtain ⟨v1, hv1⟩ : ∃ v, vvR R f1 = v := ⟨_, rfl⟩
        rw [hv1] at hD hb1
        have Hv1 := Lib.hid hv1
        clear hv1
        obtain ⟨v2, hv2⟩ : ∃ v, vvR R f2 = v := ⟨_, rfl⟩
        rw [hv2] at hD hb2
        have Hv2 := Lib.hid hv2
        clear hv2
        obtain ⟨v3, hv3⟩ : ∃ v, vvR R f3 = v := ⟨_, rfl⟩
        rw [hv3] at hD hb3
        have Hv3 := Lib.hid hv3
        clear hv3
        obtain ⟨a0, a1⟩ := hb0
        obtain ⟨b0, b1⟩ := hb1
        obtain ⟨c0, c1⟩ := hb2
        obtain ⟨d0, d1⟩ := hb3
        obtain ⟨y0, y1, y2, y3⟩ := hD.sc
        obtain ⟨x0, x1, x2, x3, x4, x5, x6, x7⟩ := hD.oc
        obtain ⟨r0, r1, r2, r3⟩ := hD.rc
        obtain ⟨p0, p1, p2, p3⟩ := hD.rf
        obtain ⟨q0, q1, q2, q3⟩ := hD.vc
        have hl := hD.size
        have hl0 : w.heap.size < wr.heap.size := by omega
        have hl1 : w.heap.size + 1 < wr.heap.size := by omega
        have hl2 : w.heap.size + 2 < wr.heap.size := by omega
        have hl3 : w.heap.size + 3 < wr.heap.size := by omega
        have HD := Lib.hid hD
        clear hD hj hlt hj4 hl
        go_upto_region 18 with fail
        have hne : ¬ (w.heap.size + 1 + 1 = w.heap.size) := by omega
        have hbd := truthV_bd (decide (N ≤ v0))
        have wt : IntKind.i64.wrap (truthV (decide (N ≤ v0))) = truthV (decide (N ≤ v0)) := IntWalk.i64_in _ (by omega)
        clear hbd
        go_region_held3 (fun w' => w'.cell? ⟨w.heap.size, 0, none⟩ = some (.slice rx n c) ∧ w'.cell? ⟨w.heap.size, 1, none⟩ = some (.int .u32 S) ∧ w'.cell? ⟨w.heap.size, 2, none⟩ = some (.slice none 0 0) ∧ w'.cell? ⟨w.heap.size, 3, none⟩ = some (.slice lx q lc) ∧ w'.cell? ⟨w.heap.size + 1, 7, none⟩ = some (.int .u32 N) ∧ w'.cell? ⟨w.heap.size + 3, 0, none⟩ = some (.int .u32 v0))
          (go_keep)
          (first | (go_at_call 26; refine (refBool_any _ _).mono ?_; rintro e w' ⟨rfl, rfl⟩))
        go_wp2_with fail
        obtain ⟨kz, gz⟩ := putSd HD.out.kR (.slice rx n c) (.int .u32 S) (.slice none 0 0) (.slice lx q lc)
        have hpost := fun tr er => HD.out.same HA.out gz tr er
        generalize World.drew _ = wz at kz hpost ⊢
        have z0 := (blk_cells kz 0).1
        have z1 := (blk_cells kz 1).1
        have z2 := (blk_cells kz 2).1
        have z3 := (blk_cells kz 3).1
        refine ⟨rfl, .tuple #[refS rx n c S lx q lc, .int .i64 (truthV (decide (N ≤ v0))), .int .i64 0], ?_, by rw [Hv0.out]; exact hpost _ 0⟩
        simp [results, Try.f11, go_sem, z0, z1, z2, z3, refS]

set_option maxHeartbeats 4000000 in
theorem refDo_31 (rx : Option Addr) (n c : Nat) (R : List Int) (S : Int) (lx : Option Addr) (q lc : Nat) (L : List (Int × Int)) (m : Nat → Int) (K t0 t1 f0 f1 f2 f3 N : Int) (w : World) (hA : RefAt w rx n c R lx q lc L m) (hS : 0 ≤ S ∧ S < 4294967296) (hN : 0 ≤ N ∧ N < 4294967296) (hq : q ≤ 10000) (hf : ∀ j (hj : j < [f0, f1, f2, f3].length), -1 ≤ [f0, f1, f2, f3][j] ∧ [f0, f1, f2, f3][j] < n) (ht : ∀ j (hj : j < [t0, t1].length), -1 ≤ [t0, t1][j] ∧ [t0, t1][j] < n) (hK : K = 31) :
    Calls Try.prog 11 #[.agg #[.slice rx n c, .int .u32 S, .slice none 0 0, .slice lx q lc], .agg #[.int .i64 K, .int .i64 t0, .int .i64 t1, .int .i64 f0, .int .i64 f1, .int .i64 f2, .int .i64 f3, .int .u32 N]] w (RefPost w rx lx S q (2 * truthV (vvR R f0 == 0)) 0 R m) := by
  have k30 : (K == 30) = false := by simp; omega
  have k31 : (K == 31) = true := by simpa using hK
  clear hK
  have HA := Lib.hid hA
  have Hfrom := Lib.hid hf
  have Hto := Lib.hid ht
  clear hA hf ht
  go_enter Try.func11, Try.ntmps11
  go_upto_region 2 with fail
  obtain ⟨hB4, kS, kO, kR, kV⟩ := alloc_four w (.cells #[.slice rx n c, .int .u32 S, .slice none 0 0, .slice lx q lc] 31) (.cells #[.int .i64 K, .int .i64 t0, .int .i64 t1, .int .i64 f0, .int .i64 f1, .int .i64 f2, .int .i64 f3, .int .u32 N] 50) (.cells #[.slice none 0 0, .int .u32 0, .slice none 0 0, .slice none 0 0] 31) (.cells #[.int .u32 0, .int .u32 0, .int .u32 0, .int .u32 0] 69)
  generalize (((w.alloc _).alloc _).alloc _).alloc _ = w4 at hB4 kS kO kR kV ⊢
  have HD4 : Hid (DoSt w rx n c S lx q lc K t0 t1 f0 f1 f2 f3 N 0 0 0 0 w4) := ⟨kS, kO, kR, kV, hB4⟩
  clear hB4 kS kO kR kV
  go_wp2_with fail
  go_loopw [8] (fun iv wr => ∃ j : Nat, j ≤ 4 ∧ iv = .int .i64 j ∧ DoSt w rx n c S lx q lc K t0 t1 f0 f1 f2 f3 N 0 0 0 0 wr) (fun iv _ => 4 - (intOf iv).toNat)
  case atStart => exact ⟨0, by omega, rfl, HD4.out⟩
  case round =>
  obtain ⟨j, hj, rfl, hD⟩ := hrel
  by_cases hlt : j < 4
  · have hlt' : j < [f0, f1, f2, f3].length := hlt
    have hc := hD.from j hlt'
    have hX := Hfrom.out j hlt'
    obtain ⟨X, hXe⟩ : ∃ X, [f0, f1, f2, f3][j]'hlt' = X := ⟨_, rfl⟩
    rw [hXe] at hc hX
    have HXe := Lib.hid hXe
    have c0 := hD.sc.1
    have wj : IntKind.i64.wrap ((j : Int) + 1) = (j : Int) + 1 := IntWalk.i64_in _ (by omega)
    have hjI : (j : Int) < 4 := by omega
    have hl := hD.size
    have hl0 : w.heap.size < wr.heap.size := by omega
    have hl1 : w.heap.size + 1 < wr.heap.size := by omega
    clear hXe hl
    have e1 : decide ((n : Int) ≤ X) = false := by simp; omega
    have HD := Lib.hid hD
    clear hD hX
    go_wp2_with fail
    go_quiet (fail)
    go_wp2_with fail
    exact ⟨⟨j + 1, by omega, by simp, HD.out.below (below_drewN (Below.refl _ _) nq)⟩, by simp only [intOf]; omega⟩
  · have e4 : decide ((j : Int) < 4) = false := by simp; omega
    have HD4 := Lib.hid hD
    clear hD hj hlt
    go_wp2_with fail
    go_loopw [9] (fun iv wr => ∃ j : Nat, j ≤ 2 ∧ iv = .int .i64 j ∧ DoSt w rx n c S lx q lc K t0 t1 f0 f1 f2 f3 N 0 0 0 0 wr) (fun iv _ => 2 - (intOf iv).toNat)
    case atStart => exact ⟨0, by omega, rfl, HD4.out⟩
    case round =>
    obtain ⟨j, hj, rfl, hD⟩ := hrel
    by_cases hlt : j < 2
    · have hlt' : j < [t0, t1].length := hlt
      have hc := hD.to j hlt'
      have hX := Hto.out j hlt'
      obtain ⟨X, hXe⟩ : ∃ X, [t0, t1][j]'hlt' = X := ⟨_, rfl⟩
      rw [hXe] at hc hX
      have HXe := Lib.hid hXe
      have c0 := hD.sc.1
      have wj : IntKind.i64.wrap ((j : Int) + 1) = (j : Int) + 1 := IntWalk.i64_in _ (by omega)
      have hjI : (j : Int) < 2 := by omega
      have hl := hD.size
      have hl0 : w.heap.size < wr.heap.size := by omega
      have hl1 : w.heap.size + 1 < wr.heap.size := by omega
      clear hXe hl
      have e1 : decide ((n : Int) ≤ X) = false := by simp; omega
      have HD := Lib.hid hD
      clear hD hX
      go_wp2_with fail
      go_quiet (fail)
      go_wp2_with fail
      exact ⟨⟨j + 1, by omega, by simp, HD.out.below (below_drewN (Below.refl _ _) nq)⟩, by simp only [intOf]; omega⟩
    · have e2 : decide ((j : Int) < 2) = false := by simp; omega
      have HD4 := Lib.hid (show DoSt w rx n c S lx q lc K t0 t1 f0 f1 f2 f3 N (vAt R [f0, f1, f2, f3] 0 0) (vAt R [f0, f1, f2, f3] 0 1) (vAt R [f0, f1, f2, f3] 0 2) (vAt R [f0, f1, f2, f3] 0 3) wr from hD)
      clear hD hj hlt
      go_wp2_with fail
      go_loopw [10] (fun iv wr => ∃ j : Nat, j ≤ 4 ∧ iv = .int .i64 j ∧ DoSt w rx n c S lx q lc K t0 t1 f0 f1 f2 f3 N (vAt R [f0, f1, f2, f3] j 0) (vAt R [f0, f1, f2, f3] j 1) (vAt R [f0, f1, f2, f3] j 2) (vAt R [f0, f1, f2, f3] j 3) wr) (fun iv _ => 4 - (intOf iv).toNat)
      case atStart => exact ⟨0, by omega, rfl, HD4.out⟩
      case round =>
      obtain ⟨j, hj, rfl, hD⟩ := hrel
      by_cases hlt : j < 4
      · have hlt' : j < [f0, f1, f2, f3].length := hlt
        have hc := hD.from j hlt'
        have hX := Hfrom.out j hlt'
        have hsk := vAt_skip R [f0, f1, f2, f3] j hlt'
        have hst := hD.setV hlt
        obtain ⟨X, hXe⟩ : ∃ X, [f0, f1, f2, f3][j]'hlt' = X := ⟨_, rfl⟩
        rw [hXe] at hc hX hsk
        have HXe := Lib.hid hXe
        have wj : IntKind.i64.wrap ((j : Int) + 1) = (j : Int) + 1 := IntWalk.i64_in _ (by omega)
        have hjI : (j : Int) < 4 := by omega
        have hl := hD.size
        have hl1 : w.heap.size + 1 < wr.heap.size := by omega
        clear hXe hl hst
        by_cases hX0 : X < 0
        · have e1 : decide (0 ≤ X) = false := by simp; omega
          have Hsk := Lib.hid (hsk hX0)
          have HD := Lib.hid hD
          clear hD hX hX0 hsk
          go_wp2_with fail
          exact ⟨⟨j + 1, by omega, by simp, by rw [Hsk.out 0, Hsk.out 1, Hsk.out 2, Hsk.out 3]; exact HD.out⟩, by simp only [intOf]; omega⟩
        · have e1 : decide (0 ≤ X) = true := by simp; omega
          obtain ⟨x, rfl⟩ := Int.eq_ofNat_of_zero_le (show 0 ≤ X by omega)
          have hxn : x < n := by omega
          have hxl : x < R.length := by have := HA.out.len; omega
          obtain ⟨b, o, rfl, hbl, hcell⟩ := HA.out.row.resolve_left (by omega)
          have htd := hD.below ((Below.refl _ wr).drew)
          have hc2 := hcell x hxl
          obtain ⟨y, hy⟩ : ∃ y, R[x]'hxl = y := ⟨_, rfl⟩
          rw [hy] at hc2
          have hvx : vvR R ((x : Nat) : Int) = y := by
            unfold vvR
            rw [if_pos (by omega), Int.toNat_natCast, List.getD_eq_getElem?_getD, List.getElem?_eq_getElem hxl, hy]; rfl
          have hvx2 : vvR R ([f0, f1, f2, f3].getD j (-1)) = y := by
            rw [List.getD_eq_getElem?_getD, List.getElem?_eq_getElem hlt', HXe.out]; exact hvx
          have Hc2 := Lib.hid hc2
          have Hvx := Lib.hid hvx2
          have hbw : b < w.heap.size := hbl
          have hxI : (x : Int) < (n : Int) := by omega
          have hx0 : (0 : Int) ≤ (x : Int) := by omega
          have hnc := HA.out.cap
          clear hD hX hX0 hsk hcell hc2 hvx hvx2 hy hbl
          go_upto_region 16 with fail
          clear hc hl1
          refine wp_region_still_tail 10 (by kernel_rfl) (by kernel_rfl) ?_
          change wpStill _ _ (World.drew wr) (fun a' => wpList _ _ _ _ a' (World.drew wr)) _ _
          generalize World.drew wr = wd at htd ⊢
          simp only [List.take_succ_cons, List.take_zero, List.drop_succ_cons, List.drop_zero]
          have hc := htd.from j hlt'
          rw [HXe.out] at hc
          have c0 := htd.sc.1
          have hc2 := (htd.bel.cell (p := ⟨b, o + x, none⟩) hbw).trans Hc2.out
          have hl := htd.size
          have hl0 : w.heap.size < wd.heap.size := by omega
          have hl1 : w.heap.size + 1 < wd.heap.size := by omega
          have hl3 : w.heap.size + 3 < wd.heap.size := by omega
          have fV := (blk_cells htd.kV j).2
          have hvj : (wd.cell? ⟨w.heap.size + 3, j, none⟩).isSome = true := by
            obtain ⟨q0, q1, q2, q3⟩ := htd.vc
            match j, hlt with
            | 0, _ => rw [q0]; rfl
            | 1, _ => rw [q1]; rfl
            | 2, _ => rw [q2]; rfl
            | 3, _ => rw [q3]; rfl
          obtain ⟨uo, huo⟩ := Option.isSome_iff_exists.1 hvj
          have hfin := htd.setV hlt y Hvx.out
          have Hfin := Lib.hid hfin
          clear hl hfin htd hvj
          repeat still_step
          refine wpStill_nil ?_
          go_wp2_with fail
          exact ⟨⟨j + 1, by omega, by simp, Hfin.out⟩, by simp only [intOf]; omega⟩
      · have e10 : decide ((j : Int) < 4) = false := by simp; omega
        have hj4 : j = 4 := by omega
        rw [hj4] at hD
        have hD : DoSt w rx n c S lx q lc K t0 t1 f0 f1 f2 f3 N (vvR R f0) (vvR R f1) (vvR R f2) (vvR R f3) wr := hD
        have hb0 := vvR_bd HA.out.bytes f0
        have hb1 := vvR_bd HA.out.bytes f1
        have hb2 := vvR_bd HA.out.bytes f2
        have hb3 := vvR_bd HA.out.bytes f3
        obtain ⟨v0, hv0⟩ : ∃ v, vvR R f0 = v := ⟨_, rfl⟩
        rw [hv0] at hD hb0
        have Hv0 := Lib.hid hv0
        clear hv0
        obtain ⟨v1, hv1⟩ : ∃ v, vvR R f1 = v := ⟨_, rfl⟩
        rw [hv1] at hD hb1
        have Hv1 := Lib.hid hv1
        clear hv1
        obtain ⟨v2, hv2⟩ : ∃ v, vvR R f2 = v := ⟨_, rfl⟩
        rw [hv2] at hD hb2
        have Hv2 := Lib.hid hv2
        clear hv2
        obtain ⟨v3, hv3⟩ : ∃ v, vvR R f3 = v := ⟨_, rfl⟩
        rw [hv3] at hD hb3
        have Hv3 := Lib.hid hv3
        clear hv3
        obtain ⟨a0, a1⟩ := hb0
        obtain ⟨b0, b1⟩ := hb1
        obtain ⟨c0, c1⟩ := hb2
        obtain ⟨d0, d1⟩ := hb3
        obtain ⟨y0, y1, y2, y3⟩ := hD.sc
        obtain ⟨x0, x1, x2, x3, x4, x5, x6, x7⟩ := hD.oc
        obtain ⟨r0, r1, r2, r3⟩ := hD.rc
        obtain ⟨p0, p1, p2, p3⟩ := hD.rf
        obtain ⟨q0, q1, q2, q3⟩ := hD.vc
        have hl := hD.size
        have hl0 : w.heap.size < wr.heap.size := by omega
        have hl1 : w.heap.size + 1 < wr.heap.size := by omega
        have hl2 : w.heap.size + 2 < wr.heap.size := by omega
        have hl3 : w.heap.size + 3 < wr.heap.size := by omega
        have HD := Lib.hid hD
        clear hD hj hlt hj4 hl
        go_upto_region 20 with fail
        have hne : ¬ (w.heap.size + 1 + 1 = w.heap.size) := by omega
        have hbd := truthV_bd (v0 == 0)
        have wt : IntKind.i64.wrap (truthV (v0 == 0)) = truthV (v0 == 0) := IntWalk.i64_in _ (by omega)
        have wt2 : IntKind.i64.wrap (2 * truthV (v0 == 0)) = 2 * truthV (v0 == 0) := IntWalk.i64_in _ (by omega)
        clear hbd
        go_region_held3 (fun w' => w'.cell? ⟨w.heap.size, 0, none⟩ = some (.slice rx n c) ∧ w'.cell? ⟨w.heap.size, 1, none⟩ = some (.int .u32 S) ∧ w'.cell? ⟨w.heap.size, 2, none⟩ = some (.slice none 0 0) ∧ w'.cell? ⟨w.heap.size, 3, none⟩ = some (.slice lx q lc) ∧ w'.cell? ⟨w.heap.size + 3, 0, none⟩ = some (.int .u32 v0))
          (go_keep)
          (first | (go_at_call 26; refine (refBool_any _ _).mono ?_; rintro e w' ⟨rfl, rfl⟩))
        go_wp2_with fail
        obtain ⟨kz, gz⟩ := putSd HD.out.kR (.slice rx n c) (.int .u32 S) (.slice none 0 0) (.slice lx q lc)
        have hpost := fun tr er => HD.out.same HA.out gz tr er
        generalize World.drew _ = wz at kz hpost ⊢
        have z0 := (blk_cells kz 0).1
        have z1 := (blk_cells kz 1).1
        have z2 := (blk_cells kz 2).1
        have z3 := (blk_cells kz 3).1
        refine ⟨rfl, .tuple #[refS rx n c S lx q lc, .int .i64 (2 * truthV (v0 == 0)), .int .i64 0], ?_, by rw [Hv0.out]; exact hpost _ 0⟩
        simp [results, Try.f11, go_sem, z0, z1, z2, z3, refS]
end Go.Proofs.Ytmkencdkglbpbaa
