/- vop: Do of kinds of pairs; write of any. -/
import Derived.Test.YtmkencdkglbpbaaDoorVopK
set_option maxRecDepth 100000
set_option linter.unusedVariables false
namespace Go.Proofs.YtmkencdkglbpbaaDoor
open Go.RowKit

/-- A register that is there. -/
def At (R : List Int) (t : Int) : Prop := 0 ≤ t ∧ t < (R.length : Int)
/-- The registers behind a write. -/
def wroteV (R : List Int) (t0 t1 lo hi : Int) : List Int := if t1 = -1 then R.set t0.toNat lo else (R.set t0.toNat lo).set t1.toNat hi

theorem write_any (sb rb rc mb : Nat) (S : Int) (R : List Int) (K t0 t1 f0 f1 f2 f3 N lo hi : Int) (w : World) (hR : RegAt w sb rb rc mb S R) (h0 : At R t0) (h1 : t1 = -1 ∨ At R t1 ∧ t0 ≠ t1) (hlo : 0 ≤ lo ∧ lo < 4294967296) (hhi : 0 ≤ hi ∧ hi < 4294967296) :
    Calls Tryd.prog 49 #[.pointer (some ⟨sb, 0, none⟩), opV K t0 t1 f0 f1 f2 f3 N, .int .u32 lo, .int .u32 hi] w fun e w' => e = .returned (.tuple #[]) ∧ RegAt w' sb rb rc mb S (wroteV R t0 t1 lo hi) ∧ w.grownBy w' (some rb) := by
  obtain ⟨r0, rfl⟩ := Int.eq_ofNat_of_zero_le h0.1
  have l0 : r0 < R.length := by have := h0.2; omega
  rcases h1 with rfl | ⟨h1, hne⟩
  · exact write_one sb rb rc mb S R K f0 f1 f2 f3 N lo hi r0 w hR l0 hlo
  · obtain ⟨r1, rfl⟩ := Int.eq_ofNat_of_zero_le h1.1
    have l1 : r1 < R.length := by have := h1.2; omega
    have hx : ¬ ((r1 : Int) = -1) := by omega
    simp only [wroteV, hx, if_false]
    exact write_two sb rb rc mb S R K f0 f1 f2 f3 N lo hi r0 r1 w hR l0 l1 (by omega) hlo hhi

/-- An operation in memory. -/
def OpAt (w : World) (b : Nat) (K t0 t1 f0 f1 f2 f3 N : Int) : Prop := w.heap[b]? = some (.cells #[.int .i64 K, .int .i64 t0, .int .i64 t1, .int .i64 f0, .int .i64 f1, .int .i64 f2, .int .i64 f3, .int .u32 N] 37 (0, 0))
theorem OpAt.cells {w : World} {b : Nat} {K t0 t1 f0 f1 f2 f3 N : Int} (h : OpAt w b K t0 t1 f0 f1 f2 f3 N) :
    w.cell? ⟨b, 0, none⟩ = some (.int .i64 K) ∧ w.cell? ⟨b, 1, none⟩ = some (.int .i64 t0) ∧ w.cell? ⟨b, 2, none⟩ = some (.int .i64 t1) ∧ w.cell? ⟨b, 3, none⟩ = some (.int .i64 f0) ∧ w.cell? ⟨b, 4, none⟩ = some (.int .i64 f1) ∧ w.cell? ⟨b, 5, none⟩ = some (.int .i64 f2) ∧ w.cell? ⟨b, 6, none⟩ = some (.int .i64 f3) ∧ w.cell? ⟨b, 7, none⟩ = some (.int .u32 N) := by
  unfold OpAt at h
  refine ⟨?_, ?_, ?_, ?_, ?_, ?_, ?_, ?_⟩ <;> (simp only [World.cell?, h]; rfl)
theorem OpAt.below {w w' : World} {b : Nat} {K t0 t1 f0 f1 f2 f3 N : Int} (h : OpAt w b K t0 t1 f0 f1 f2 f3 N) (hb : Below w.heap.size w w') : OpAt w' b K t0 t1 f0 f1 f2 f3 N :=
  (hb.block _ (lt_of_block h)).trans h
theorem opAt_new (w : World) (K t0 t1 f0 f1 f2 f3 N : Int) : OpAt (w.alloc (.cells #[.int .i64 K, .int .i64 t0, .int .i64 t1, .int .i64 f0, .int .i64 f1, .int .i64 f2, .int .i64 f3, .int .u32 N] 37)) w.heap.size K t0 t1 f0 f1 f2 f3 N := heap_alloc_new _ _

theorem trap_wrap (b : Bool) : wrap64 (wrap64 (truthV b)) = truthV b ∧ wrap64 (2 * wrap64 (truthV b)) = 2 * truthV b := by cases b <;> constructor <;> kernel_rfl
/-- Four words in memory. -/
def VAt (w : World) (b : Nat) (a0 a1 a2 a3 : Int) : Prop := w.heap[b]? = some (.cells #[.int .u32 a0, .int .u32 a1, .int .u32 a2, .int .u32 a3] 97 (0, 0))
theorem VAt.cells {w : World} {b : Nat} {a0 a1 a2 a3 : Int} (h : VAt w b a0 a1 a2 a3) :
    w.cell? ⟨b, 0, none⟩ = some (.int .u32 a0) ∧ w.cell? ⟨b, 1, none⟩ = some (.int .u32 a1) ∧ w.cell? ⟨b, 2, none⟩ = some (.int .u32 a2) ∧ w.cell? ⟨b, 3, none⟩ = some (.int .u32 a3) := by
  unfold VAt at h
  refine ⟨?_, ?_, ?_, ?_⟩ <;> (simp only [World.cell?, h]; rfl)
theorem VAt.below {w w' : World} {b : Nat} {a0 a1 a2 a3 : Int} (h : VAt w b a0 a1 a2 a3) (hb : Below w.heap.size w w') : VAt w' b a0 a1 a2 a3 :=
  (hb.block _ (lt_of_block h)).trans h
theorem vAt_new (w : World) (a0 a1 a2 a3 : Int) : VAt (w.alloc (.cells #[.int .u32 a0, .int .u32 a1, .int .u32 a2, .int .u32 a3] 97)) w.heap.size a0 a1 a2 a3 := heap_alloc_new _ _

theorem grown_below {w w1 w2 : World} {r : Option Nat} (hb : Below w.heap.size w w1) (h : w1.grownBy w2 r) : w.grownBy w2 r :=
  grown_trans ⟨hb.os, hb.tape, hb.output, hb.size, fun i hi _ => hb.block i hi⟩ h

set_option maxHeartbeats 2000000 in
theorem do_far (sb rb rc mb : Nat) (S : Int) (R : List Int) (K t0 t1 f0 f1 f2 f3 N : Int) (w : World) (hR : RegAt w sb rb rc mb S R) (hno : ((regsOf [f0, f1, f2, f3] ++ regsOf [t0, t1]).all fun x => decide (x < R.length)) = false) :
    Calls Tryd.prog 22 #[.pointer (some ⟨sb, 0, none⟩), opV K t0 t1 f0 f1 f2 f3 N] w fun e w' => e = .returned (.tuple #[.int .i64 0, .int .i64 11]) ∧ Below w.heap.size w w' := by
  have HR := Lib.hid hR
  have HC : Hid (∀ w', RegAt w' sb rb rc mb S R → Calls Tryd.prog 44 #[.pointer (some ⟨sb, 0, none⟩), opV K t0 t1 f0 f1 f2 f3 N] w' fun e w'' => e = .returned (.bool false) ∧ Below w'.heap.size w' w'') := fun w' h => by
    have := reach_any sb rb rc mb S R K t0 t1 f0 f1 f2 f3 N w' h
    rw [hno] at this; exact this
  clear hR hno
  go_enter Tryd.func22, Tryd.ntmps22
  go_wp2_with fail
  refine (HC.out _ (HR.out.below ((Below.refl _ w).alloc (Nat.le_refl _) _))).mono ?_
  rintro e w4 ⟨rfl, hb4⟩
  have HB4 := Lib.hid (((Below.refl _ w).alloc (Nat.le_refl _) _).trans (hb4.mono (by simp)))
  clear hb4
  go_wp2_with fail
  go_ret2
  exact ⟨rfl, HB4.out⟩

set_option maxHeartbeats 4000000 in
theorem do_pairs (sb rb rc mb : Nat) (S : Int) (R : List Int) (K t0 t1 f0 f1 f2 f3 N X : Int) (w : World) (hR : RegAt w sb rb rc mb S R) (hall : ∀ x ∈ regsOf [f0, f1, f2, f3], 0 ≤ x ∧ x < (R.length : Int))
    (hyes : ((regsOf [f0, f1, f2, f3] ++ regsOf [t0, t1]).all fun x => decide (x < R.length)) = true) (hN : 0 ≤ N ∧ N < 4294967296)
    (h0 : At R t0) (h1 : t1 = -1 ∨ At R t1 ∧ t0 ≠ t1) (hK : 6 < K) (hK2 : K < 30)
    (hX : pairsV K (rv R (regsOf [f0, f1, f2, f3]) 0) (rv R (regsOf [f0, f1, f2, f3]) 1) (rv R (regsOf [f0, f1, f2, f3]) 1 * 4294967296 + rv R (regsOf [f0, f1, f2, f3]) 0) (rv R (regsOf [f0, f1, f2, f3]) 3 * 4294967296 + rv R (regsOf [f0, f1, f2, f3]) 2) = (X, true)) (hX0 : 0 ≤ X ∧ X < 18446744073709551616) :
    Calls Tryd.prog 22 #[.pointer (some ⟨sb, 0, none⟩), opV K t0 t1 f0 f1 f2 f3 N] w fun e w' => e = .returned (.tuple #[.int .i64 0, .int .i64 0]) ∧ RegAt w' sb rb rc mb S (wroteV R t0 t1 (X % 4294967296) (X / 4294967296)) ∧ w.grownBy w' (some rb) := by
  have HR := Lib.hid hR
  have HC : Hid (∀ w', RegAt w' sb rb rc mb S R → Calls Tryd.prog 44 #[.pointer (some ⟨sb, 0, none⟩), opV K t0 t1 f0 f1 f2 f3 N] w' fun e w'' => e = .returned (.bool true) ∧ Below w'.heap.size w' w'') := fun w' h => by
    have := reach_any sb rb rc mb S R K t0 t1 f0 f1 f2 f3 N w' h
    rw [hyes] at this; exact this
  have b0 := rv_mem hall hR.bytes 0
  have b1 := rv_mem hall hR.bytes 1
  have b2 := rv_mem hall hR.bytes 2
  have b3 := rv_mem hall hR.bytes 3
  have HD : Hid (∀ w', RegAt w' sb rb rc mb S R → _) := fun w' h => read_any sb rb rc mb S R K t0 t1 f0 f1 f2 f3 N w' h hall
  have HW : Hid (∀ w', RegAt w' sb rb rc mb S R → Calls Tryd.prog 49 #[.pointer (some ⟨sb, 0, none⟩), opV K t0 t1 f0 f1 f2 f3 N, .int .u32 (X % 4294967296), .int .u32 (X / 4294967296)] w' fun e w'' => e = .returned (.tuple #[]) ∧ RegAt w'' sb rb rc mb S (wroteV R t0 t1 (X % 4294967296) (X / 4294967296)) ∧ w'.grownBy w'' (some rb)) := fun w' h => write_any sb rb rc mb S R K t0 t1 f0 f1 f2 f3 N _ _ w' h h0 h1 (by omega) (by omega)
  generalize rv R (regsOf [f0, f1, f2, f3]) 0 = a0 at HD b0 hX ⊢
  generalize rv R (regsOf [f0, f1, f2, f3]) 1 = a1 at HD b1 hX ⊢
  generalize rv R (regsOf [f0, f1, f2, f3]) 2 = a2 at HD b2 hX ⊢
  generalize rv R (regsOf [f0, f1, f2, f3]) 3 = a3 at HD b3 hX ⊢
  have HM : Hid (∀ w', RegAt w' sb rb rc mb S R → _) := fun w' h => memory_no sb rb rc mb S R K t0 t1 f0 f1 f2 f3 N a0 a1 a2 a3 w' h (by omega) hN
  have HP : Hid (∀ w', Calls Tryd.prog 48 #[opV K t0 t1 f0 f1 f2 f3 N, .agg #[.int .u32 a0, .int .u32 a1, .int .u32 a2, .int .u32 a3]] w' fun e w'' => e = .returned (.tuple #[.int .u64 X, .bool true]) ∧ Below w'.heap.size w' w'') := fun w' => by
    have := pairs_any K t0 t1 f0 f1 f2 f3 N a0 a1 a2 a3 w' b0 b1 b2 b3
    rw [hX] at this; exact this
  have n30 : (K == 30) = false := by simp; omega
  have n31 : (K == 31) = false := by simp; omega
  have e1 : X / 4294967296 % 4294967296 = X / 4294967296 := by omega
  have E1 := Lib.hid e1
  clear hR hyes b0 b1 b2 b3 hall hN hX h0 h1 e1
  go_enter Tryd.func22, Tryd.ntmps22
  go_wp2_with fail
  have hB1 := (Below.refl _ w).alloc (Nat.le_refl _) (.cells #[.int .i64 K, .int .i64 t0, .int .i64 t1, .int .i64 f0, .int .i64 f1, .int .i64 f2, .int .i64 f3, .int .u32 N] 37)
  have hO1 := opAt_new w K t0 t1 f0 f1 f2 f3 N
  generalize w.alloc _ = w1 at hB1 hO1 ⊢
  have HB1 := Lib.hid hB1
  have HO1 := Lib.hid hO1
  clear hB1 hO1
  refine (HC.out _ (HR.out.below HB1.out)).mono ?_
  rintro e w4 ⟨rfl, hb4⟩
  have HB4 := Lib.hid (HB1.out.trans (hb4.mono HB1.out.size))
  have HO4 := Lib.hid (HO1.out.below hb4)
  obtain ⟨c0, c1, c2, c3, c4, c5, c6, c7⟩ := HO4.out.cells
  clear hb4
  go_wp2_with fail
  refine (HD.out _ (HR.out.below HB4.out)).mono ?_
  rintro e w5 ⟨rfl, hb5⟩
  have HB5 := Lib.hid (HB4.out.trans (hb5.mono HB4.out.size))
  have HO5 := Lib.hid (HO4.out.below hb5)
  clear hb5 c0 c1 c2 c3 c4 c5 c6 c7
  obtain ⟨c0, c1, c2, c3, c4, c5, c6, c7⟩ := HO5.out.cells
  have hl5 := lt_of_block HO5.out
  have hd5 : w.heap.size ≠ w5.heap.size := by omega
  go_wp2_with fail
  have hB6 := HB5.out.alloc HB5.out.size (.cells #[.int .u32 a0, .int .u32 a1, .int .u32 a2, .int .u32 a3] 97)
  have hO6 := HO5.out.below ((Below.refl _ _).alloc (Nat.le_refl _) (.cells #[.int .u32 a0, .int .u32 a1, .int .u32 a2, .int .u32 a3] 97))
  have hV6 := vAt_new w5 a0 a1 a2 a3
  generalize hvb : w5.heap.size = vb at hd5 hl5 hV6 ⊢
  generalize w5.alloc _ = w6 at hB6 hO6 hV6 ⊢
  have HB6 := Lib.hid hB6
  have HO6 := Lib.hid hO6
  have HV6 := Lib.hid hV6
  clear hB6 hO6 hV6 hvb c0 c1 c2 c3 c4 c5 c6 c7
  refine (HM.out _ (HR.out.below HB6.out)).mono ?_
  rintro e w7 ⟨rfl, hb7⟩
  have HB7 := Lib.hid (HB6.out.trans (hb7.mono HB6.out.size))
  have HO7 := Lib.hid (HO6.out.below hb7)
  have HV7 := Lib.hid (HV6.out.below hb7)
  clear hb7
  obtain ⟨c0, c1, c2, c3, c4, c5, c6, c7⟩ := HO7.out.cells
  obtain ⟨d0, d1, d2, d3⟩ := HV7.out.cells
  go_wp2_with fail
  refine (HP.out _).mono ?_
  rintro e w8 ⟨rfl, hb8⟩
  have HB8 := Lib.hid (HB7.out.trans (hb8.mono HB7.out.size))
  have HO8 := Lib.hid (HO7.out.below hb8)
  have HV8 := Lib.hid (HV7.out.below hb8)
  clear hb8 c0 c1 c2 c3 c4 c5 c6 c7 d0 d1 d2 d3
  obtain ⟨c0, c1, c2, c3, c4, c5, c6, c7⟩ := HO8.out.cells
  obtain ⟨d0, d1, d2, d3⟩ := HV8.out.cells
  go_wp2_with fail
  refine (HW.out _ (HR.out.below HB8.out)).mono ?_
  rintro e w20 ⟨rfl, hR20, hg20⟩
  go_wp2_with fail
  go_ret2
  exact ⟨rfl, hR20, grown_below HB8.out hg20⟩

set_option maxHeartbeats 4000000 in
theorem do_sums (sb rb rc mb : Nat) (S : Int) (R : List Int) (K t0 t1 f0 f1 f2 f3 N Y : Int) (w : World) (hR : RegAt w sb rb rc mb S R) (hall : ∀ x ∈ regsOf [f0, f1, f2, f3], 0 ≤ x ∧ x < (R.length : Int))
    (hyes : ((regsOf [f0, f1, f2, f3] ++ regsOf [t0, t1]).all fun x => decide (x < R.length)) = true) (hN : 0 ≤ N ∧ N < 4294967296)
    (h0 : At R t0) (h1 : t1 = -1 ∨ At R t1 ∧ t0 ≠ t1) (hK : K < 2 ∨ 6 < K) (hK2 : K < 30)
    (hX : pairsV K (rv R (regsOf [f0, f1, f2, f3]) 0) (rv R (regsOf [f0, f1, f2, f3]) 1) (rv R (regsOf [f0, f1, f2, f3]) 1 * 4294967296 + rv R (regsOf [f0, f1, f2, f3]) 0) (rv R (regsOf [f0, f1, f2, f3]) 3 * 4294967296 + rv R (regsOf [f0, f1, f2, f3]) 2) = (0, false))
    (hY : sumsV K N (rv R (regsOf [f0, f1, f2, f3]) 0) (rv R (regsOf [f0, f1, f2, f3]) 1) (rv R (regsOf [f0, f1, f2, f3]) 2) = (Y, true)) (hY0 : 0 ≤ Y ∧ Y < 4294967296) :
    Calls Tryd.prog 22 #[.pointer (some ⟨sb, 0, none⟩), opV K t0 t1 f0 f1 f2 f3 N] w fun e w' => e = .returned (.tuple #[.int .i64 0, .int .i64 0]) ∧ RegAt w' sb rb rc mb S (wroteV R t0 t1 (Y) (0)) ∧ w.grownBy w' (some rb) := by
  have HR := Lib.hid hR
  have HC : Hid (∀ w', RegAt w' sb rb rc mb S R → Calls Tryd.prog 44 #[.pointer (some ⟨sb, 0, none⟩), opV K t0 t1 f0 f1 f2 f3 N] w' fun e w'' => e = .returned (.bool true) ∧ Below w'.heap.size w' w'') := fun w' h => by
    have := reach_any sb rb rc mb S R K t0 t1 f0 f1 f2 f3 N w' h
    rw [hyes] at this; exact this
  have b0 := rv_mem hall hR.bytes 0
  have b1 := rv_mem hall hR.bytes 1
  have b2 := rv_mem hall hR.bytes 2
  have b3 := rv_mem hall hR.bytes 3
  have HD : Hid (∀ w', RegAt w' sb rb rc mb S R → _) := fun w' h => read_any sb rb rc mb S R K t0 t1 f0 f1 f2 f3 N w' h hall
  have HW : Hid (∀ w', RegAt w' sb rb rc mb S R → Calls Tryd.prog 49 #[.pointer (some ⟨sb, 0, none⟩), opV K t0 t1 f0 f1 f2 f3 N, .int .u32 (Y), .int .u32 (0)] w' fun e w'' => e = .returned (.tuple #[]) ∧ RegAt w'' sb rb rc mb S (wroteV R t0 t1 (Y) (0)) ∧ w'.grownBy w'' (some rb)) := fun w' h => write_any sb rb rc mb S R K t0 t1 f0 f1 f2 f3 N _ _ w' h h0 h1 (by omega) (by omega)
  generalize rv R (regsOf [f0, f1, f2, f3]) 0 = a0 at HD b0 hX hY ⊢
  generalize rv R (regsOf [f0, f1, f2, f3]) 1 = a1 at HD b1 hX hY ⊢
  generalize rv R (regsOf [f0, f1, f2, f3]) 2 = a2 at HD b2 hX hY ⊢
  generalize rv R (regsOf [f0, f1, f2, f3]) 3 = a3 at HD b3 hX hY ⊢
  have HM : Hid (∀ w', RegAt w' sb rb rc mb S R → _) := fun w' h => memory_no sb rb rc mb S R K t0 t1 f0 f1 f2 f3 N a0 a1 a2 a3 w' h (by omega) hN
  have HP : Hid (∀ w', Calls Tryd.prog 48 #[opV K t0 t1 f0 f1 f2 f3 N, .agg #[.int .u32 a0, .int .u32 a1, .int .u32 a2, .int .u32 a3]] w' fun e w'' => e = .returned (.tuple #[.int .u64 0, .bool false]) ∧ Below w'.heap.size w' w'') := fun w' => by
    have := pairs_any K t0 t1 f0 f1 f2 f3 N a0 a1 a2 a3 w' b0 b1 b2 b3
    rw [hX] at this; exact this
  have HS : Hid (∀ w', Calls Tryd.prog 50 #[opV K t0 t1 f0 f1 f2 f3 N, .int .u32 a0, .int .u32 a1, .int .u32 a2] w' fun e w'' => e = .returned (.tuple #[.int .u32 Y, .bool true]) ∧ Below w'.heap.size w' w'') := fun w' => by
    have := sums_any K t0 t1 f0 f1 f2 f3 N a0 a1 a2 w' b0 b1
    rw [hY] at this; exact this
  have n30 : (K == 30) = false := by simp; omega
  have n31 : (K == 31) = false := by simp; omega
  clear hR hyes b0 b1 b2 b3 hall hN hX hY h0 h1
  go_enter Tryd.func22, Tryd.ntmps22
  go_wp2_with fail
  have hB1 := (Below.refl _ w).alloc (Nat.le_refl _) (.cells #[.int .i64 K, .int .i64 t0, .int .i64 t1, .int .i64 f0, .int .i64 f1, .int .i64 f2, .int .i64 f3, .int .u32 N] 37)
  have hO1 := opAt_new w K t0 t1 f0 f1 f2 f3 N
  generalize w.alloc _ = w1 at hB1 hO1 ⊢
  have HB1 := Lib.hid hB1
  have HO1 := Lib.hid hO1
  clear hB1 hO1
  refine (HC.out _ (HR.out.below HB1.out)).mono ?_
  rintro e w4 ⟨rfl, hb4⟩
  have HB4 := Lib.hid (HB1.out.trans (hb4.mono HB1.out.size))
  have HO4 := Lib.hid (HO1.out.below hb4)
  obtain ⟨c0, c1, c2, c3, c4, c5, c6, c7⟩ := HO4.out.cells
  clear hb4
  go_wp2_with fail
  refine (HD.out _ (HR.out.below HB4.out)).mono ?_
  rintro e w5 ⟨rfl, hb5⟩
  have HB5 := Lib.hid (HB4.out.trans (hb5.mono HB4.out.size))
  have HO5 := Lib.hid (HO4.out.below hb5)
  clear hb5 c0 c1 c2 c3 c4 c5 c6 c7
  obtain ⟨c0, c1, c2, c3, c4, c5, c6, c7⟩ := HO5.out.cells
  have hl5 := lt_of_block HO5.out
  have hd5 : w.heap.size ≠ w5.heap.size := by omega
  go_wp2_with fail
  have hB6 := HB5.out.alloc HB5.out.size (.cells #[.int .u32 a0, .int .u32 a1, .int .u32 a2, .int .u32 a3] 97)
  have hO6 := HO5.out.below ((Below.refl _ _).alloc (Nat.le_refl _) (.cells #[.int .u32 a0, .int .u32 a1, .int .u32 a2, .int .u32 a3] 97))
  have hV6 := vAt_new w5 a0 a1 a2 a3
  generalize hvb : w5.heap.size = vb at hd5 hl5 hV6 ⊢
  generalize w5.alloc _ = w6 at hB6 hO6 hV6 ⊢
  have HB6 := Lib.hid hB6
  have HO6 := Lib.hid hO6
  have HV6 := Lib.hid hV6
  clear hB6 hO6 hV6 hvb c0 c1 c2 c3 c4 c5 c6 c7
  refine (HM.out _ (HR.out.below HB6.out)).mono ?_
  rintro e w7 ⟨rfl, hb7⟩
  have HB7 := Lib.hid (HB6.out.trans (hb7.mono HB6.out.size))
  have HO7 := Lib.hid (HO6.out.below hb7)
  have HV7 := Lib.hid (HV6.out.below hb7)
  clear hb7
  obtain ⟨c0, c1, c2, c3, c4, c5, c6, c7⟩ := HO7.out.cells
  obtain ⟨d0, d1, d2, d3⟩ := HV7.out.cells
  go_wp2_with fail
  refine (HP.out _).mono ?_
  rintro e w8 ⟨rfl, hb8⟩
  have HB8 := Lib.hid (HB7.out.trans (hb8.mono HB7.out.size))
  have HO8 := Lib.hid (HO7.out.below hb8)
  have HV8 := Lib.hid (HV7.out.below hb8)
  clear hb8 c0 c1 c2 c3 c4 c5 c6 c7 d0 d1 d2 d3
  obtain ⟨c0, c1, c2, c3, c4, c5, c6, c7⟩ := HO8.out.cells
  obtain ⟨d0, d1, d2, d3⟩ := HV8.out.cells
  go_wp2_with fail
  refine (HS.out _).mono ?_
  rintro e w9 ⟨rfl, hb9⟩
  have HB9 := Lib.hid (HB8.out.trans (hb9.mono HB8.out.size))
  have HO9 := Lib.hid (HO8.out.below hb9)
  have HV9 := Lib.hid (HV8.out.below hb9)
  clear hb9 c0 c1 c2 c3 c4 c5 c6 c7 d0 d1 d2 d3
  obtain ⟨c0, c1, c2, c3, c4, c5, c6, c7⟩ := HO9.out.cells
  obtain ⟨d0, d1, d2, d3⟩ := HV9.out.cells
  go_wp2_with fail
  refine (HW.out _ (HR.out.below HB9.out)).mono ?_
  rintro e w20 ⟨rfl, hR20, hg20⟩
  go_wp2_with fail
  go_ret2
  exact ⟨rfl, hR20, grown_below HB9.out hg20⟩

set_option maxHeartbeats 4000000 in
theorem do_below (sb rb rc mb : Nat) (S : Int) (R : List Int) (K t0 t1 f0 f1 f2 f3 N : Int) (w : World) (hR : RegAt w sb rb rc mb S R) (hall : ∀ x ∈ regsOf [f0, f1, f2, f3], 0 ≤ x ∧ x < (R.length : Int))
    (hyes : ((regsOf [f0, f1, f2, f3] ++ regsOf [t0, t1]).all fun x => decide (x < R.length)) = true) (hN : 0 ≤ N ∧ N < 4294967296)
    (hK : K = 30) :
    Calls Tryd.prog 22 #[.pointer (some ⟨sb, 0, none⟩), opV K t0 t1 f0 f1 f2 f3 N] w fun e w' => e = .returned (.tuple #[.int .i64 (truthV (decide (N ≤ rv R (regsOf [f0, f1, f2, f3]) 0))), .int .i64 0]) ∧ Below w.heap.size w w' := by
  have HR := Lib.hid hR
  have HC : Hid (∀ w', RegAt w' sb rb rc mb S R → Calls Tryd.prog 44 #[.pointer (some ⟨sb, 0, none⟩), opV K t0 t1 f0 f1 f2 f3 N] w' fun e w'' => e = .returned (.bool true) ∧ Below w'.heap.size w' w'') := fun w' h => by
    have := reach_any sb rb rc mb S R K t0 t1 f0 f1 f2 f3 N w' h
    rw [hyes] at this; exact this
  have b0 := rv_mem hall hR.bytes 0
  have b1 := rv_mem hall hR.bytes 1
  have b2 := rv_mem hall hR.bytes 2
  have b3 := rv_mem hall hR.bytes 3
  have HD : Hid (∀ w', RegAt w' sb rb rc mb S R → _) := fun w' h => read_any sb rb rc mb S R K t0 t1 f0 f1 f2 f3 N w' h hall
  generalize rv R (regsOf [f0, f1, f2, f3]) 0 = a0 at HD b0  ⊢
  generalize rv R (regsOf [f0, f1, f2, f3]) 1 = a1 at HD b1  ⊢
  generalize rv R (regsOf [f0, f1, f2, f3]) 2 = a2 at HD b2  ⊢
  generalize rv R (regsOf [f0, f1, f2, f3]) 3 = a3 at HD b3  ⊢
  have HM : Hid (∀ w', RegAt w' sb rb rc mb S R → _) := fun w' h => memory_no sb rb rc mb S R K t0 t1 f0 f1 f2 f3 N a0 a1 a2 a3 w' h (by omega) hN
  have n30 : (K == 30) = true := by simp [hK]
  have n31 : (K == 31) = false := by simp [hK]
  clear hR hyes b0 b1 b2 b3 hall hN hK
  go_enter Tryd.func22, Tryd.ntmps22
  go_wp2_with fail
  have hB1 := (Below.refl _ w).alloc (Nat.le_refl _) (.cells #[.int .i64 K, .int .i64 t0, .int .i64 t1, .int .i64 f0, .int .i64 f1, .int .i64 f2, .int .i64 f3, .int .u32 N] 37)
  have hO1 := opAt_new w K t0 t1 f0 f1 f2 f3 N
  generalize w.alloc _ = w1 at hB1 hO1 ⊢
  have HB1 := Lib.hid hB1
  have HO1 := Lib.hid hO1
  clear hB1 hO1
  refine (HC.out _ (HR.out.below HB1.out)).mono ?_
  rintro e w4 ⟨rfl, hb4⟩
  have HB4 := Lib.hid (HB1.out.trans (hb4.mono HB1.out.size))
  have HO4 := Lib.hid (HO1.out.below hb4)
  obtain ⟨c0, c1, c2, c3, c4, c5, c6, c7⟩ := HO4.out.cells
  clear hb4
  go_wp2_with fail
  refine (HD.out _ (HR.out.below HB4.out)).mono ?_
  rintro e w5 ⟨rfl, hb5⟩
  have HB5 := Lib.hid (HB4.out.trans (hb5.mono HB4.out.size))
  have HO5 := Lib.hid (HO4.out.below hb5)
  clear hb5 c0 c1 c2 c3 c4 c5 c6 c7
  obtain ⟨c0, c1, c2, c3, c4, c5, c6, c7⟩ := HO5.out.cells
  have hl5 := lt_of_block HO5.out
  have hd5 : w.heap.size ≠ w5.heap.size := by omega
  go_wp2_with fail
  have hB6 := HB5.out.alloc HB5.out.size (.cells #[.int .u32 a0, .int .u32 a1, .int .u32 a2, .int .u32 a3] 97)
  have hO6 := HO5.out.below ((Below.refl _ _).alloc (Nat.le_refl _) (.cells #[.int .u32 a0, .int .u32 a1, .int .u32 a2, .int .u32 a3] 97))
  have hV6 := vAt_new w5 a0 a1 a2 a3
  generalize hvb : w5.heap.size = vb at hd5 hl5 hV6 ⊢
  generalize w5.alloc _ = w6 at hB6 hO6 hV6 ⊢
  have HB6 := Lib.hid hB6
  have HO6 := Lib.hid hO6
  have HV6 := Lib.hid hV6
  clear hB6 hO6 hV6 hvb c0 c1 c2 c3 c4 c5 c6 c7
  refine (HM.out _ (HR.out.below HB6.out)).mono ?_
  rintro e w7 ⟨rfl, hb7⟩
  have HB7 := Lib.hid (HB6.out.trans (hb7.mono HB6.out.size))
  have HO7 := Lib.hid (HO6.out.below hb7)
  have HV7 := Lib.hid (HV6.out.below hb7)
  clear hb7
  obtain ⟨c0, c1, c2, c3, c4, c5, c6, c7⟩ := HO7.out.cells
  obtain ⟨d0, d1, d2, d3⟩ := HV7.out.cells
  go_wp2_with fail
  refine (truth_any _ _).mono ?_
  rintro e w8 ⟨rfl, rfl⟩
  go_wp2_with fail
  go_ret2
  refine ⟨?_, HB7.out⟩
  have tw := trap_wrap (decide (N ≤ a0))
  generalize (decide (N ≤ a0)) = b at tw ⊢
  show Ending.returned (.tuple #[.int .i64 (wrap64 (wrap64 (truthV b))), .int .i64 0]) = _
  rw [tw.1]

set_option maxHeartbeats 4000000 in
theorem do_some (sb rb rc mb : Nat) (S : Int) (R : List Int) (K t0 t1 f0 f1 f2 f3 N : Int) (w : World) (hR : RegAt w sb rb rc mb S R) (hall : ∀ x ∈ regsOf [f0, f1, f2, f3], 0 ≤ x ∧ x < (R.length : Int))
    (hyes : ((regsOf [f0, f1, f2, f3] ++ regsOf [t0, t1]).all fun x => decide (x < R.length)) = true) (hN : 0 ≤ N ∧ N < 4294967296)
    (hK : K = 31) :
    Calls Tryd.prog 22 #[.pointer (some ⟨sb, 0, none⟩), opV K t0 t1 f0 f1 f2 f3 N] w fun e w' => e = .returned (.tuple #[.int .i64 (2 * truthV (rv R (regsOf [f0, f1, f2, f3]) 0 == 0)), .int .i64 0]) ∧ Below w.heap.size w w' := by
  have HR := Lib.hid hR
  have HC : Hid (∀ w', RegAt w' sb rb rc mb S R → Calls Tryd.prog 44 #[.pointer (some ⟨sb, 0, none⟩), opV K t0 t1 f0 f1 f2 f3 N] w' fun e w'' => e = .returned (.bool true) ∧ Below w'.heap.size w' w'') := fun w' h => by
    have := reach_any sb rb rc mb S R K t0 t1 f0 f1 f2 f3 N w' h
    rw [hyes] at this; exact this
  have b0 := rv_mem hall hR.bytes 0
  have b1 := rv_mem hall hR.bytes 1
  have b2 := rv_mem hall hR.bytes 2
  have b3 := rv_mem hall hR.bytes 3
  have HD : Hid (∀ w', RegAt w' sb rb rc mb S R → _) := fun w' h => read_any sb rb rc mb S R K t0 t1 f0 f1 f2 f3 N w' h hall
  generalize rv R (regsOf [f0, f1, f2, f3]) 0 = a0 at HD b0  ⊢
  generalize rv R (regsOf [f0, f1, f2, f3]) 1 = a1 at HD b1  ⊢
  generalize rv R (regsOf [f0, f1, f2, f3]) 2 = a2 at HD b2  ⊢
  generalize rv R (regsOf [f0, f1, f2, f3]) 3 = a3 at HD b3  ⊢
  have HM : Hid (∀ w', RegAt w' sb rb rc mb S R → _) := fun w' h => memory_no sb rb rc mb S R K t0 t1 f0 f1 f2 f3 N a0 a1 a2 a3 w' h (by omega) hN
  have n30 : (K == 30) = false := by simp [hK]
  have n31 : (K == 31) = true := by simp [hK]
  clear hR hyes b0 b1 b2 b3 hall hN hK
  go_enter Tryd.func22, Tryd.ntmps22
  go_wp2_with fail
  have hB1 := (Below.refl _ w).alloc (Nat.le_refl _) (.cells #[.int .i64 K, .int .i64 t0, .int .i64 t1, .int .i64 f0, .int .i64 f1, .int .i64 f2, .int .i64 f3, .int .u32 N] 37)
  have hO1 := opAt_new w K t0 t1 f0 f1 f2 f3 N
  generalize w.alloc _ = w1 at hB1 hO1 ⊢
  have HB1 := Lib.hid hB1
  have HO1 := Lib.hid hO1
  clear hB1 hO1
  refine (HC.out _ (HR.out.below HB1.out)).mono ?_
  rintro e w4 ⟨rfl, hb4⟩
  have HB4 := Lib.hid (HB1.out.trans (hb4.mono HB1.out.size))
  have HO4 := Lib.hid (HO1.out.below hb4)
  obtain ⟨c0, c1, c2, c3, c4, c5, c6, c7⟩ := HO4.out.cells
  clear hb4
  go_wp2_with fail
  refine (HD.out _ (HR.out.below HB4.out)).mono ?_
  rintro e w5 ⟨rfl, hb5⟩
  have HB5 := Lib.hid (HB4.out.trans (hb5.mono HB4.out.size))
  have HO5 := Lib.hid (HO4.out.below hb5)
  clear hb5 c0 c1 c2 c3 c4 c5 c6 c7
  obtain ⟨c0, c1, c2, c3, c4, c5, c6, c7⟩ := HO5.out.cells
  have hl5 := lt_of_block HO5.out
  have hd5 : w.heap.size ≠ w5.heap.size := by omega
  go_wp2_with fail
  have hB6 := HB5.out.alloc HB5.out.size (.cells #[.int .u32 a0, .int .u32 a1, .int .u32 a2, .int .u32 a3] 97)
  have hO6 := HO5.out.below ((Below.refl _ _).alloc (Nat.le_refl _) (.cells #[.int .u32 a0, .int .u32 a1, .int .u32 a2, .int .u32 a3] 97))
  have hV6 := vAt_new w5 a0 a1 a2 a3
  generalize hvb : w5.heap.size = vb at hd5 hl5 hV6 ⊢
  generalize w5.alloc _ = w6 at hB6 hO6 hV6 ⊢
  have HB6 := Lib.hid hB6
  have HO6 := Lib.hid hO6
  have HV6 := Lib.hid hV6
  clear hB6 hO6 hV6 hvb c0 c1 c2 c3 c4 c5 c6 c7
  refine (HM.out _ (HR.out.below HB6.out)).mono ?_
  rintro e w7 ⟨rfl, hb7⟩
  have HB7 := Lib.hid (HB6.out.trans (hb7.mono HB6.out.size))
  have HO7 := Lib.hid (HO6.out.below hb7)
  have HV7 := Lib.hid (HV6.out.below hb7)
  clear hb7
  obtain ⟨c0, c1, c2, c3, c4, c5, c6, c7⟩ := HO7.out.cells
  obtain ⟨d0, d1, d2, d3⟩ := HV7.out.cells
  go_wp2_with fail
  refine (truth_any _ _).mono ?_
  rintro e w8 ⟨rfl, rfl⟩
  go_wp2_with fail
  go_ret2
  refine ⟨?_, HB7.out⟩
  have tw := trap_wrap (a0 == 0)
  generalize (a0 == 0) = b at tw ⊢
  show Ending.returned (.tuple #[.int .i64 (wrap64 (2 * wrap64 (truthV b))), .int .i64 0]) = _
  rw [tw.2]

end Go.Proofs.YtmkencdkglbpbaaDoor
