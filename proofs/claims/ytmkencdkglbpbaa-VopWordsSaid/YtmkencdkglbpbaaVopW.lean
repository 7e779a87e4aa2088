/- vop: Do of any right operation. -/
import Derived.Test.YtmkencdkglbpbaaVopV
set_option maxRecDepth 100000
set_option linter.unusedVariables false
namespace Go.Proofs.Ytmkencdkglbpbaa
open Go.RowKit

set_option maxHeartbeats 4000000 in
theorem do_mem (sb rb rc mb : Nat) (fv : Value) (rg B : Nat) (S : Int) (R R' : List Int) (m m' : Nat → Int) (K t0 t1 f0 f1 f2 f3 N E : Int) (w : World) (hSt : StAt w sb rb rc mb fv rg B S R m) (hall : ∀ x ∈ regsOf [f0, f1, f2, f3], 0 ≤ x ∧ x < (R.length : Int))
    (hyes : ((regsOf [f0, f1, f2, f3] ++ regsOf [t0, t1]).all fun x => decide (x < R.length)) = true)
    (hmem : ∀ w', StAt w' sb rb rc mb fv rg B S R m → Calls Try.prog 20 #[.pointer (some ⟨sb, 0, none⟩), opV K t0 t1 f0 f1 f2 f3 N, .agg #[.int .u32 (rv R (regsOf [f0, f1, f2, f3]) 0), .int .u32 (rv R (regsOf [f0, f1, f2, f3]) 1), .int .u32 (rv R (regsOf [f0, f1, f2, f3]) 2), .int .u32 (rv R (regsOf [f0, f1, f2, f3]) 3)]] w' fun e w'' => e = .returned (.tuple #[.bool true, .int .i64 E]) ∧ StAt w'' sb rb rc mb fv rg B S R' m' ∧ Kept w' w'' rb rg) :
    Calls Try.prog 10 #[.pointer (some ⟨sb, 0, none⟩), opV K t0 t1 f0 f1 f2 f3 N] w fun e w' => e = .returned (.tuple #[.int .i64 0, .int .i64 E]) ∧ StAt w' sb rb rc mb fv rg B S R' m' ∧ Kept w w' rb rg := by
  have HSt := Lib.hid hSt
  have HR := Lib.hid hSt.reg
  have HC : Hid (∀ w', RegAt w' sb rb rc mb S R → Calls Try.prog 18 #[.pointer (some ⟨sb, 0, none⟩), opV K t0 t1 f0 f1 f2 f3 N] w' fun e w'' => e = .returned (.bool true) ∧ Below w'.heap.size w' w'') := fun w' h => by
    have := reach_any sb rb rc mb S R K t0 t1 f0 f1 f2 f3 N w' h
    rw [hyes] at this; exact this
  have HD : Hid (∀ w', RegAt w' sb rb rc mb S R → _) := fun w' h => read_any sb rb rc mb S R K t0 t1 f0 f1 f2 f3 N w' h hall
  generalize rv R (regsOf [f0, f1, f2, f3]) 0 = a0 at HD hmem ⊢
  generalize rv R (regsOf [f0, f1, f2, f3]) 1 = a1 at HD hmem ⊢
  generalize rv R (regsOf [f0, f1, f2, f3]) 2 = a2 at HD hmem ⊢
  generalize rv R (regsOf [f0, f1, f2, f3]) 3 = a3 at HD hmem ⊢
  have HM := Lib.hid hmem
  clear hSt hyes hall hmem
  go_enter Try.func10, Try.ntmps10
  go_wp2_with fail
  have hB1 := (Below.refl _ w).alloc (Nat.le_refl _) (.cells #[.int .i64 K, .int .i64 t0, .int .i64 t1, .int .i64 f0, .int .i64 f1, .int .i64 f2, .int .i64 f3, .int .u32 N] 40)
  have hO1 := opAt_new w K t0 t1 f0 f1 f2 f3 N
  generalize w.alloc _ = w1 at hB1 hO1 ⊢
  have HB1 := Lib.hid hB1
  have HO1 := Lib.hid hO1
  clear hB1 hO1
  refine (HC.out _ (HR.out.below HB1.out)).mono ?_
  rintro e w4 ⟨rfl, hb4⟩
  have HB4 := Lib.hid (HB1.out.trans (hb4.mono HB1.out.size))
  have HO4 := Lib.hid (HO1.out.below hb4)
  obtain ⟨c0, c1, c2, c3, c4, c5, c6, c7⟩ := HO4.out.cells
  clear hb4
  go_wp2_with fail
  refine (HD.out _ (HR.out.below HB4.out)).mono ?_
  rintro e w5 ⟨rfl, hb5⟩
  have HB5 := Lib.hid (HB4.out.trans (hb5.mono HB4.out.size))
  have HO5 := Lib.hid (HO4.out.below hb5)
  clear hb5 c0 c1 c2 c3 c4 c5 c6 c7
  obtain ⟨c0, c1, c2, c3, c4, c5, c6, c7⟩ := HO5.out.cells
  have hl5 := lt_of_block HO5.out
  have hd5 : w.heap.size ≠ w5.heap.size := by omega
  go_wp2_with fail
  have hB6 := HB5.out.alloc HB5.out.size (.cells #[.int .u32 a0, .int .u32 a1, .int .u32 a2, .int .u32 a3] 69)
  generalize w5.alloc _ = w6 at hB6 ⊢
  have HB6 := Lib.hid hB6
  clear hB6 c0 c1 c2 c3 c4 c5 c6 c7
  refine (HM.out _ (HSt.out.below HB6.out)).mono ?_
  rintro e w7 ⟨rfl, hs7, hk7⟩
  have HS7 := Lib.hid hs7
  have HK7 := Lib.hid ((Kept.of_below rb rg HB6.out).trans hk7)
  clear hs7 hk7
  go_wp2_with fail
  go_ret2
  exact ⟨rfl, HS7.out, HK7.out⟩

/-- What Do does: what it traps with, its error, the registers, the words of RAM. -/
def doM (K t0 t1 f0 f1 f2 f3 N S : Int) (R : List Int) (m : Nat → Int) : Int × Int × List Int × (Nat → Int) :=
  if reachV R t0 t1 f0 f1 f2 f3 = false then (0, 11, R, m)
  else if K = 2 ∨ K = 5 then (0, (loadV [] m (atV K S N (rv R (regsOf [f0, f1, f2, f3]) 0) (rv R (regsOf [f0, f1, f2, f3]) 1))).2, if (loadV [] m (atV K S N (rv R (regsOf [f0, f1, f2, f3]) 0) (rv R (regsOf [f0, f1, f2, f3]) 1))).2 = 0 then wroteV R t0 t1 (loadV [] m (atV K S N (rv R (regsOf [f0, f1, f2, f3]) 0) (rv R (regsOf [f0, f1, f2, f3]) 1))).1 0 else R, m)
  else if K = 3 then (0, storeE (atV K S N (rv R (regsOf [f0, f1, f2, f3]) 0) (rv R (regsOf [f0, f1, f2, f3]) 1)), R, storeM m (atV K S N (rv R (regsOf [f0, f1, f2, f3]) 0) (rv R (regsOf [f0, f1, f2, f3]) 1)) (rv R (regsOf [f0, f1, f2, f3]) 0))
  else if K = 6 then (0, storeE (atV K S N (rv R (regsOf [f0, f1, f2, f3]) 0) (rv R (regsOf [f0, f1, f2, f3]) 1)), R, storeM m (atV K S N (rv R (regsOf [f0, f1, f2, f3]) 0) (rv R (regsOf [f0, f1, f2, f3]) 1)) (rv R (regsOf [f0, f1, f2, f3]) 2))
  else if K = 4 then (0, 0, wroteV R t0 t1 (atV K S N (rv R (regsOf [f0, f1, f2, f3]) 0) (rv R (regsOf [f0, f1, f2, f3]) 1)) 0, m)
  else ((doV K t0 t1 f0 f1 f2 f3 N R).1, (doV K t0 t1 f0 f1 f2 f3 N R).2.1, (doV K t0 t1 f0 f1 f2 f3 N R).2.2, m)

theorem do_full (sb rb rc mb : Nat) (fv : Value) (rg B : Nat) (S : Int) (R : List Int) (m : Nat → Int) (k : Nat) (t0 t1 f0 f1 f2 f3 N : Int) (w : World) (hSt : StAt w sb rb rc mb fv rg B S R m) (h : RightOp k t0 t1 f0 f1 f2 f3 N) (hN : 0 ≤ N ∧ N < 4294967296) :
    Calls Try.prog 10 #[.pointer (some ⟨sb, 0, none⟩), opV k t0 t1 f0 f1 f2 f3 N] w fun e w' => e = .returned (.tuple #[.int .i64 (doM k t0 t1 f0 f1 f2 f3 N S R m).1, .int .i64 (doM k t0 t1 f0 f1 f2 f3 N S R m).2.1]) ∧ StAt w' sb rb rc mb fv rg B S (doM k t0 t1 f0 f1 f2 f3 N S R m).2.2.1 (doM k t0 t1 f0 f1 f2 f3 N S R m).2.2.2 ∧ Kept w w' rb rg := by
  cases hr : reachV R t0 t1 f0 f1 f2 f3
  · have e : doM k t0 t1 f0 f1 f2 f3 N S R m = (0, 11, R, m) := by unfold doM; rw [if_pos hr]
    rw [e]
    refine (do_far sb rb rc mb S R k t0 t1 f0 f1 f2 f3 N w hSt.reg hr).mono ?_
    rintro e w' ⟨rfl, hb⟩
    exact ⟨rfl, hSt.below hb, Kept.of_below _ _ hb⟩
  · obtain ⟨hall, ht0, ht1⟩ := reach_all h hr
    have hrn : ¬ reachV R t0 t1 f0 f1 f2 f3 = false := by rw [hr]; simp
    have b0 := rv_mem hall hSt.reg.bytes 0
    have b1 := rv_mem hall hSt.reg.bytes 1
    have b2 := rv_mem hall hSt.reg.bytes 2
    have one : k = 2 ∨ k = 5 ∨ k = 4 → At R t0 ∧ t1 = -1 := by
      intro hk
      have p0 := (okAt_iff _ _ _).1 h.pt0
      have p1 := (okAt_iff _ _ _).1 h.pt1
      have hT : toL.getD k 0 = 1 := by rcases hk with rfl | rfl | rfl <;> rfl
      rw [hT] at p0 p1
      exact ⟨ht0 (by omega), by omega⟩
    by_cases h25 : (k : Int) = 2 ∨ (k : Int) = 5
    · have e : doM k t0 t1 f0 f1 f2 f3 N S R m = (0, (loadV [] m (atV k S N (rv R (regsOf [f0, f1, f2, f3]) 0) (rv R (regsOf [f0, f1, f2, f3]) 1))).2, if (loadV [] m (atV k S N (rv R (regsOf [f0, f1, f2, f3]) 0) (rv R (regsOf [f0, f1, f2, f3]) 1))).2 = 0 then wroteV R t0 t1 (loadV [] m (atV k S N (rv R (regsOf [f0, f1, f2, f3]) 0) (rv R (regsOf [f0, f1, f2, f3]) 1))).1 0 else R, m) := by unfold doM; rw [if_neg hrn, if_pos h25]
      rw [e]
      obtain ⟨a0, a1⟩ := one (by omega)
      have hk : k = 2 ∨ k = 5 := by omega
      rcases hk with rfl | rfl
      · exact do_mem sb rb rc mb fv rg B S R _ m _ (2 : Nat) t0 t1 f0 f1 f2 f3 N _ w hSt hall hr (fun w' h' => memory_2 sb rb rc mb fv rg B S R m t0 t1 f0 f1 f2 f3 N _ _ _ _ w' h' hN b0 b1 b2 a0 a1)
      · exact do_mem sb rb rc mb fv rg B S R _ m _ (5 : Nat) t0 t1 f0 f1 f2 f3 N _ w hSt hall hr (fun w' h' => memory_5 sb rb rc mb fv rg B S R m t0 t1 f0 f1 f2 f3 N _ _ _ _ w' h' hN b0 b1 b2 a0 a1)
    by_cases h3 : (k : Int) = 3
    · have e : doM k t0 t1 f0 f1 f2 f3 N S R m = (0, storeE (atV k S N (rv R (regsOf [f0, f1, f2, f3]) 0) (rv R (regsOf [f0, f1, f2, f3]) 1)), R, storeM m (atV k S N (rv R (regsOf [f0, f1, f2, f3]) 0) (rv R (regsOf [f0, f1, f2, f3]) 1)) (rv R (regsOf [f0, f1, f2, f3]) 0)) := by unfold doM; rw [if_neg hrn, if_neg h25, if_pos h3]
      rw [e]
      obtain rfl : k = 3 := by omega
      exact do_mem sb rb rc mb fv rg B S R _ m _ (3 : Nat) t0 t1 f0 f1 f2 f3 N _ w hSt hall hr (fun w' h' => memory_3 sb rb rc mb fv rg B S R m t0 t1 f0 f1 f2 f3 N _ _ _ _ w' h' hN b0 b1 b2)
    by_cases h6 : (k : Int) = 6
    · have e : doM k t0 t1 f0 f1 f2 f3 N S R m = (0, storeE (atV k S N (rv R (regsOf [f0, f1, f2, f3]) 0) (rv R (regsOf [f0, f1, f2, f3]) 1)), R, storeM m (atV k S N (rv R (regsOf [f0, f1, f2, f3]) 0) (rv R (regsOf [f0, f1, f2, f3]) 1)) (rv R (regsOf [f0, f1, f2, f3]) 2)) := by unfold doM; rw [if_neg hrn, if_neg h25, if_neg h3, if_pos h6]
      rw [e]
      obtain rfl : k = 6 := by omega
      exact do_mem sb rb rc mb fv rg B S R _ m _ (6 : Nat) t0 t1 f0 f1 f2 f3 N _ w hSt hall hr (fun w' h' => memory_6 sb rb rc mb fv rg B S R m t0 t1 f0 f1 f2 f3 N _ _ _ _ w' h' hN b0 b1 b2)
    by_cases h4 : (k : Int) = 4
    · have e : doM k t0 t1 f0 f1 f2 f3 N S R m = (0, 0, wroteV R t0 t1 (atV k S N (rv R (regsOf [f0, f1, f2, f3]) 0) (rv R (regsOf [f0, f1, f2, f3]) 1)) 0, m) := by unfold doM; rw [if_neg hrn, if_neg h25, if_neg h3, if_neg h6, if_pos h4]
      rw [e]
      obtain ⟨a0, a1⟩ := one (by omega)
      obtain rfl : k = 4 := by omega
      exact do_mem sb rb rc mb fv rg B S R _ m _ (4 : Nat) t0 t1 f0 f1 f2 f3 N _ w hSt hall hr (fun w' h' => memory_4 sb rb rc mb fv rg B S R m t0 t1 f0 f1 f2 f3 N _ _ _ _ w' h' hN b0 b1 b2 a0 a1)
    have e : doM k t0 t1 f0 f1 f2 f3 N S R m = ((doV k t0 t1 f0 f1 f2 f3 N R).1, (doV k t0 t1 f0 f1 f2 f3 N R).2.1, (doV k t0 t1 f0 f1 f2 f3 N R).2.2, m) := by unfold doM; rw [if_neg hrn, if_neg h25, if_neg h3, if_neg h6, if_neg h4]
    rw [e]
    refine (do_any sb rb rc mb S R k t0 t1 f0 f1 f2 f3 N w hSt.reg h (by omega) hN).mono ?_
    rintro e w' ⟨rfl, hR, hg⟩
    exact ⟨rfl, hSt.regs hR hg, Kept.of_grown1 _ hg⟩
end Go.Proofs.Ytmkencdkglbpbaa
