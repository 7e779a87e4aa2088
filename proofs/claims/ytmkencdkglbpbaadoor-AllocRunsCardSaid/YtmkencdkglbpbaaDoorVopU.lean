/- vop: Do of a right operation that does not come to memory. -/
import Derived.Test.YtmkencdkglbpbaaDoorVopT
import Derived.Test.YtmkencdkglbpbaaDoorVopS
set_option maxRecDepth 100000
namespace Go.Proofs.YtmkencdkglbpbaaDoor
open Go.RowKit

theorem pairsV_bd (K v0 v1 A B : Int) : 0 ≤ (pairsV K v0 v1 A B).1 ∧ (pairsV K v0 v1 A B).1 < 18446744073709551616 := by
  unfold pairsV
  have ht := truthV_bd (decide (A < B))
  repeat' split
  all_goals (simp only []; omega)
theorem pairsV_kind (K v0 v1 A B : Int) (h : (pairsV K v0 v1 A B).2 = true) : 23 ≤ K ∧ K ≤ 26 := by
  unfold pairsV at h
  repeat' split at h
  all_goals first | omega | (simp at h)
theorem pairsV_no (K v0 v1 A B : Int) (h : (pairsV K v0 v1 A B).2 = false) : pairsV K v0 v1 A B = (0, false) := by
  unfold pairsV at h ⊢
  repeat' split at h
  all_goals first | (simp at h; done) | simp_all
theorem sumsV_bd (K N x y z : Int) (hN : 0 ≤ N ∧ N < 4294967296) (hx : 0 ≤ x ∧ x < 4294967296) (hy : 0 ≤ y ∧ y < 4294967296) : 0 ≤ (sumsV K N x y z).1 ∧ (sumsV K N x y z).1 < 4294967296 := by
  unfold sumsV
  have h1 := truthV_bd (decide (x < y))
  have h2 := truthV_bd (x == y)
  have h3 : 0 ≤ x / y := Int.ediv_nonneg hx.1 hy.1
  have h4 : x / y ≤ x := Int.ediv_le_self _ hx.1
  repeat' split
  all_goals (simp only []; omega)
theorem sumsV_no (K N x y z : Int) (h : (sumsV K N x y z).2 = false) : sumsV K N x y z = (0, false) := by
  unfold sumsV at h ⊢
  repeat' split at h
  all_goals first | (simp at h; done) | simp_all

theorem grown_of_below {w w' : World} (h : Below w.heap.size w w') (r : Option Nat) : w.grownBy w' r := ⟨h.os, h.tape, h.output, h.size, fun i hi _ => h.block i hi⟩

theorem right_regs {k : Nat} {t0 t1 f0 f1 f2 f3 N : Int} (h : RightOp k t0 t1 f0 f1 f2 f3 N) : (∀ x ∈ regsOf [f0, f1, f2, f3], 0 ≤ x) ∧ (t0 = -1 ∨ 0 ≤ t0) ∧ (t1 = -1 ∨ 0 ≤ t1) := by
  have a0 := (okAt_iff _ _ _).1 h.pf0
  have a1 := (okAt_iff _ _ _).1 h.pf1
  have a2 := (okAt_iff _ _ _).1 h.pf2
  have a3 := (okAt_iff _ _ _).1 h.pf3
  have b0 := (okAt_iff _ _ _).1 h.pt0
  have b1 := (okAt_iff _ _ _).1 h.pt1
  refine ⟨fun x hx => ?_, by omega, by omega⟩
  simp only [regsOf, List.mem_filter, List.mem_cons, List.not_mem_nil, or_false, bne_iff_ne] at hx
  rcases hx with ⟨rfl | rfl | rfl | rfl, hne⟩ <;> omega
theorem reach_all {R : List Int} {k : Nat} {t0 t1 f0 f1 f2 f3 N : Int} (h : RightOp k t0 t1 f0 f1 f2 f3 N) (hr : reachV R t0 t1 f0 f1 f2 f3 = true) :
    (∀ x ∈ regsOf [f0, f1, f2, f3], 0 ≤ x ∧ x < (R.length : Int)) ∧ (0 ≤ t0 → At R t0) ∧ (t1 = -1 ∨ At R t1) := by
  obtain ⟨r1, r2, r3⟩ := right_regs h
  unfold reachV at hr
  rw [List.all_eq_true] at hr
  have mem2 : ∀ {x y z : Int}, z ∈ regsOf [x, y] ↔ (z = x ∨ z = y) ∧ z ≠ -1 := by intro x y z; simp [regsOf]
  refine ⟨fun x hx => ⟨r1 x hx, by simpa using hr x (List.mem_append_left _ hx)⟩, fun h0 => ⟨h0, by simpa using hr t0 (List.mem_append_right _ (mem2.2 ⟨.inl rfl, by omega⟩))⟩, ?_⟩
  rcases r3 with h1 | h1
  · exact .inl h1
  · exact .inr ⟨h1, by simpa using hr t1 (List.mem_append_right _ (mem2.2 ⟨.inr rfl, by omega⟩))⟩
theorem right_sets {k : Nat} {t0 t1 f0 f1 f2 f3 N : Int} (h : RightOp k t0 t1 f0 f1 f2 f3 N) (hk : (k < 2 ∨ 6 < k) ∧ k < 30) : 0 ≤ t0 ∧ (t1 = -1 ∨ t0 ≠ t1) := by
  have h1 := h.h1
  have a0 := (okAt_iff _ _ _).1 h.pt0
  have a1 := (okAt_iff _ _ _).1 h.pt1
  have hb := toL_bd k
  have : ∀ k : Fin 32, 1 ≤ k.1 → ((k.1 < 2 ∨ 6 < k.1) ∧ k.1 < 30) → 1 ≤ toL.getD k.1 0 := by decide
  have h2 := this ⟨k, by omega⟩ h1 hk
  have h3 := h.two
  simp only [] at h2
  omega

theorem do_any (sb rb rc mb : Nat) (S : Int) (R : List Int) (k : Nat) (t0 t1 f0 f1 f2 f3 N : Int) (w : World) (hR : RegAt w sb rb rc mb S R) (h : RightOp k t0 t1 f0 f1 f2 f3 N) (hk : k < 2 ∨ 6 < k) (hN : 0 ≤ N ∧ N < 4294967296) :
    Calls Tryd.prog 22 #[.pointer (some ⟨sb, 0, none⟩), opV k t0 t1 f0 f1 f2 f3 N] w fun e w' => e = .returned (.tuple #[.int .i64 (doV k t0 t1 f0 f1 f2 f3 N R).1, .int .i64 (doV k t0 t1 f0 f1 f2 f3 N R).2.1]) ∧ RegAt w' sb rb rc mb S (doV k t0 t1 f0 f1 f2 f3 N R).2.2 ∧ w.grownBy w' (some rb) := by
  cases hr : reachV R t0 t1 f0 f1 f2 f3
  · have e : doV k t0 t1 f0 f1 f2 f3 N R = (0, 11, R) := by unfold doV; rw [if_pos hr]
    rw [e]
    refine (do_far sb rb rc mb S R k t0 t1 f0 f1 f2 f3 N w hR hr).mono ?_
    rintro e w' ⟨rfl, hb⟩
    exact ⟨rfl, hR.below hb, grown_of_below hb _⟩
  · obtain ⟨hall, ht0, ht1⟩ := reach_all h hr
    have hrn : ¬ reachV R t0 t1 f0 f1 f2 f3 = false := by rw [hr]; simp
    have b0 := rv_mem hall hR.bytes 0
    have b1 := rv_mem hall hR.bytes 1
    have b2 := rv_mem hall hR.bytes 2
    by_cases h30 : k = 30
    · subst h30
      have e : doV (30 : Nat) t0 t1 f0 f1 f2 f3 N R = (truthV (decide (N ≤ rv R (regsOf [f0, f1, f2, f3]) 0)), 0, R) := by unfold doV; rw [if_neg hrn]; rfl
      rw [e]
      refine (do_below sb rb rc mb S R (30 : Nat) t0 t1 f0 f1 f2 f3 N w hR hall hr hN rfl).mono ?_
      rintro e w' ⟨rfl, hb⟩
      exact ⟨rfl, hR.below hb, grown_of_below hb _⟩
    by_cases h31 : k = 31
    · subst h31
      have e : doV (31 : Nat) t0 t1 f0 f1 f2 f3 N R = (2 * truthV (rv R (regsOf [f0, f1, f2, f3]) 0 == 0), 0, R) := by unfold doV; rw [if_neg hrn]; rfl
      rw [e]
      refine (do_some sb rb rc mb S R (31 : Nat) t0 t1 f0 f1 f2 f3 N w hR hall hr hN rfl).mono ?_
      rintro e w' ⟨rfl, hb⟩
      exact ⟨rfl, hR.below hb, grown_of_below hb _⟩
    have hk30 : k < 30 := by have := h.h2; omega
    obtain ⟨s0, s1⟩ := right_sets h ⟨hk, hk30⟩
    have h0 := ht0 s0
    have h1 : t1 = -1 ∨ At R t1 ∧ t0 ≠ t1 := by
      rcases ht1 with e | e
      · exact .inl e
      · exact .inr ⟨e, s1.resolve_left (by have := e.1; omega)⟩
    have n30 : ¬ (k : Int) = 30 := by omega
    have n31 : ¬ (k : Int) = 31 := by omega
    by_cases hp : (pairsV k (rv R (regsOf [f0, f1, f2, f3]) 0) (rv R (regsOf [f0, f1, f2, f3]) 1) (rv R (regsOf [f0, f1, f2, f3]) 1 * 4294967296 + rv R (regsOf [f0, f1, f2, f3]) 0) (rv R (regsOf [f0, f1, f2, f3]) 3 * 4294967296 + rv R (regsOf [f0, f1, f2, f3]) 2)).2 = true
    · have e : doV k t0 t1 f0 f1 f2 f3 N R = (0, 0, wroteV R t0 t1 ((pairsV k (rv R (regsOf [f0, f1, f2, f3]) 0) (rv R (regsOf [f0, f1, f2, f3]) 1) (rv R (regsOf [f0, f1, f2, f3]) 1 * 4294967296 + rv R (regsOf [f0, f1, f2, f3]) 0) (rv R (regsOf [f0, f1, f2, f3]) 3 * 4294967296 + rv R (regsOf [f0, f1, f2, f3]) 2)).1 % 4294967296) ((pairsV k (rv R (regsOf [f0, f1, f2, f3]) 0) (rv R (regsOf [f0, f1, f2, f3]) 1) (rv R (regsOf [f0, f1, f2, f3]) 1 * 4294967296 + rv R (regsOf [f0, f1, f2, f3]) 0) (rv R (regsOf [f0, f1, f2, f3]) 3 * 4294967296 + rv R (regsOf [f0, f1, f2, f3]) 2)).1 / 4294967296)) := by
        unfold doV; rw [if_neg hrn]; unfold resV; rw [if_neg n30, if_neg n31, if_pos hp]; rfl
      rw [e]
      have hkk := pairsV_kind _ _ _ _ _ hp
      exact do_pairs sb rb rc mb S R k t0 t1 f0 f1 f2 f3 N _ w hR hall hr hN h0 h1 (by omega) (by omega) (Prod.ext rfl hp) (pairsV_bd _ _ _ _ _)
    · have hp' := pairsV_no _ _ _ _ _ (by simpa using hp)
      by_cases hs : (sumsV k N (rv R (regsOf [f0, f1, f2, f3]) 0) (rv R (regsOf [f0, f1, f2, f3]) 1) (rv R (regsOf [f0, f1, f2, f3]) 2)).2 = true
      · have e : doV k t0 t1 f0 f1 f2 f3 N R = (0, 0, wroteV R t0 t1 (sumsV k N (rv R (regsOf [f0, f1, f2, f3]) 0) (rv R (regsOf [f0, f1, f2, f3]) 1) (rv R (regsOf [f0, f1, f2, f3]) 2)).1 0) := by
          unfold doV; rw [if_neg hrn]; unfold resV; rw [if_neg n30, if_neg n31, if_neg hp, if_pos hs]; rfl
        rw [e]
        exact do_sums sb rb rc mb S R k t0 t1 f0 f1 f2 f3 N _ w hR hall hr hN h0 h1 (by omega) (by omega) hp' (Prod.ext rfl hs) (sumsV_bd _ _ _ _ _ hN b0 b1)
      · have hs' := sumsV_no _ _ _ _ _ (by simpa using hs)
        have e : doV k t0 t1 f0 f1 f2 f3 N R = (0, 0, wroteV R t0 t1 (logicV k N (rv R (regsOf [f0, f1, f2, f3]) 0) (rv R (regsOf [f0, f1, f2, f3]) 1)) 0) := by
          unfold doV; rw [if_neg hrn]; unfold resV; rw [if_neg n30, if_neg n31, if_neg hp, if_neg hs]; rfl
        rw [e]
        exact do_logic sb rb rc mb S R k t0 t1 f0 f1 f2 f3 N _ w hR hall hr hN h0 h1 (by omega) (by omega) hp' hs' rfl (logicV_bd _ _ _ _ b0)
end Go.Proofs.YtmkencdkglbpbaaDoor
