/- VopRight: joined. What a right operation is. -/
import Derived.Test.YtmkencdkglbpbaaDoorVopP
set_option maxRecDepth 100000
namespace Go.Proofs.YtmkencdkglbpbaaDoor
open Go.RowKit

theorem okAt_iff (n : Int) (j : Nat) (x : Int) : okAt n j x = true ↔ ((j : Int) < n ∧ 0 ≤ x ∧ x ≤ 65535) ∨ (n ≤ (j : Int) ∧ x = -1) := by
  unfold okAt
  by_cases h : (j : Int) < n
  · rw [if_pos h]
    simp only [Bool.and_eq_true, decide_eq_true_eq]
    omega
  · rw [if_neg h]
    simp only [decide_eq_true_eq]
    omega
/-- What a right operation is. -/
structure RightOp (k : Nat) (t0 t1 f0 f1 f2 f3 N : Int) : Prop where
  h1 : 1 ≤ k
  h2 : k ≤ 31
  pt0 : okAt (toL.getD k 0) 0 t0 = true
  pt1 : okAt (toL.getD k 0) 1 t1 = true
  pf0 : okAt (fromL.getD k 0) 0 f0 = true
  pf1 : okAt (fromL.getD k 0) 1 f1 = true
  pf2 : okAt (fromL.getD k 0) 2 f2 = true
  pf3 : okAt (fromL.getD k 0) 3 f3 = true
  two : toL.getD k 0 < 2 ∨ t0 ≠ t1
  num : numberV k N = true
theorem rightOp_of {K t0 t1 f0 f1 f2 f3 N : Int} (h : rightV K t0 t1 f0 f1 f2 f3 N = true) : ∃ k : Nat, K = k ∧ RightOp k t0 t1 f0 f1 f2 f3 N := by
  unfold rightV at h
  simp only [Bool.and_eq_true, decide_eq_true_eq, placedV, Bool.or_eq_true, bne_iff_ne] at h
  obtain ⟨⟨⟨⟨⟨a1, a2⟩, b0, b1, _⟩, c0, c1, c2, c3, _⟩, d⟩, e⟩ := h
  obtain ⟨k, rfl⟩ : ∃ k : Nat, K = (k : Int) := ⟨K.toNat, by omega⟩
  exact ⟨k, rfl, by omega, by omega, b0, b1, c0, c1, c2, c3, d, e⟩
theorem fromL_bd4 (k : Nat) : 0 ≤ fromL.getD k 0 ∧ fromL.getD k 0 ≤ 4 := by
  by_cases h : k < 32
  · have : ∀ k : Fin 32, 0 ≤ fromL.getD k.1 0 ∧ fromL.getD k.1 0 ≤ 4 := by decide
    exact this ⟨k, h⟩
  · rw [List.getD_eq_getElem?_getD, List.getElem?_eq_none (by simp [fromL]; omega)]; simp
theorem regs_two {n t0 t1 : Int} (h0 : okAt n 0 t0 = true) (h1 : okAt n 1 t1 = true) (hn : 0 ≤ n ∧ n ≤ 2) : ((regsOf [t0, t1]).length : Int) = n ∧ padV (regsOf [t0, t1]) 0 = t0 ∧ padV (regsOf [t0, t1]) 1 = t1 := by
  rw [okAt_iff] at h0 h1
  have hn' : n = 0 ∨ n = 1 ∨ n = 2 := by omega
  have e : ∀ x : Int, 0 ≤ x → (x != -1) = true := fun x hx => by simp; omega
  rcases hn' with rfl | rfl | rfl
  · obtain rfl : t0 = -1 := by omega
    obtain rfl : t1 = -1 := by omega
    exact ⟨rfl, rfl, rfl⟩
  · obtain rfl : t1 = -1 := by omega
    have := e t0 (by omega)
    simp [regsOf, List.filter_cons, this, padV]
  · have := e t0 (by omega)
    have := e t1 (by omega)
    simp [regsOf, List.filter_cons, *, padV]
theorem regs_four {n f0 f1 f2 f3 : Int} (h0 : okAt n 0 f0 = true) (h1 : okAt n 1 f1 = true) (h2 : okAt n 2 f2 = true) (h3 : okAt n 3 f3 = true) (hn : 0 ≤ n ∧ n ≤ 4) :
    ((regsOf [f0, f1, f2, f3]).length : Int) = n ∧ padV (regsOf [f0, f1, f2, f3]) 0 = f0 ∧ padV (regsOf [f0, f1, f2, f3]) 1 = f1 ∧ padV (regsOf [f0, f1, f2, f3]) 2 = f2 ∧ padV (regsOf [f0, f1, f2, f3]) 3 = f3 := by
  rw [okAt_iff] at h0 h1 h2 h3
  have hn' : n = 0 ∨ n = 1 ∨ n = 2 ∨ n = 3 ∨ n = 4 := by omega
  have e : ∀ x : Int, 0 ≤ x → (x != -1) = true := fun x hx => by simp; omega
  rcases hn' with rfl | rfl | rfl | rfl | rfl
  · obtain rfl : f0 = -1 := by omega
    obtain rfl : f1 = -1 := by omega
    obtain rfl : f2 = -1 := by omega
    obtain rfl : f3 = -1 := by omega
    exact ⟨rfl, rfl, rfl, rfl, rfl⟩
  · obtain rfl : f1 = -1 := by omega
    obtain rfl : f2 = -1 := by omega
    obtain rfl : f3 = -1 := by omega
    have := e f0 (by omega)
    simp [regsOf, List.filter_cons, this, padV]
  · obtain rfl : f2 = -1 := by omega
    obtain rfl : f3 = -1 := by omega
    have := e f0 (by omega)
    have := e f1 (by omega)
    simp [regsOf, List.filter_cons, *, padV]
  · obtain rfl : f3 = -1 := by omega
    have := e f0 (by omega)
    have := e f1 (by omega)
    have := e f2 (by omega)
    simp [regsOf, List.filter_cons, *, padV]
  · have := e f0 (by omega)
    have := e f1 (by omega)
    have := e f2 (by omega)
    have := e f3 (by omega)
    simp [regsOf, List.filter_cons, *, padV]

theorem vopRight_walk (K t0 t1 f0 f1 f2 f3 N : Int) (w : World) (hS : HasRows w) (hN : 0 ≤ N ∧ N < 4294967296) :
    Calls Tryd.prog 8 #[opV K t0 t1 f0 f1 f2 f3 N] w fun e w' => e = .returned (.bool true) ∧ Below w.heap.size w w' := by
  by_cases h : 1 ≤ K ∧ K ≤ 31
  · obtain ⟨k, rfl⟩ : ∃ k : Nat, K = (k : Int) := ⟨K.toNat, by omega⟩
    refine vopRight_yes k t0 t1 f0 f1 f2 f3 N (toL.getD k 0) (fromL.getD k 0) (nameOf k) (rightV k t0 t1 f0 f1 f2 f3 N) w hS hN rfl (fun w h => shape_yes k (by omega) (by omega) w h) (fun w => refShape_yes k (by omega) (by omega) w) (fun w => name_yes k (by omega) (by omega) w) (toL_bd k).1 (fromL_bd4 k).1 ?_ fun hv => ?_
    · rw [ByteArray.toList_eq]
      have : ∀ k : Fin 32, 1 ≤ k.1 → (nameOf k.1).data.toList.isEmpty = false := by decide
      exact this ⟨k, by omega⟩ (by show 1 ≤ k; omega)
    · obtain ⟨k', hk, hr⟩ := rightOp_of hv
      obtain rfl : k = k' := by omega
      obtain ⟨a1, a2, a3⟩ := regs_two hr.pt0 hr.pt1 (toL_bd k)
      obtain ⟨b1, b2, b3, b4, b5⟩ := regs_four hr.pf0 hr.pf1 hr.pf2 hr.pf3 (fromL_bd4 k)
      exact ⟨b1, a1, a2, a3, b2, b3, b4, b5⟩
  · refine vopRight_no K t0 t1 f0 f1 f2 f3 N w hS hN ?_ (fun w _ => shape_no K (by omega) w) (fun w => refShape_no K (by omega) w) (fun w => name_no K (by omega) w)
    cases hv : rightV K t0 t1 f0 f1 f2 f3 N
    · rfl
    · obtain ⟨k, rfl, hr⟩ := rightOp_of hv
      have := hr.h1
      have := hr.h2
      omega
end Go.Proofs.YtmkencdkglbpbaaDoor
