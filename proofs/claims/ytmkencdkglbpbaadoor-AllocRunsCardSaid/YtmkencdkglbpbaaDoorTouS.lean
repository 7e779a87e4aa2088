/- AllocRuns: touches of any right operation whose registers are there. -/
import Derived.Test.YtmkencdkglbpbaaDoorTouR
import Derived.Test.YtmkencdkglbpbaaDoorSimF
set_option maxRecDepth 100000
set_option linter.unusedVariables false
namespace Go.Proofs.YtmkencdkglbpbaaDoor
open Go.RowKit

theorem touchB_iff {K N S v0 v1 fr : Int} {z Z : Nat} (hfr : fr = 536870912 + 4 * (z : Int)) : touchB K N S v0 v1 fr Z = true ↔ touchM K N S v0 v1 z Z := by
  unfold touchB touchM inZone
  simp only [Bool.and_eq_true, Bool.or_eq_true, beq_iff_eq, decide_eq_true_eq]
  generalize atV K S N v0 v1 = A
  omega
theorem regs_near {f0 f1 f2 f3 : Int} (h0 : 0 ≤ f0) (h1 : 0 ≤ f1) : regsOf [f0, f1, f2, f3] = ((f0.toNat : Nat) : Int) :: ((f1.toNat : Nat) : Int) :: regsOf [f2, f3] := by
  have e0 : (f0 != -1) = true := by simp; omega
  have e1 : (f1 != -1) = true := by simp; omega
  unfold regsOf
  rw [List.filter_cons, List.filter_cons, if_pos e0, if_pos e1, show ((f0.toNat : Nat) : Int) = f0 by omega, show ((f1.toNat : Nat) : Int) = f1 by omega]
theorem touch_any (sb rb rc mb : Nat) (S : Int) (R : List Int) (o : Op8) (fr : Int) (Z : Nat) (w : World) (hR : RegAt w sb rb rc mb S R) (ho : o.ok) (hreg : ∀ x ∈ regsOf [o.f0, o.f1, o.f2, o.f3] ++ regsOf [o.t0, o.t1], x < (R.length : Int)) (hfr : 0 ≤ fr ∧ fr < 4294967296) (hZ : Z ≤ 1000) :
    Calls Tryd.prog 33 #[opV o.K o.t0 o.t1 o.f0 o.f1 o.f2 o.f3 o.N, .pointer (some ⟨sb, 0, none⟩), .int .u32 fr, .int .i64 Z] w fun e w' => e = .returned (.bool (touchB o.K o.N S (rv R (regsOf [o.f0, o.f1, o.f2, o.f3]) 0) (rv R (regsOf [o.f0, o.f1, o.f2, o.f3]) 1) fr Z)) ∧ Below w.heap.size w w' := by
  by_cases h56 : o.K = 5 ∨ o.K = 6
  · obtain ⟨k, hk, RO⟩ := rightOp_of ho.1
    have b0 := (okAt_iff _ _ _).1 RO.pf0
    have b1 := (okAt_iff _ _ _).1 RO.pf1
    have hk2 : fromL.getD k 0 ≥ 2 := by
      rcases (show k = 5 ∨ k = 6 by omega) with rfl | rfl <;> decide
    have p0 : 0 ≤ o.f0 := by omega
    have p1 : 0 ≤ o.f1 := by omega
    have hU := regs_near (f2 := o.f2) (f3 := o.f3) p0 p1
    have h0 := hreg o.f0 (by rw [hU]; simp; omega)
    have h1 := hreg o.f1 (by rw [hU]; simp; omega)
    have hl : (regsOf [o.f2, o.f3]).length ≤ 4 := Nat.le_trans (regsOf_le2 _ _) (by omega)
    exact touches_near sb rb rc mb S R o.K o.t0 o.t1 o.f0 o.f1 o.f2 o.f3 o.N fr Z w hR ho.2 hfr hZ h56 o.f0.toNat o.f1.toNat _ hU (by omega) (by omega) hl
  · exact touches_far sb rb rc mb S R o.K o.t0 o.t1 o.f0 o.f1 o.f2 o.f3 o.N fr _ _ Z w hR ho.2 hfr hZ (fun e => h56 (.inl e)) (fun e => h56 (.inr e))
end Go.Proofs.YtmkencdkglbpbaaDoor
