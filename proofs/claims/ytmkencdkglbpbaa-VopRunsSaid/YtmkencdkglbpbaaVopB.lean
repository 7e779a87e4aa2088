/- vop: is, number, placed; the document's reg and Shape. -/
import Derived.Test.YtmkencdkglbpbaaVopA
set_option maxRecDepth 100000
set_option linter.unusedVariables false
namespace Go.Proofs.Ytmkencdkglbpbaa
open Go.RowKit

/-- May N be, of a kind? -/
def numberV (K N : Int) : Bool :=
  if K = 1 then true else if K = 2 ∨ K = 3 ∨ K = 4 then decide (N % 4 = 0) && decide (N ≤ 1020) else if K = 18 ∨ K = 19 ∨ K = 20 then decide (1 ≤ N) && decide (N < 32)
  else if K = 30 then (decide (1 ≤ N) && decide (N ≤ 255)) || (decide (N % 4 = 0) && decide (255 < N) && decide (N ≤ 1024)) else decide (N = 0)

theorem reg_any (r i n : Int) (w : World) : Calls Try.prog 17 #[.int .i64 r, .int .i64 i, .int .i64 n] w fun e w' => e = .returned (.bool (if i < n then decide (0 ≤ r) && decide (r ≤ 65535) else decide (r = -1))) ∧ w' = w := by
  obtain ⟨V, hV⟩ : ∃ V, V = (if i < n then decide (0 ≤ r) && decide (r ≤ 65535) else decide (r = -1)) := ⟨_, rfl⟩
  rw [← hV]
  have HV := Lib.hid hV
  clear hV
  go_enter Try.func17, Try.ntmps17
  go_wp2
  all_goals go_ret
  all_goals (refine ⟨?_, rfl⟩; rw [HV.out]; simp_all <;> first | omega | (rw [if_neg (by omega), Bool.eq_iff_iff]; simp))

/-- May a number stand at a place? -/
def okAt (n : Int) (j : Nat) (x : Int) : Bool := if (j : Int) < n then decide (0 ≤ x) && decide (x ≤ 65535) else decide (x = -1)
def placedV (n : Int) : Nat → List Int → Bool
  | _, [] => true
  | j, x :: r => okAt n j x && placedV n (j + 1) r
theorem placedV_drop (n : Int) (F : List Int) (k : Nat) (hk : k < F.length) : placedV n k (F.drop k) = (okAt n k F[k] && placedV n (k + 1) (F.drop (k + 1))) := by
  rw [List.drop_eq_getElem_cons hk, placedV]

end Go.Proofs.Ytmkencdkglbpbaa
