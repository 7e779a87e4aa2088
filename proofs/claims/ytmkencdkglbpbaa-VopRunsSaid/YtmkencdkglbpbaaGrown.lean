/- A state behind what turns another block alone. -/
import Derived.Test.YtmkencdkglbpbaaVopU
import Derived.Test.YtmkencdkglbpbaaVopN
set_option maxRecDepth 100000
set_option linter.unusedVariables false
namespace Go.Proofs.Ytmkencdkglbpbaa
open Go.RowKit

/-- A state behind what turns another block alone. -/
theorem RegAt.grown {w w' : World} {sb rb rc mb : Nat} {S : Int} {R : List Int} {r : Nat} (h : RegAt w sb rb rc mb S R) (hg : w.grownBy w' (some r)) (h1 : r ≠ sb) (h2 : r ≠ rb) : RegAt w' sb rb rc mb S R :=
  { h with
    blk := (hg.block _ (lt_of_block h.blk) (by intro e; injection e with e; exact h1 e.symm)).trans h.blk
    row := fun i hi => by
      rw [World.cell?_of_block (w := w) (a := ⟨rb, i, none⟩) (hg.block _ h.rlt (by intro e; injection e with e; exact h2 e.symm))]
      exact h.row i hi
    free := fun i => by
      rw [World.frozen?_of_block (w := w) (a := ⟨rb, i, none⟩) (hg.block _ h.rlt (by intro e; injection e with e; exact h2 e.symm))]
      exact h.free i
    rlt := Nat.lt_of_lt_of_le h.rlt hg.size }
theorem OpAt.grown {w w' : World} {b r : Nat} {K t0 t1 f0 f1 f2 f3 N : Int} (h : OpAt w b K t0 t1 f0 f1 f2 f3 N) (hg : w.grownBy w' (some r)) (h1 : r ≠ b) : OpAt w' b K t0 t1 f0 f1 f2 f3 N :=
  (hg.block _ (lt_of_block h) (by intro e; injection e with e; exact h1 e.symm)).trans h

end Go.Proofs.Ytmkencdkglbpbaa
