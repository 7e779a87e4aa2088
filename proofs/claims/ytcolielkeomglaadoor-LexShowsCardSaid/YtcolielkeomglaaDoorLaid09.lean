/- The table of signs, as the program's text lays it: what the walks take of it. -/
import Derived.Test.YtcolielkeomglaaDoorRows
import Derived.Test.YtcolielkeomglaaDoorLexD
import Derived.ProofKit
import Derived.LaidMore
import Derived.OpenShut
import Derived.Stop.Joined
set_option maxRecDepth 100000
namespace Go.Proofs.YtcolielkeomglaaDoor
open Go.RowKit

theorem gSigns : Tryd.prog.globalNamed "remontoire/lex.signs" = some 0 := by kernel_rfl
theorem tSigns : (Tryd.prog.globals[0]?).map (·.type) = some 56 := by kernel_rfl
theorem underSigns : Tryd.prog.underlying 56 = some (.array 26 9) := by kernel_rfl
theorem cellsSigns : Tryd.prog.cellsOf 56 = 26 := by kernel_rfl
theorem cellsStr : Tryd.prog.cellsOf 9 = 1 := by kernel_rfl

/-- What is listed. -/
abbrev laidSigns : List (String × DataW Unit) := [("remontoire/lex.signs", Rows.laid_remontoire_lex_signs)]

theorem datum_signs : (Rows.laid_remontoire_lex_signs : DataW Unit) = .agg (signs.map fun l => .lit (.string l)) := rfl

theorem hasSigns_of {W : World} (h : laidMetH Tryd.prog laidSigns W) : HasSigns W := by
  rw [MakeChecks.laidMetH_plain _ _ _ (by kernel_rfl)] at h
  obtain ⟨ps, ⟨g0, t0, cs0, f0, p0, q0, hg0, ht0, hv0, hd0, _⟩, _⟩ := h
  obtain rfl := Option.some.inj (gSigns.symm.trans hg0)
  obtain rfl := Option.some.inj (tSigns.symm.trans ht0)
  obtain ⟨xs, m, rfl, hx, hlen, hn, hel⟩ := DataW.trod_array underSigns hd0
  rw [cellsStr] at hel
  rw [cellsSigns] at hlen
  simp only [Prod.mk.injEq] at hx
  have hx1 := hx.1
  rw [datum_signs] at hx1
  simp only [DataW.agg.injEq] at hx1
  have key : ∀ i, i < 26 → cs0.toList[i]? = some (.string (signB i)) := by
    intro i hi
    have hxi : xs[i]? = some (xs[i]'(by omega)) := List.getElem?_eq_getElem (by omega)
    have h1 := hel i hi
    rw [hxi] at h1
    obtain ⟨s, hs, hxs, _⟩ := DataW.trod_string Tryd.underlying9 h1
    have h2 : (xs.map (·.1))[i]? = some (.lit (.string s.data.toList)) := by rw [List.getElem?_map, hxi, hxs]; rfl
    rw [← hx1, List.getElem?_map] at h2
    have h3 : signs[i]? = some s.data.toList := by
      cases hq : signs[i]? with
      | none => rw [hq] at h2; cases h2
      | some q => rw [hq] at h2; simp at h2; rw [h2]
    have h4 : s = signB i := by
      unfold signB
      rw [List.getD_eq_getElem?_getD, h3]
      rfl
    rw [← h4]
    have h5 : (cs0.toList.drop (i * 1))[0]? = some (.string s) := by
      have : ((cs0.toList.drop (i * 1)).take 1)[0]? = some (.string s) := by rw [hs]; rfl
      rw [List.getElem?_take] at this
      simpa using this
    rw [List.getElem?_drop] at h5
    simpa using h5
  have hcs : cs0 = signArr := by
    apply Array.ext'
    apply List.ext_getElem?
    intro i
    by_cases hi : i < 26
    · rw [key i hi]
      have : i = 0 ∨ i = 1 ∨ i = 2 ∨ i = 3 ∨ i = 4 ∨ i = 5 ∨ i = 6 ∨ i = 7 ∨ i = 8 ∨ i = 9 ∨ i = 10 ∨ i = 11 ∨ i = 12 ∨ i = 13 ∨ i = 14 ∨ i = 15 ∨ i = 16 ∨ i = 17 ∨ i = 18 ∨ i = 19 ∨ i = 20 ∨ i = 21 ∨ i = 22 ∨ i = 23 ∨ i = 24 ∨ i = 25 := by omega
      rcases this with rfl | rfl | rfl | rfl | rfl | rfl | rfl | rfl | rfl | rfl | rfl | rfl | rfl | rfl | rfl | rfl | rfl | rfl | rfl | rfl | rfl | rfl | rfl | rfl | rfl | rfl <;> rfl
    · rw [List.getElem?_eq_none (by omega), List.getElem?_eq_none (by show 26 ≤ i; omega)]
  subst hcs
  simp only [World.var?, gSigns, Option.bind_some] at hv0
  split at hv0
  · rename_i cs t fr hh
    cases hv0
    exact ⟨t, fr, hh⟩
  · cases hv0

theorem door_met (os : Os) (args : Array Value) : laidMetH Tryd.prog laidSigns ((World.doorLaid Tryd.prog 400 os).forCall (fun _ _ => 0) ⟨#[], args, []⟩).memory :=
  laidMetH_of_parts3 (fuel := 8) (laidMet_of_run' 8 (by kernel_rfl) (by kernel_rfl)) (by kernel_rfl) (by kernel_rfl)
end Go.Proofs.YtcolielkeomglaaDoor
