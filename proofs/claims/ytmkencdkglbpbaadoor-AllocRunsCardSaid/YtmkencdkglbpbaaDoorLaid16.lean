/- The kinds' rows, as the program's text lays them: what the walks take of them. -/
import Derived.Test.YtmkencdkglbpbaaDoorRows
import Derived.Test.YtmkencdkglbpbaaDoorVopQ
import Derived.ProofKit
import Derived.LaidMore
import Derived.OpenShut
import Derived.Stop.Joined
set_option maxRecDepth 100000
namespace Go.Proofs.YtmkencdkglbpbaaDoor
open Go.RowKit

theorem gRows : Tryd.prog.globalNamed "remontoire/vop.rows" = some 0 := by kernel_rfl
theorem tRows : (Tryd.prog.globals[0]?).map (·.type) = some 124 := by kernel_rfl
theorem underRows : Tryd.prog.underlying 124 = some (.array 32 90) := by kernel_rfl
theorem cellsRows : Tryd.prog.cellsOf 124 = 64 := by kernel_rfl
theorem cellsRow : Tryd.prog.cellsOf 90 = 2 := by kernel_rfl

/-- What is listed. -/
abbrev laidRows : List (String × DataW Unit) := [("remontoire/vop.rows", Rows.laid_remontoire_vop_rows)]

theorem datum_rows : (Rows.laid_remontoire_vop_rows : DataW Unit) = .agg ((List.range 32).map fun k => .agg [.lit (.int .i64 (toL.getD k 0)), .lit (.int .i64 (fromL.getD k 0))]) := rfl

theorem hasRows_of {W : World} (h : laidMetH Tryd.prog laidRows W) : HasRows W := by
  rw [MakeChecks.laidMetH_plain _ _ _ (by kernel_rfl)] at h
  obtain ⟨ps, ⟨g0, t0, cs0, f0, p0, q0, hg0, ht0, hv0, hd0, _⟩, _⟩ := h
  obtain rfl := Option.some.inj (gRows.symm.trans hg0)
  obtain rfl := Option.some.inj (tRows.symm.trans ht0)
  obtain ⟨xs, m, rfl, hx, hlen, hn, hel⟩ := DataW.trod_array underRows hd0
  rw [cellsRow] at hel
  rw [cellsRows] at hlen
  simp only [Prod.mk.injEq] at hx
  have hx1 := hx.1
  rw [datum_rows] at hx1
  simp only [DataW.agg.injEq] at hx1
  have key : ∀ i, i < 32 → (cs0.toList.drop (i * 2)).take 2 = [.int .i64 (toL.getD i 0), .int .i64 (fromL.getD i 0)] := by
    intro i hi
    have hxi : xs[i]? = some (xs[i]'(by omega)) := List.getElem?_eq_getElem (by omega)
    have h1 := hel i hi
    rw [hxi] at h1
    obtain ⟨ys, n', hm, hxv, hcl, hyl, hf⟩ := DataW.trod_struct Tryd.underlying90 h1
    obtain ⟨c0, c1, hcs⟩ : ∃ c0 c1, List.take 2 (List.drop (i * 2) cs0.toList) = [c0, c1] := by
      have hl : (List.take 2 (List.drop (i * 2) cs0.toList)).length = 2 := by rw [hcl]; exact cellsRow
      match List.take 2 (List.drop (i * 2) cs0.toList), hl with
      | [c0, c1], _ => exact ⟨c0, c1, rfl⟩
    rw [hcs] at hf ⊢
    have g0 := hf 0 { name := "to", type := 3, offset := 0, embedded := false, tag := "", pkgPath := "remontoire/vop", byteOffset := 0 } rfl
    have g1 := hf 1 { name := "from", type := 3, offset := 1, embedded := false, tag := "", pkgPath := "remontoire/vop", byteOffset := 8 } rfl
    dsimp only at g0 g1
    rw [cellsOfInt] at g0 g1
    simp only [List.drop_zero, List.drop_succ_cons, List.take_succ_cons, List.take_zero] at g0 g1
    have hyl2 : ys.length = 2 := by rw [hyl]; rfl
    obtain ⟨y0, y1, rfl⟩ : ∃ y0 y1, ys = [y0, y1] := by
      match ys, hyl2 with
      | [y0, y1], _ => exact ⟨y0, y1, rfl⟩
    obtain ⟨A, b0, e0, _⟩ := DataW.trod_int Tryd.underlying3 (g0.trans (show _ = some y0 from rfl))
    obtain ⟨B, b1, e1, _⟩ := DataW.trod_int Tryd.underlying3 (g1.trans (show _ = some y1 from rfl))
    simp only [List.cons.injEq, and_true] at b0 b1
    subst b0 b1
    have h2 : (xs.map (·.1))[i]? = some (.agg [.lit (.int .i64 A), .lit (.int .i64 B)]) := by
      rw [List.getElem?_map, hxi, hxv]
      rw [e0, e1]; rfl
    rw [← hx1, List.getElem?_map, List.getElem?_range hi] at h2
    simp only [Option.map_some, Option.some.injEq, DataW.agg.injEq, List.cons.injEq, and_true, DataW.lit.injEq, Lit.int.injEq, true_and] at h2
    rw [h2.1, h2.2]
  have hcs : cs0 = rowArr := by
    apply Array.ext'
    apply List.ext_getElem?
    intro i
    by_cases hi : i < 64
    · have hk := key (i / 2) (by omega)
      have h5 : ((cs0.toList.drop (i / 2 * 2)).take 2)[i % 2]? = cs0.toList[i]? := by
        rw [List.getElem?_take, if_pos (by omega), List.getElem?_drop, show i / 2 * 2 + i % 2 = i from by omega]
      rw [← h5, hk]
      have l1 : i / 2 < toL.length := by show i / 2 < 32; omega
      have l2 : i / 2 < fromL.length := by show i / 2 < 32; omega
      obtain ⟨c0, c1⟩ := rowCells_get toL fromL (i / 2) l1 l2
      have e0 : toL.getD (i / 2) 0 = toL[i / 2] := by rw [List.getD_eq_getElem?_getD, List.getElem?_eq_getElem l1]; rfl
      have e1 : fromL.getD (i / 2) 0 = fromL[i / 2] := by rw [List.getD_eq_getElem?_getD, List.getElem?_eq_getElem l2]; rfl
      rw [e0, e1]
      unfold rowArr
      rcases (show i % 2 = 0 ∨ i % 2 = 1 by omega) with hm | hm
      · rw [hm, show (rowCells toL fromL).toArray.toList[i]? = (rowCells toL fromL)[i / 2 * 2]? from by rw [show i / 2 * 2 = i from by omega], c0]; rfl
      · rw [hm, show (rowCells toL fromL).toArray.toList[i]? = (rowCells toL fromL)[i / 2 * 2 + 1]? from by rw [show i / 2 * 2 + 1 = i from by omega], c1]; rfl
    · rw [List.getElem?_eq_none (by omega), List.getElem?_eq_none (by show 64 ≤ i; omega)]
  subst hcs
  simp only [World.var?, gRows, Option.bind_some] at hv0
  split at hv0
  · rename_i cs t fr hh
    cases hv0
    exact ⟨t, fr, hh⟩
  · cases hv0

theorem door_met (os : Os) (args : Array Value) : laidMetH Tryd.prog laidRows ((World.doorLaid Tryd.prog 400 os).forCall (fun _ _ => 0) ⟨#[], args, []⟩).memory :=
  laidMetH_of_parts3 (fuel := 8) (laidMet_of_run' 8 (by kernel_rfl) (by kernel_rfl)) (by kernel_rfl) (by kernel_rfl)
end Go.Proofs.YtmkencdkglbpbaaDoor
