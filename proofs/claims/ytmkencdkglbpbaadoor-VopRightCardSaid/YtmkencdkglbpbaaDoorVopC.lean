/- The document's Shape. -/
import Derived.Test.YtmkencdkglbpbaaDoorVopB
import Derived.Deep.WholeRow
import Derived.BigQuiet
set_option maxRecDepth 100000
set_option linter.unusedVariables false
namespace Go.Proofs.YtmkencdkglbpbaaDoor
open Go.RowKit

theorem below_drewN {B : Nat} {a w : World} (h : Below B a w) (n : Nat) : Below B a (w.drewN n) := ⟨h.os, h.tape, h.output, h.size, h.block⟩

def toL : List Int := [0, 1, 1, 0, 1, 1, 0, 1, 1, 1, 1, 1, 1, 1, 1, 1, 1, 1, 1, 1, 1, 1, 1, 2, 2, 1, 2, 1, 1, 1, 0, 0]
def fromL : List Int := [0, 0, 0, 1, 0, 2, 3, 2, 2, 2, 2, 2, 2, 2, 2, 2, 1, 1, 1, 1, 1, 2, 2, 4, 4, 4, 2, 1, 2, 3, 1, 1]
def toArr : Array Value := (toL.map (Value.int .i64)).toArray
def fromArr : Array Value := (fromL.map (Value.int .i64)).toArray
theorem toArr_get (k : Nat) (hk : k < 32) : toArr[k]? = some (.int .i64 (toL.getD k 0)) := by
  have hl : k < toL.length := hk
  unfold toArr
  rw [List.getElem?_toArray, List.getElem?_map, List.getD_eq_getElem?_getD, List.getElem?_eq_getElem hl]; rfl
theorem fromArr_get (k : Nat) (hk : k < 32) : fromArr[k]? = some (.int .i64 (fromL.getD k 0)) := by
  have hl : k < fromL.length := hk
  unfold fromArr
  rw [List.getElem?_toArray, List.getElem?_map, List.getD_eq_getElem?_getD, List.getElem?_eq_getElem hl]; rfl

set_option maxHeartbeats 2000000 in
theorem refShape_no (K : Int) (h : K < 1 ∨ 31 < K) (w : World) :
    Calls Tryd.prog 24 #[.int .i64 K] w fun e w' => e = .returned (.tuple #[.int .i64 (-1), .int .i64 (-1)]) ∧ Below w.heap.size w w' := by
  have hsz : (Tryd.prog.info? 110).map (·.size) = some toArr.size := by kernel_rfl
  have HZ := Lib.hid hsz
  have hsz2 : (Tryd.prog.info? 110).map (·.size) = some fromArr.size := by kernel_rfl
  have HZ2 := Lib.hid hsz2
  clear hsz hsz2
  go_enter Tryd.func24, Tryd.ntmps24
  iterate 20 go_step
  refine wpList_store_row rfl 110 (.tmp 4) (.tmp 6) rfl w.heap.size toArr rfl rfl 110 #[.int .i64 0, .int .i64 0, .int .i64 0, .int .i64 0, .int .i64 0, .int .i64 0, .int .i64 0, .int .i64 0, .int .i64 0, .int .i64 0, .int .i64 0, .int .i64 0, .int .i64 0, .int .i64 0, .int .i64 0, .int .i64 0, .int .i64 0, .int .i64 0, .int .i64 0, .int .i64 0, .int .i64 0, .int .i64 0, .int .i64 0, .int .i64 0, .int .i64 0, .int .i64 0, .int .i64 0, .int .i64 0, .int .i64 0, .int .i64 0, .int .i64 0, .int .i64 0] (heap_alloc_new _ _) HZ.out rfl (by kernel_rfl) ?_
  rw [World.setRow_alloc_new]
  iterate 11 go_step
  refine wpList_store_row rfl 110 (.tmp 5) (.tmp 7) rfl (w.heap.size + 1) fromArr rfl rfl 110 #[.int .i64 0, .int .i64 0, .int .i64 0, .int .i64 0, .int .i64 0, .int .i64 0, .int .i64 0, .int .i64 0, .int .i64 0, .int .i64 0, .int .i64 0, .int .i64 0, .int .i64 0, .int .i64 0, .int .i64 0, .int .i64 0, .int .i64 0, .int .i64 0, .int .i64 0, .int .i64 0, .int .i64 0, .int .i64 0, .int .i64 0, .int .i64 0, .int .i64 0, .int .i64 0, .int .i64 0, .int .i64 0, .int .i64 0, .int .i64 0, .int .i64 0, .int .i64 0] (by have := heap_alloc_new (w.alloc (.cells toArr 110)) (.cells #[.int .i64 0, .int .i64 0, .int .i64 0, .int .i64 0, .int .i64 0, .int .i64 0, .int .i64 0, .int .i64 0, .int .i64 0, .int .i64 0, .int .i64 0, .int .i64 0, .int .i64 0, .int .i64 0, .int .i64 0, .int .i64 0, .int .i64 0, .int .i64 0, .int .i64 0, .int .i64 0, .int .i64 0, .int .i64 0, .int .i64 0, .int .i64 0, .int .i64 0, .int .i64 0, .int .i64 0, .int .i64 0, .int .i64 0, .int .i64 0, .int .i64 0, .int .i64 0] 110); rwa [World.size_alloc] at this) HZ2.out rfl (by kernel_rfl) ?_
  rw [show w.heap.size + 1 = (w.alloc (.cells toArr 110)).heap.size from (World.size_alloc _ _).symm, World.setRow_alloc_new]
  rw [World.size_alloc]
  obtain ⟨W, hW⟩ : ∃ W, W = (w.alloc (.cells toArr 110)).alloc (.cells fromArr 110) := ⟨_, rfl⟩
  rw [← hW]
  have hB : Below w.heap.size w W := by rw [hW]; exact ((Below.refl _ w).alloc (Nat.le_refl _) _).alloc (by simp) _
  have HB := Lib.hid hB
  clear hW hB
  by_cases h1 : K < 1
  · have e1 : decide (K < 1) = true := by simpa using h1
    go_wp2
    go_ret2
    exact ⟨rfl, HB.out⟩
  · have e1 : decide (K < 1) = false := by simpa using h1
    have e2 : decide ((31 : Int) < K) = true := by simp; omega
    go_wp2
    go_ret2
    exact ⟨rfl, HB.out⟩

set_option maxHeartbeats 2000000 in
theorem refShape_yes (k : Nat) (h : 1 ≤ k) (h2 : k ≤ 31) (w : World) :
    Calls Tryd.prog 24 #[.int .i64 k] w fun e w' => e = .returned (.tuple #[.int .i64 (toL.getD k 0), .int .i64 (fromL.getD k 0)]) ∧ Below w.heap.size w w' := by
  have hsz : (Tryd.prog.info? 110).map (·.size) = some toArr.size := by kernel_rfl
  have HZ := Lib.hid hsz
  have hsz2 : (Tryd.prog.info? 110).map (·.size) = some fromArr.size := by kernel_rfl
  have HZ2 := Lib.hid hsz2
  clear hsz hsz2
  go_enter Tryd.func24, Tryd.ntmps24
  iterate 20 go_step
  refine wpList_store_row rfl 110 (.tmp 4) (.tmp 6) rfl w.heap.size toArr rfl rfl 110 #[.int .i64 0, .int .i64 0, .int .i64 0, .int .i64 0, .int .i64 0, .int .i64 0, .int .i64 0, .int .i64 0, .int .i64 0, .int .i64 0, .int .i64 0, .int .i64 0, .int .i64 0, .int .i64 0, .int .i64 0, .int .i64 0, .int .i64 0, .int .i64 0, .int .i64 0, .int .i64 0, .int .i64 0, .int .i64 0, .int .i64 0, .int .i64 0, .int .i64 0, .int .i64 0, .int .i64 0, .int .i64 0, .int .i64 0, .int .i64 0, .int .i64 0, .int .i64 0] (heap_alloc_new _ _) HZ.out rfl (by kernel_rfl) ?_
  rw [World.setRow_alloc_new]
  iterate 11 go_step
  refine wpList_store_row rfl 110 (.tmp 5) (.tmp 7) rfl (w.heap.size + 1) fromArr rfl rfl 110 #[.int .i64 0, .int .i64 0, .int .i64 0, .int .i64 0, .int .i64 0, .int .i64 0, .int .i64 0, .int .i64 0, .int .i64 0, .int .i64 0, .int .i64 0, .int .i64 0, .int .i64 0, .int .i64 0, .int .i64 0, .int .i64 0, .int .i64 0, .int .i64 0, .int .i64 0, .int .i64 0, .int .i64 0, .int .i64 0, .int .i64 0, .int .i64 0, .int .i64 0, .int .i64 0, .int .i64 0, .int .i64 0, .int .i64 0, .int .i64 0, .int .i64 0, .int .i64 0] (by have := heap_alloc_new (w.alloc (.cells toArr 110)) (.cells #[.int .i64 0, .int .i64 0, .int .i64 0, .int .i64 0, .int .i64 0, .int .i64 0, .int .i64 0, .int .i64 0, .int .i64 0, .int .i64 0, .int .i64 0, .int .i64 0, .int .i64 0, .int .i64 0, .int .i64 0, .int .i64 0, .int .i64 0, .int .i64 0, .int .i64 0, .int .i64 0, .int .i64 0, .int .i64 0, .int .i64 0, .int .i64 0, .int .i64 0, .int .i64 0, .int .i64 0, .int .i64 0, .int .i64 0, .int .i64 0, .int .i64 0, .int .i64 0] 110); rwa [World.size_alloc] at this) HZ2.out rfl (by kernel_rfl) ?_
  rw [show w.heap.size + 1 = (w.alloc (.cells toArr 110)).heap.size from (World.size_alloc _ _).symm, World.setRow_alloc_new]
  rw [World.size_alloc]
  obtain ⟨W, hW⟩ : ∃ W, W = (w.alloc (.cells toArr 110)).alloc (.cells fromArr 110) := ⟨_, rfl⟩
  rw [← hW]
  have hB : Below w.heap.size w W := by rw [hW]; exact ((Below.refl _ w).alloc (Nat.le_refl _) _).alloc (by simp) _
  have HB := Lib.hid hB
  have c0 : W.cell? ⟨w.heap.size, k, none⟩ = some (.int .i64 (toL.getD k 0)) := by
    rw [hW, World.cell?_alloc_past _ _ _ (by simp), World.cell?_alloc_at _ _ _ _ rfl]; exact toArr_get k (by omega)
  have c1 : W.cell? ⟨w.heap.size + 1, k, none⟩ = some (.int .i64 (fromL.getD k 0)) := by
    rw [hW, World.cell?_alloc_at _ _ _ _ (by simp)]; exact fromArr_get k (by omega)
  clear hW hB
  obtain ⟨T, hT⟩ : ∃ T, T = toL.getD k 0 := ⟨_, rfl⟩
  obtain ⟨S, hS⟩ : ∃ S, S = fromL.getD k 0 := ⟨_, rfl⟩
  rw [← hT] at c0
  rw [← hS] at c1
  have HT := Lib.hid hT
  have HS := Lib.hid hS
  clear hT hS
  have e1 : decide ((k : Int) < 1) = false := by simp; omega
  have e2 : decide ((31 : Int) < (k : Int)) = false := by simp; omega
  have i0 : (0 : Int) ≤ (k : Int) := by omega
  have i1 : (k : Int) < 32 := by omega
  have i2 : k < 32 := by omega
  go_wp2
  go_quiet (fail)
  go_wp2
  go_ret2
  exact ⟨by rw [HT.out, HS.out]; rfl, below_drewN HB.out nq⟩
end Go.Proofs.YtmkencdkglbpbaaDoor
