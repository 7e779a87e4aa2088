/- vop: Name. -/
import Derived.Test.YtmkencdkglbpbaaDoorVopN
set_option maxRecDepth 100000
set_option linter.unusedVariables false
namespace Go.Proofs.YtmkencdkglbpbaaDoor
open Go.RowKit

/-- The kinds' names. -/
def nameL : List (List UInt8) := [[], [78, 117, 109], [71, 101, 116], [80, 117, 116], [66, 97, 115, 101], [76, 111, 97, 100], [83, 116, 111, 114, 101], [65, 110, 100], [79, 114], [88, 111, 114], [65, 100, 100], [83, 117, 98], [77, 117, 108], [83, 104, 108], [83, 104, 114], [82, 111, 114], [78, 111, 116], [78, 101, 103], [83, 104, 108, 78], [83, 104, 114, 78], [82, 111, 114, 78], [76, 101, 115, 115], [83, 97, 109, 101], [65, 100, 100, 80, 97, 105, 114], [83, 117, 98, 80, 97, 105, 114], [76, 101, 115, 115, 80, 97, 105, 114], [77, 117, 108, 87, 105, 100, 101], [77, 97, 115, 107], [68, 105, 118], [82, 101, 115, 116], [66, 101, 108, 111, 119], [83, 111, 109, 101]]
def nameOf (k : Nat) : ByteArray := ⟨(nameL.getD k []).toArray⟩
def nameArr : Array Value := (nameL.map (fun l => Value.string ⟨l.toArray⟩)).toArray
theorem nameArr_get (k : Nat) (hk : k < 32) : nameArr[k]? = some (.string (nameOf k)) := by
  have hl : k < nameL.length := hk
  unfold nameArr nameOf
  rw [List.getElem?_toArray, List.getElem?_map, List.getD_eq_getElem?_getD, List.getElem?_eq_getElem hl]; rfl
theorem nameOf_ne (k : Nat) (h1 : 1 ≤ k) (h2 : k ≤ 31) : (nameOf k == ByteArray.empty) = false := by
  have : ∀ k : Fin 32, 1 ≤ k.1 → (nameOf k.1 == ByteArray.empty) = false := by decide
  exact this ⟨k, by omega⟩ h1

set_option maxHeartbeats 2000000 in
theorem name_no (K : Int) (h : K < 1 ∨ 31 < K) (w : World) :
    Calls Tryd.prog 26 #[.int .i64 K] w fun e w' => e = .returned (.string ByteArray.empty) ∧ Below w.heap.size w w' := by
  have hsz : (Tryd.prog.info? 112).map (·.size) = some nameArr.size := by kernel_rfl
  have HZ := Lib.hid hsz
  clear hsz
  have hv : (decide ((1 : Int) ≤ K) && decide (K ≤ 31)) = false := by rcases h with h | h <;> simp <;> omega
  have HI : Hid (∀ w, Calls Tryd.prog 40 #[.int .i64 K] w fun e w' => e = .returned (.bool false) ∧ w' = w) := fun w => by
    have := is_any K w
    rw [hv] at this; exact this
  clear hv
  go_enter Tryd.func26, Tryd.ntmps26
  iterate 17 go_step
  refine wpList_store_row rfl 112 (.tmp 3) (.tmp 4) rfl w.heap.size nameArr rfl rfl 112 #[.string ⟨#[]⟩, .string ⟨#[]⟩, .string ⟨#[]⟩, .string ⟨#[]⟩, .string ⟨#[]⟩, .string ⟨#[]⟩, .string ⟨#[]⟩, .string ⟨#[]⟩, .string ⟨#[]⟩, .string ⟨#[]⟩, .string ⟨#[]⟩, .string ⟨#[]⟩, .string ⟨#[]⟩, .string ⟨#[]⟩, .string ⟨#[]⟩, .string ⟨#[]⟩, .string ⟨#[]⟩, .string ⟨#[]⟩, .string ⟨#[]⟩, .string ⟨#[]⟩, .string ⟨#[]⟩, .string ⟨#[]⟩, .string ⟨#[]⟩, .string ⟨#[]⟩, .string ⟨#[]⟩, .string ⟨#[]⟩, .string ⟨#[]⟩, .string ⟨#[]⟩, .string ⟨#[]⟩, .string ⟨#[]⟩, .string ⟨#[]⟩, .string ⟨#[]⟩] (heap_alloc_new _ _) HZ.out rfl (by kernel_rfl) ?_
  rw [World.setRow_alloc_new]
  obtain ⟨W, hW⟩ : ∃ W, W = w.alloc (.cells nameArr 112) := ⟨_, rfl⟩
  rw [← hW]
  have hB : Below w.heap.size w W := by rw [hW]; exact (Below.refl _ w).alloc (Nat.le_refl _) _
  have HB := Lib.hid hB
  clear hW hB
  go_wp2_with fail
  refine (HI.out W).mono ?_
  rintro e w2 ⟨rfl, rfl⟩
  go_wp2_with fail
  go_ret
  exact ⟨rfl, HB.out⟩

set_option maxHeartbeats 2000000 in
theorem name_yes (k : Nat) (h : 1 ≤ k) (h2 : k ≤ 31) (w : World) :
    Calls Tryd.prog 26 #[.int .i64 k] w fun e w' => e = .returned (.string (nameOf k)) ∧ Below w.heap.size w w' := by
  obtain ⟨nm, hnm⟩ : ∃ nm, nm = nameOf k := ⟨_, rfl⟩
  rw [← hnm]
  have HN := Lib.hid hnm
  clear hnm
  have hsz : (Tryd.prog.info? 112).map (·.size) = some nameArr.size := by kernel_rfl
  have HZ := Lib.hid hsz
  clear hsz
  have hv : (decide ((1 : Int) ≤ (k : Int)) && decide ((k : Int) ≤ 31)) = true := by simp; omega
  have HI : Hid (∀ w, Calls Tryd.prog 40 #[.int .i64 k] w fun e w' => e = .returned (.bool true) ∧ w' = w) := fun w => by
    have := is_any k w
    rw [hv] at this; exact this
  clear hv
  go_enter Tryd.func26, Tryd.ntmps26
  iterate 17 go_step
  refine wpList_store_row rfl 112 (.tmp 3) (.tmp 4) rfl w.heap.size nameArr rfl rfl 112 #[.string ⟨#[]⟩, .string ⟨#[]⟩, .string ⟨#[]⟩, .string ⟨#[]⟩, .string ⟨#[]⟩, .string ⟨#[]⟩, .string ⟨#[]⟩, .string ⟨#[]⟩, .string ⟨#[]⟩, .string ⟨#[]⟩, .string ⟨#[]⟩, .string ⟨#[]⟩, .string ⟨#[]⟩, .string ⟨#[]⟩, .string ⟨#[]⟩, .string ⟨#[]⟩, .string ⟨#[]⟩, .string ⟨#[]⟩, .string ⟨#[]⟩, .string ⟨#[]⟩, .string ⟨#[]⟩, .string ⟨#[]⟩, .string ⟨#[]⟩, .string ⟨#[]⟩, .string ⟨#[]⟩, .string ⟨#[]⟩, .string ⟨#[]⟩, .string ⟨#[]⟩, .string ⟨#[]⟩, .string ⟨#[]⟩, .string ⟨#[]⟩, .string ⟨#[]⟩] (heap_alloc_new _ _) HZ.out rfl (by kernel_rfl) ?_
  rw [World.setRow_alloc_new]
  obtain ⟨W, hW⟩ : ∃ W, W = w.alloc (.cells nameArr 112) := ⟨_, rfl⟩
  rw [← hW]
  have hB : Below w.heap.size w W := by rw [hW]; exact (Below.refl _ w).alloc (Nat.le_refl _) _
  have HB := Lib.hid hB
  have c0 : W.cell? ⟨w.heap.size, k, none⟩ = some (.string (nameOf k)) := by
    rw [hW, World.cell?_alloc_at _ _ _ _ rfl]; exact nameArr_get k (by omega)
  clear hW hB
  rw [← HN.out] at c0
  have i0 : (0 : Int) ≤ (k : Int) := by omega
  have i1 : (k : Int) < 32 := by omega
  have i2 : k < 32 := by omega
  go_wp2_with fail
  refine (HI.out W).mono ?_
  rintro e w2 ⟨rfl, rfl⟩
  go_wp2_with fail
  go_ret
  exact ⟨rfl, HB.out⟩
end Go.Proofs.YtmkencdkglbpbaaDoor
