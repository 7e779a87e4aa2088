/- vop: write of two registers. -/
import Derived.Test.YtmkencdkglbpbaaVopG
import Derived.Deep.RegionHeld3
set_option maxRecDepth 100000
set_option linter.unusedVariables false
namespace Go.Proofs.Ytmkencdkglbpbaa
open Go.RowKit

theorem index_two (x y : Value) (w : World) : (Instr.index 97 (.agg #[x, y]) (.int .i64 0)).run Try.prog w = .ok x w ∧ (Instr.index 97 (.agg #[x, y]) (.int .i64 1)).run Try.prog w = .ok y w := by
  constructor
  · show _ = _
    kernel_rfl
  · show _ = _
    kernel_rfl

/-- A register takes a word. -/
theorem RegAt.set {w : World} {sb rb rc mb : Nat} {S : Int} {R : List Int} (h : RegAt w sb rb rc mb S R) (r : Nat) (x : Int) (hx : 0 ≤ x ∧ x < 4294967296) (hr : r < R.length) : RegAt (w.setCell ⟨rb, r, none⟩ (.int .u32 x)) sb rb rc mb S (R.set r x) where
  blk := by
    rw [Below.heap_setCell _ _ _ _ (show sb ≠ rb from fun e => h.ne e.symm), List.length_set]; exact h.blk
  row := fun i hi => by
    have hi' : i < R.length := by simpa using hi
    by_cases e : i = r
    · subst e
      rw [List.getElem_set_self]
      have hc := h.row i hi'
      exact World.cell?_setCell_same' _ _ _ (by rw [hc]; rfl)
    · rw [List.getElem_set_ne (fun e' => e e'.symm), World.cell?_setCell_other _ _ _ _ (by simp [e])]
      exact h.row i hi'
  free := fun i => by rw [World.frozen?_setCell]; exact h.free i
  rlt := by have := h.rlt; simpa [World.setCell] using this
  ne := h.ne
  cap := by rw [List.length_set]; exact h.cap
  small := by rw [List.length_set]; exact h.small
  bytes := fun y hy => by
    rcases List.mem_or_eq_of_mem_set hy with hy | rfl
    · exact h.bytes y hy
    · exact hx
  sbd := h.sbd

set_option maxHeartbeats 2000000 in
theorem write_two (sb rb rc mb : Nat) (S : Int) (R : List Int) (K f0 f1 f2 f3 N lo hi : Int) (r0 r1 : Nat) (w : World) (hR : RegAt w sb rb rc mb S R) (l0 : r0 < R.length) (l1 : r1 < R.length) (hn01 : r0 ≠ r1) (hlo : 0 ≤ lo ∧ lo < 4294967296) (hhi : 0 ≤ hi ∧ hi < 4294967296) :
    Calls Try.prog 23 #[.pointer (some ⟨sb, 0, none⟩), opV K r0 r1 f0 f1 f2 f3 N, .int .u32 lo, .int .u32 hi] w fun e w' => e = .returned (.tuple #[]) ∧ RegAt w' sb rb rc mb S ((R.set r0 lo).set r1 hi) ∧ w.grownBy w' (some rb) := by
  have hF : regsOf [(r0 : Int), r1] = [(r0 : Int), r1] := by
    have e : ∀ r : Nat, ((r : Int) != -1) = true := fun r => by simp
    simp [regsOf, List.filter_cons, e]
  have HR := Lib.hid hR
  have HF := Lib.hid hF
  clear hR hF
  obtain ⟨w1, hw1⟩ : ∃ w1, w1 = w.alloc (.cells #[.int .i64 K, .int .i64 r0, .int .i64 r1, .int .i64 f0, .int .i64 f1, .int .i64 f2, .int .i64 f3, .int .u32 N] 40) := ⟨_, rfl⟩
  have hB1 : Below w.heap.size w w1 := by rw [hw1]; exact (Below.refl _ _).alloc (Nat.le_refl _) _
  go_enter Try.func23, Try.ntmps23
  go_wp2_with fail
  rw [← hw1]
  refine (sets_any K r0 r1 f0 f1 f2 f3 N w1).mono ?_
  rintro e w4 ⟨v, rfl, hown, hb4⟩
  rw [HF.out] at hown
  have hB4 := hB1.trans (hb4.mono hB1.size)
  have HB4 := Lib.hid hB4
  have HRw := Lib.hid (HR.out.below hB4)
  obtain ⟨x, c, rfl, hcl, g, rfl, hg3, hgc⟩ : ∃ x c, v = .slice x 2 c ∧ 2 ≤ c ∧ ∃ g, x = some ⟨g, 0, none⟩ ∧ w1.heap.size ≤ g ∧ ∀ j, j < 2 → w4.cell? ⟨g, j, none⟩ = (iCells [(r0 : Int), r1])[j]? := by
    rcases hown.2 with ⟨_, h0⟩ | ⟨g, cap, cur, rfl, hg, hh, hc, _⟩
    · simp at h0
    · exact ⟨_, _, rfl, hc, g, rfl, hg, fun j hj => hown.cellAt j (by simpa using hj)⟩
  have u0 := hgc 0 (by omega)
  have u1 := hgc 1 (by omega)
  simp only [iCells, List.map_cons, List.getElem?_cons_zero, List.getElem?_cons_succ] at u0 u1
  obtain ⟨s0, s1, s2⟩ := HRw.out.cells
  have q0 := HRw.out.row r0 l0
  have q1 := HRw.out.row r1 l1
  have fr := HRw.out.free
  have hrb := HR.out.rlt
  have hne := HR.out.ne
  have hs1 := hB1.size
  have d1 : g ≠ rb := by omega
  have d2 : sb ≠ rb := fun e => hne e.symm
  have d5 : r1 ≠ r0 := fun e => hn01 e.symm
  have i0 : (r0 : Int) < (R.length : Int) := by omega
  have i1 : (r1 : Int) < (R.length : Int) := by omega
  have HS1 := Lib.hid ((HRw.out.set r0 lo hlo l0).set r1 hi hhi (by rw [List.length_set]; exact l1))
  clear hown hb4 hgc hw1 hB1 hB4
  have x0 : ∀ w, _ := fun w => (index_two (.int .u32 lo) (.int .u32 hi) w).1
  have x1 : ∀ w, _ := fun w => (index_two (.int .u32 lo) (.int .u32 hi) w).2
  go_wp2_with fail
  refine wp_loop_rounds 3 ?_
  rw [rounds_succ]
  go_wp2_with fail
  go_region_held3 (fun w' => w'.cell? ⟨sb, 0, none⟩ = some (.slice (some ⟨rb, 0, none⟩) R.length rc)) (go_keep) (fail)
  go_wp2_with fail
  rw [rounds_succ]
  go_wp2_with fail
  go_region_held3 (fun w' => w'.cell? ⟨sb, 0, none⟩ = some (.slice (some ⟨rb, 0, none⟩) R.length rc)) (go_keep) (fail)
  go_wp2_with fail
  rw [rounds_succ]
  go_wp2_with fail
  go_end0
  have g1 : w.grownBy w4 (some rb) := ⟨HB4.out.os, HB4.out.tape, HB4.out.output, HB4.out.size, fun i hi _ => HB4.out.block i hi⟩
  have g2 := grown_trans g1 (grown_trans (setCell_grown w4 rb r0 (.int .u32 lo)) (setCell_grown _ rb r1 (.int .u32 hi)))
  exact ⟨rfl, HS1.out.below (Below.refl _ _).drew.drew, ⟨g2.os, g2.tape, g2.output, g2.size, g2.block⟩⟩
end Go.Proofs.Ytmkencdkglbpbaa
