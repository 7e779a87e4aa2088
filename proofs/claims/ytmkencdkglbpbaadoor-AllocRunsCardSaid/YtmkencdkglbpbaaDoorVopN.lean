/- vop: the anchor of the statements. -/
import Derived.Test.YtmkencdkglbpbaaDoorVopM
set_option maxRecDepth 100000
set_option linter.unusedVariables false
namespace Go.Proofs.YtmkencdkglbpbaaDoor
open Go.RowKit

def ancL : List Int := [4294967295, 0, 1, 0, 9, 9]
theorem anc_x : pairsV 23 (rv ancL (regsOf [0, 1, 2, 3]) 0) (rv ancL (regsOf [0, 1, 2, 3]) 1) (rv ancL (regsOf [0, 1, 2, 3]) 1 * 4294967296 + rv ancL (regsOf [0, 1, 2, 3]) 0) (rv ancL (regsOf [0, 1, 2, 3]) 3 * 4294967296 + rv ancL (regsOf [0, 1, 2, 3]) 2) = (4294967296, true) := by decide
theorem anc_w : wroteV ancL 4 5 (4294967296 % 4294967296) (4294967296 / 4294967296) = [4294967295, 0, 1, 0, 0, 1] := by decide
theorem anc_pad : padV [4, 5] 0 = 4 ∧ padV [4, 5] 1 = 5 ∧ padV [0, 1, 2, 3] 0 = 0 ∧ padV [0, 1, 2, 3] 1 = 1 ∧ padV [0, 1, 2, 3] 2 = 2 ∧ padV [0, 1, 2, 3] 3 = 3 := by decide

theorem do_anc (sb rb rc mb : Nat) (S : Int) (w : World) (hR : RegAt w sb rb rc mb S ancL) :
    Calls Tryd.prog 22 #[.pointer (some ⟨sb, 0, none⟩), opV 23 4 5 0 1 2 3 0] w fun e w' => e = .returned (.tuple #[.int .i64 0, .int .i64 0]) ∧ RegAt w' sb rb rc mb S [4294967295, 0, 1, 0, 0, 1] ∧ w.grownBy w' (some rb) := by
  have h := do_pairs sb rb rc mb S ancL 23 4 5 0 1 2 3 0 4294967296 w hR (by decide) (by decide) (by omega) (by unfold At; decide) (.inr ⟨by unfold At; decide, by omega⟩) (by omega) (by omega) anc_x (by omega)
  rw [anc_w] at h
  exact h

theorem i_row_new2 (W : World) (a b c d e f : Int) (t t' : TypeId) :
    IRow ((W.alloc (.cells #[.int .i64 a, .int .i64 b] t)).alloc (.cells #[.int .i64 c, .int .i64 d, .int .i64 e, .int .i64 f] t')) W.heap.size 0 [a, b] ∧
    IRow ((W.alloc (.cells #[.int .i64 a, .int .i64 b] t)).alloc (.cells #[.int .i64 c, .int .i64 d, .int .i64 e, .int .i64 f] t')) (W.heap.size + 1) 0 [c, d, e, f] := by
  refine ⟨⟨by simp; omega, fun i hi => ?_⟩, by simp, fun i hi => ?_⟩
  · rw [World.cell?_alloc_past _ _ _ (by simp), World.cell?_alloc_at _ _ _ _ rfl]
    match i, hi with
    | 0, _ => rfl
    | 1, _ => rfl
  · rw [World.cell?_alloc_at _ _ _ _ (by simp)]
    match i, hi with
    | 0, _ => rfl
    | 1, _ => rfl
    | 2, _ => rfl
    | 3, _ => rfl

set_option maxHeartbeats 4000000 in
theorem anchor_any (w : World) : Calls Tryd.prog 20 #[] w fun e w' => e = .returned (.bool true) ∧ Below w.heap.size w w' := by
  go_enter Tryd.func20, Tryd.ntmps20
  go_wp2_with fail
  have hB1 := (Below.refl _ w).alloc (Nat.le_refl _) (.cells #[.int .u32 4294967295, .int .u32 0, .int .u32 1, .int .u32 0, .int .u32 9, .int .u32 9] 35)
  have hU1 : USl (w.alloc (.cells #[.int .u32 4294967295, .int .u32 0, .int .u32 1, .int .u32 0, .int .u32 9, .int .u32 9] 35)) (some ⟨w.heap.size, 0, none⟩) ancL := by
    refine .inr ⟨w.heap.size, 0, rfl, by simp, fun i hi => ?_⟩
    rw [World.cell?_alloc_at _ _ _ _ rfl]
    match i, hi with
    | 0, _ => rfl
    | 1, _ => rfl
    | 2, _ => rfl
    | 3, _ => rfl
    | 4, _ => rfl
    | 5, _ => rfl
  generalize w.alloc _ = w1 at hB1 hU1 ⊢
  have HB1 := Lib.hid hB1
  have HU1 := Lib.hid hU1
  clear hB1 hU1
  refine (started_any _ 6 6 ancL 536870912 w1 HU1.out rfl (by decide) (by omega) (by omega)).mono ?_
  rintro e w2 ⟨sb, rb, rc, mb, fv, rg, rb2, rc2, B, m, rfl, hc2, hS⟩
  have HS := Lib.hid hS
  have HB2 := Lib.hid (HB1.out.trans (hS.below.mono HB1.out.size))
  clear hS
  go_wp2_with fail
  have hbA := (((Below.refl _ w2).alloc (Nat.le_refl _) (.cells #[.slice (some ⟨rb2, 0, none⟩) 6 rc2, .int .u32 536870912, .slice none 0 0, .slice none 0 0] 52)).alloc (by simp) (.cells #[.int .i64 4, .int .i64 5] 3)).alloc (by simp; omega) (.cells #[.int .i64 0, .int .i64 1, .int .i64 2, .int .i64 3] 3)
  have hi1 := i_row_new2 (w2.alloc (.cells #[.slice (some ⟨rb2, 0, none⟩) 6 rc2, .int .u32 536870912, .slice none 0 0, .slice none 0 0] 52)) 4 5 0 1 2 3 3 3
  rw [World.size_alloc] at hi1
  generalize World.alloc _ _ = w3 at hbA hi1 ⊢
  have hlt1 : w2.heap.size + 1 < w3.heap.size := hi1.1.1
  have hlt2 : w2.heap.size + 1 + 1 < w3.heap.size := hi1.2.1
  have HB3 := Lib.hid (HB2.out.trans (hbA.mono HB2.out.size))
  have HR3 := Lib.hid (HS.out.reg.below hbA)
  have HI := Lib.hid hi1
  clear hbA hi1
  refine (make_any 23 0 (some ⟨w2.heap.size + 1, 0, none⟩) (some ⟨w2.heap.size + 1 + 1, 0, none⟩) 2 2 4 4 [4, 5] [0, 1, 2, 3] w3 (.inr ⟨_, rfl, HI.out.1⟩) (.inr ⟨_, rfl, HI.out.2⟩) rfl rfl (by omega) (by omega) (fun g e => by injection e with e; injection e with e; omega) (fun g e => by injection e with e; injection e with e; omega)).mono ?_
  rintro e w4 ⟨rfl, hb4⟩
  rw [anc_pad.1, anc_pad.2.1, anc_pad.2.2.1, anc_pad.2.2.2.1, anc_pad.2.2.2.2.1, anc_pad.2.2.2.2.2]
  have HB4 := Lib.hid (HB3.out.trans (hb4.mono HB3.out.size))
  have HR4 := Lib.hid (HR3.out.below hb4)
  clear hb4
  go_wp2_with fail
  refine (do_anc sb rb rc mb 536870912 w4 HR4.out).mono ?_
  rintro e w5 ⟨rfl, hR5, hg5⟩
  have HR5 := Lib.hid hR5
  have hrb : w.heap.size ≤ rb := by have := HS.out.hm4; have := HS.out.hm1; have := HS.out.mem.hb; have := HS.out.hB; have := HB1.out.size; omega
  have HB5 := Lib.hid (HB4.out.grown hg5 HB4.out.size (fun b e => by injection e with e; omega))
  obtain ⟨s0, s1, s2⟩ := HR5.out.cells
  have q4 : w5.cell? ⟨rb, 4, none⟩ = some (.int .u32 0) := HR5.out.row 4 (by decide)
  have q5 : w5.cell? ⟨rb, 5, none⟩ = some (.int .u32 1) := HR5.out.row 5 (by decide)
  rw [show [(4294967295 : Int), 0, 1, 0, 0, 1].length = 6 from rfl] at s0
  clear hR5 hg5
  go_wp2_with fail
  go_ret
  exact ⟨rfl, HB5.out⟩
end Go.Proofs.YtmkencdkglbpbaaDoor
