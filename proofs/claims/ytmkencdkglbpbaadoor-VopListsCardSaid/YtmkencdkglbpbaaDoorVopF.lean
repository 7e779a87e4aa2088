/- vop: fill, Make, Pair, truth. -/
import Derived.Test.YtmkencdkglbpbaaDoorVopE
set_option maxRecDepth 100000
set_option linter.unusedVariables false
namespace Go.Proofs.YtmkencdkglbpbaaDoor
open Go.RowKit

/-- What fill leaves at a place. -/
def padV (L : List Int) (j : Nat) : Int := L.getD j (-1)
/-- A block's cells when fill has come to place k. -/
def padC (C : Array Value) (o : Nat) (L : List Int) : Nat → Array Value
  | 0 => C
  | k + 1 => (padC C o L k).setIfInBounds (o + k) (.int .i64 (padV L k))
theorem padC_size (C : Array Value) (o : Nat) (L : List Int) : ∀ k, (padC C o L k).size = C.size
  | 0 => rfl
  | k + 1 => by rw [padC, Array.size_setIfInBounds, padC_size C o L k]

theorem setCell_heap {w : World} {b : Nat} {C : Array Value} {t : TypeId} {fr : Nat × Nat} (h : w.heap[b]? = some (.cells C t fr)) (i : Nat) (v : Value) : (w.setCell ⟨b, i, none⟩ v).heap[b]? = some (.cells (C.setIfInBounds i v) t fr) := by
  simp [World.setCell, Array.getElem?_modify, h]
theorem setCell_grown (w : World) (b i : Nat) (v : Value) : w.grownBy (w.setCell ⟨b, i, none⟩ v) (some b) :=
  ⟨rfl, rfl, rfl, by simp [World.setCell], fun k _ hk => Below.heap_setCell _ _ _ _ (fun e => hk (by simp [e]))⟩

theorem grown_trans {a b c : World} {r : Option Nat} (h : a.grownBy b r) (k : b.grownBy c r) : a.grownBy c r :=
  ⟨k.os.trans h.os, k.tape.trans h.tape, k.output.trans h.output, Nat.le_trans h.size k.size, fun i hi hne => (k.block i (Nat.lt_of_lt_of_le hi h.size) hne).trans (h.block i hi hne)⟩

/-- Numbers of a slice: none of them, or a row. -/
def LSl (w : World) (x : Option Addr) (L : List Int) : Prop := L = [] ∨ ∃ g, x = some ⟨g, 0, none⟩ ∧ IRow w g 0 L

set_option maxHeartbeats 1000000 in
theorem fill_any (b o n : Nat) (C : Array Value) (t : TypeId) (x : Option Addr) (q c : Nat) (L : List Int) (w : World) (hb : w.heap[b]? = some (.cells C t (0, 0))) (ho : o + n ≤ C.size) (hn : n ≤ 1000) (hL : LSl w x L) (hq : L.length = q) (hq2 : q ≤ 1000) (hx : ∀ g, x = some ⟨g, 0, none⟩ → g ≠ b) (pc : Nat) (hpc : n ≤ pc) :
    Calls Tryd.prog 53 #[.slice (some ⟨b, o, none⟩) n pc, .slice x q c] w fun e w' => e = .returned (.tuple #[]) ∧ w'.heap[b]? = some (.cells (padC C o L n) t (0, 0)) ∧ w.grownBy w' (some b) ∧ w'.heap.size = w.heap.size := by
  have HL := Lib.hid hL
  have Hq := Lib.hid hq
  have Hb := Lib.hid hb
  have Hx := Lib.hid hx
  have Ho := Lib.hid ho
  clear hL hq hb hx ho
  go_enter Tryd.func53, Tryd.ntmps53
  go_wp2_with fail
  go_loopw [7] (fun i wr => ∃ k : Nat, k ≤ n ∧ i = .int .i64 k ∧ wr.heap[b]? = some (.cells (padC C o L k) t (0, 0)) ∧ w.grownBy wr (some b) ∧ wr.heap.size = w.heap.size) (fun i _ => n - (intOf i).toNat)
  case atStart => exact ⟨0, Nat.zero_le _, rfl, Hb.out, ⟨rfl, rfl, rfl, Nat.le_refl _, fun _ _ _ => rfl⟩, rfl⟩
  case round =>
    obtain ⟨k, hk, rfl, hh, hg, hs⟩ := hrel
    have HH := Lib.hid hh
    have HG := Lib.hid hg
    have HS := Lib.hid hs
    have wq : IntKind.i64.wrap ((k : Int) + 1) = (k : Int) + 1 := IntWalk.i64_in _ (by omega)
    by_cases hlt : k < n
    · have hok : o + k < (padC C o L k).size := by rw [padC_size]; have := Ho.out; omega
      have c0 : wr.cell? ⟨b, o + k, none⟩ = some ((padC C o L k)[o + k]'hok) := by
        simp only [World.cell?, hh]; rw [if_neg (by simp)]; exact Array.getElem?_eq_getElem hok
      have f0 : wr.frozen? ⟨b, o + k, none⟩ = false := by simp [World.frozen?, hh]
      obtain ⟨v0, hv0⟩ : ∃ v, v = (padC C o L k)[o + k]'hok := ⟨_, rfl⟩
      rw [← hv0] at c0
      clear hh hg hs hv0
      by_cases hin : k < q
      · have hkL : k < L.length := by rw [Hq.out]; exact hin
        obtain ⟨g, rfl, hI⟩ := HL.out.resolve_left (fun e => by rw [e] at hkL; simp at hkL)
        have hgb : g ≠ b := Hx.out g rfl
        have d0 := (HG.out.block g hI.1 (fun e => hgb (by simpa using e)))
        have d1 : wr.cell? ⟨g, k, none⟩ = some (.int .i64 (padV L k)) := by
          rw [World.cell?_of_block (w := w) (a := ⟨g, k, none⟩) d0]
          have := hI.2 k hkL
          rw [Nat.zero_add] at this
          rw [this, padV, List.getD_eq_getElem?_getD, List.getElem?_eq_getElem hkL]; rfl
        have hgb' : b ≠ g := fun e => hgb e.symm
        clear d0 hI
        obtain ⟨V, hV⟩ : ∃ V, V = padV L k := ⟨_, rfl⟩
        rw [← hV] at d1
        have HV := Lib.hid hV
        clear hV
        go_wp2_with fail
        refine ⟨⟨k + 1, by omega, by simp, ?_, grown_trans HG.out (grown_trans (setCell_grown wr b (o + k) _) (setCell_grown _ b (o + k) _)), by simpa [World.setCell] using HS.out⟩, by simp only [intOf]; omega⟩
        have := setCell_heap (setCell_heap HH.out (o + k) (.int .i64 (-1))) (o + k) (.int .i64 V)
        rw [this, padC, HV.out, Array.setIfInBounds_setIfInBounds]
      · have hpv : padV L k = -1 := by
          rw [padV, List.getD_eq_getElem?_getD, List.getElem?_eq_none (by rw [Hq.out]; omega)]; rfl
        have HPV := Lib.hid hpv
        clear hpv
        go_wp2_with fail
        refine ⟨⟨k + 1, by omega, by simp, ?_, grown_trans HG.out (setCell_grown wr b (o + k) _), by simpa [World.setCell] using HS.out⟩, by simp only [intOf]; omega⟩
        have := setCell_heap HH.out (o + k) (.int .i64 (-1))
        rw [this, padC, HPV.out]
    · have hkn : k = n := by omega
      rw [hkn] at HH
      clear hh hg hs
      go_wp2_with fail
      go_end0
      exact ⟨rfl, HH.out, HG.out, HS.out⟩

theorem LSl.grown {w w' : World} {x : Option Addr} {L : List Int} (h : LSl w x L) {z : Option Nat} (hg : w.grownBy w' z) (hn : ∀ g, x = some ⟨g, 0, none⟩ → some g ≠ z) : LSl w' x L := by
  refine h.imp id fun ⟨g, e, hI⟩ => ⟨g, e, Nat.lt_of_lt_of_le hI.1 hg.size, fun i hi => ?_⟩
  rw [World.cell?_of_block (w := w) (a := ⟨g, 0 + i, none⟩) (hg.block g hI.1 (hn g e))]
  exact hI.2 i hi

set_option maxHeartbeats 1000000 in
/-- Make: an operation whose places are filled. -/
theorem make_any (K N : Int) (x2 x4 : Option Addr) (q2 c2 q4 c4 : Nat) (L2 L4 : List Int) (w : World) (h2 : LSl w x2 L2) (h4 : LSl w x4 L4) (e2 : L2.length = q2) (e4 : L4.length = q4) (b2 : q2 ≤ 1000) (b4 : q4 ≤ 1000)
    (l2 : ∀ g, x2 = some ⟨g, 0, none⟩ → g < w.heap.size) (l4 : ∀ g, x4 = some ⟨g, 0, none⟩ → g < w.heap.size) :
    Calls Tryd.prog 27 #[.int .i64 K, .int .u32 N, .slice x2 q2 c2, .slice x4 q4 c4] w fun e w' => e = .returned (opV K (padV L2 0) (padV L2 1) (padV L4 0) (padV L4 1) (padV L4 2) (padV L4 3) N) ∧ Below w.heap.size w w' := by
  have H2 := Lib.hid h2
  have H4 := Lib.hid h4
  have L2' := Lib.hid l2
  have L4' := Lib.hid l4
  have E2 := Lib.hid e2
  have E4 := Lib.hid e4
  clear h2 h4 l2 l4 e2 e4
  go_enter Tryd.func27, Tryd.ntmps27
  go_wp2_with fail
  obtain ⟨w2, hw2⟩ : ∃ w2, w2 = (w.alloc (.cells #[.int .i64 0, .int .i64 0, .int .i64 0, .int .i64 0, .int .i64 0, .int .i64 0, .int .i64 0, .int .u32 0] 37)).alloc (.cells #[.int .i64 K, .int .i64 0, .int .i64 0, .int .i64 0, .int .i64 0, .int .i64 0, .int .i64 0, .int .u32 N] 37) := ⟨_, rfl⟩
  rw [← hw2]
  have hs2 : w2.heap.size = w.heap.size + 2 := by rw [hw2]; simp
  have hB2 : Below w.heap.size w w2 := by rw [hw2]; exact ((Below.refl _ w).alloc (Nat.le_refl _) _).alloc (by simp) _
  have hk0 : w2.heap[w.heap.size]? = some (.cells #[.int .i64 0, .int .i64 0, .int .i64 0, .int .i64 0, .int .i64 0, .int .i64 0, .int .i64 0, .int .u32 0] 37 (0, 0)) := by
    rw [hw2, Below.heap_alloc _ _ _ (by simp)]; exact heap_alloc_new w _
  have hk1 : w2.heap[w.heap.size + 1]? = some (.cells #[.int .i64 K, .int .i64 0, .int .i64 0, .int .i64 0, .int .i64 0, .int .i64 0, .int .i64 0, .int .u32 N] 37 (0, 0)) := by
    rw [hw2]
    have := heap_alloc_new (w.alloc (.cells #[.int .i64 0, .int .i64 0, .int .i64 0, .int .i64 0, .int .i64 0, .int .i64 0, .int .i64 0, .int .u32 0] 37)) (.cells #[.int .i64 K, .int .i64 0, .int .i64 0, .int .i64 0, .int .i64 0, .int .i64 0, .int .i64 0, .int .u32 N] 37)
    rwa [World.size_alloc] at this
  have grB : w.grownBy w2 none := ⟨hB2.os, hB2.tape, hB2.output, hB2.size, fun i hi _ => hB2.block i hi⟩
  have HB2 := Lib.hid hB2
  have Hk0 := Lib.hid hk0
  have Hk1 := Lib.hid hk1
  have GrB := Lib.hid grB
  have hl1 : w.heap.size + 1 < w2.heap.size := by omega
  clear hw2 hs2 hB2 hk0 hk1 grB
  refine (fill_any (w.heap.size + 1) 1 2 _ 37 x2 q2 c2 L2 w2 Hk1.out (by simp) (by omega) (H2.out.grown GrB.out (fun g e => by simp)) E2.out b2 (fun g e => by have := L2'.out g e; omega) 2 (Nat.le_refl _)).mono ?_
  rintro e w3 ⟨rfl, hh3, hg3, hs3⟩
  have HG3 := Lib.hid hg3
  have Hs3 := Lib.hid hs3
  have hC : padC #[.int .i64 K, .int .i64 0, .int .i64 0, .int .i64 0, .int .i64 0, .int .i64 0, .int .i64 0, .int .u32 N] 1 L2 2 = #[.int .i64 K, .int .i64 (padV L2 0), .int .i64 (padV L2 1), .int .i64 0, .int .i64 0, .int .i64 0, .int .i64 0, .int .u32 N] := by simp [padC]
  rw [hC] at hh3
  have Hh3 := Lib.hid hh3
  clear hh3 hg3 hs3 hC
  go_wp2_with fail
  refine (fill_any (w.heap.size + 1) 3 4 _ 37 x4 q4 c4 L4 w3 Hh3.out (by simp) (by omega) ((H4.out.grown GrB.out (fun g e => by simp)).grown HG3.out (fun g e => by have := L4'.out g e; simp; omega)) E4.out b4 (fun g e => by have := L4'.out g e; omega) 4 (Nat.le_refl _)).mono ?_
  rintro e w4 ⟨rfl, hh4, hg4, hs4⟩
  have hC : padC #[.int .i64 K, .int .i64 (padV L2 0), .int .i64 (padV L2 1), .int .i64 0, .int .i64 0, .int .i64 0, .int .i64 0, .int .u32 N] 3 L4 4 = #[.int .i64 K, .int .i64 (padV L2 0), .int .i64 (padV L2 1), .int .i64 (padV L4 0), .int .i64 (padV L4 1), .int .i64 (padV L4 2), .int .i64 (padV L4 3), .int .u32 N] := by simp [padC]
  rw [hC] at hh4
  have hn0 : (some w.heap.size : Option Nat) ≠ some (w.heap.size + 1) := by simp
  have hr0 : w4.heap[w.heap.size]? = _ := (hg4.block _ (by have := Hs3.out; omega) hn0).trans ((HG3.out.block _ (by omega) hn0).trans Hk0.out)
  have hBel : Below w.heap.size w w4 := (HB2.out.grown HG3.out (by omega) (fun k e => by cases e; omega)).grown hg4 (by have := Hs3.out; omega) (fun k e => by cases e; omega)
  have HBel := Lib.hid hBel
  have cc : ∀ j v, #[Value.int .i64 K, .int .i64 (padV L2 0), .int .i64 (padV L2 1), .int .i64 (padV L4 0), .int .i64 (padV L4 1), .int .i64 (padV L4 2), .int .i64 (padV L4 3), .int .u32 N][j]? = some v → w4.cell? ⟨w.heap.size + 1, j, none⟩ = some v := fun j v hv => by
    simp only [World.cell?, hh4]; rw [if_neg (by simp)]; exact hv
  have rr : ∀ j v, #[Value.int .i64 0, .int .i64 0, .int .i64 0, .int .i64 0, .int .i64 0, .int .i64 0, .int .i64 0, .int .u32 0][j]? = some v → w4.cell? ⟨w.heap.size, j, none⟩ = some v := fun j v hv => by
    simp only [World.cell?, hr0]; rw [if_neg (by simp)]; exact hv
  have rf : ∀ j, w4.frozen? ⟨w.heap.size, j, none⟩ = false := fun j => by simp [World.frozen?, hr0]
  have a0 := cc 0 _ rfl
  have a1 := cc 1 _ rfl
  have a2 := cc 2 _ rfl
  have a3 := cc 3 _ rfl
  have a4 := cc 4 _ rfl
  have a5 := cc 5 _ rfl
  have a6 := cc 6 _ rfl
  have a7 := cc 7 _ rfl
  have b0 := rr 0 _ rfl
  have b1 := rr 1 _ rfl
  have b2' := rr 2 _ rfl
  have b3 := rr 3 _ rfl
  have b4' := rr 4 _ rfl
  have b5 := rr 5 _ rfl
  have b6 := rr 6 _ rfl
  have b7 := rr 7 _ rfl
  have RR := Lib.hid hr0
  clear hh4 hg4 hs4 hC cc rr hr0 hn0 hBel
  go_wp2_with fail
  have hz := (setCell_heap (setCell_heap (setCell_heap (setCell_heap (setCell_heap (setCell_heap (setCell_heap (setCell_heap RR.out 0 (.int .i64 K)) 1 (.int .i64 (padV L2 0))) 2 (.int .i64 (padV L2 1))) 3 (.int .i64 (padV L4 0))) 4 (.int .i64 (padV L4 1))) 5 (.int .i64 (padV L4 2))) 6 (.int .i64 (padV L4 3))) 7 (.int .u32 N))
  have hBz := ((((((((HBel.out.setCell (p := ⟨w.heap.size, 0, none⟩) (Nat.le_refl _) (.int .i64 K)).setCell (p := ⟨w.heap.size, 1, none⟩) (Nat.le_refl _) (.int .i64 (padV L2 0))).setCell (p := ⟨w.heap.size, 2, none⟩) (Nat.le_refl _) (.int .i64 (padV L2 1))).setCell (p := ⟨w.heap.size, 3, none⟩) (Nat.le_refl _) (.int .i64 (padV L4 0))).setCell (p := ⟨w.heap.size, 4, none⟩) (Nat.le_refl _) (.int .i64 (padV L4 1))).setCell (p := ⟨w.heap.size, 5, none⟩) (Nat.le_refl _) (.int .i64 (padV L4 2))).setCell (p := ⟨w.heap.size, 6, none⟩) (Nat.le_refl _) (.int .i64 (padV L4 3))).setCell (p := ⟨w.heap.size, 7, none⟩) (Nat.le_refl _) (.int .u32 N))
  generalize World.setCell _ _ _ = wz at hz hBz ⊢
  have zz : ∀ j v, #[Value.int .i64 K, .int .i64 (padV L2 0), .int .i64 (padV L2 1), .int .i64 (padV L4 0), .int .i64 (padV L4 1), .int .i64 (padV L4 2), .int .i64 (padV L4 3), .int .u32 N][j]? = some v → wz.cell? ⟨w.heap.size, j, none⟩ = some v := fun j v hv => by
    simp only [World.cell?, hz]; rw [if_neg (by simp)]; exact hv
  have z0 := zz 0 _ rfl
  have z1 := zz 1 _ rfl
  have z2 := zz 2 _ rfl
  have z3 := zz 3 _ rfl
  have z4 := zz 4 _ rfl
  have z5 := zz 5 _ rfl
  have z6 := zz 6 _ rfl
  have z7 := zz 7 _ rfl
  refine ⟨rfl, opV K (padV L2 0) (padV L2 1) (padV L4 0) (padV L4 1) (padV L4 2) (padV L4 3) N, ?_, rfl, hBz⟩
  simp [results, Tryd.f27, go_sem, z0, z1, z2, z3, z4, z5, z6, z7]
end Go.Proofs.YtmkencdkglbpbaaDoor
