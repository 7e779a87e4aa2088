/- vop: a state in memory; Pair, pairs of AddPair, memory of what does not come to it, read. -/
import Derived.Test.YtmkencdkglbpbaaDoorVopF
import Derived.Laws.BitsLemmas
set_option maxRecDepth 100000
set_option linter.unusedVariables false
namespace Go.Proofs.YtmkencdkglbpbaaDoor
open Go.RowKit

/-- A state: its registers R in block rb, its address S, its memory at mb. -/
structure RegAt (w : World) (sb rb rc mb : Nat) (S : Int) (R : List Int) : Prop where
  blk : w.heap[sb]? = some (.cells #[.slice (some ⟨rb, 0, none⟩) R.length rc, .int .u32 S, .pointer (some ⟨mb, 0, none⟩)] 59 (0, 0))
  row : ∀ i (hi : i < R.length), w.cell? ⟨rb, i, none⟩ = some (.int .u32 R[i])
  free : ∀ i, w.frozen? ⟨rb, i, none⟩ = false
  rlt : rb < w.heap.size
  ne : rb ≠ sb
  cap : R.length ≤ rc
  small : R.length ≤ 100
  bytes : ∀ x ∈ R, 0 ≤ x ∧ x < 4294967296
  sbd : 0 ≤ S ∧ S < 4294967296

theorem RegAt.below {w w' : World} {sb rb rc mb : Nat} {S : Int} {R : List Int} (h : RegAt w sb rb rc mb S R) (hb : Below w.heap.size w w') : RegAt w' sb rb rc mb S R :=
  { h with
    blk := (hb.block _ (lt_of_block h.blk)).trans h.blk
    row := fun i hi => (hb.cell (p := ⟨rb, i, none⟩) h.rlt).trans (h.row i hi)
    free := fun i => (hb.frozen (p := ⟨rb, i, none⟩) h.rlt).trans (h.free i)
    rlt := Nat.lt_of_lt_of_le h.rlt hb.size }

theorem RegAt.cells {w : World} {sb rb rc mb : Nat} {S : Int} {R : List Int} (h : RegAt w sb rb rc mb S R) : w.cell? ⟨sb, 0, none⟩ = some (.slice (some ⟨rb, 0, none⟩) R.length rc) ∧ w.cell? ⟨sb, 1, none⟩ = some (.int .u32 S) ∧ w.cell? ⟨sb, 2, none⟩ = some (.pointer (some ⟨mb, 0, none⟩)) := by
  have h1 := h.blk
  refine ⟨?_, ?_, ?_⟩ <;> (simp only [World.cell?, h1]; rfl)

theorem pair_any (lo hi : Int) (h0 : 0 ≤ lo) (h1 : lo < 4294967296) (h2 : 0 ≤ hi) (h3 : hi < 4294967296) (w : World) :
    Calls Tryd.prog 65 #[.int .u32 lo, .int .u32 hi] w fun e w' => e = .returned (.int .u64 (hi * 4294967296 + lo)) ∧ w' = w := by
  have e : bits BinOp.or IntKind.u64 (hi * 4294967296) lo = hi * 4294967296 + lo := by
    obtain ⟨n, rfl⟩ := Int.eq_ofNat_of_zero_le h0
    obtain ⟨m, rfl⟩ := Int.eq_ofNat_of_zero_le h2
    have := u64_or_nat (m * 4294967296) n (by omega) (by omega)
    rw [nat_join 32 (m * 4294967296) n (by omega) (by omega)] at this
    simpa using this
  have HE := Lib.hid e
  clear e
  go_enter Tryd.func65, Tryd.ntmps65
  go_wp2
  go_ret
  exact ⟨by rw [← HE.out]; rfl, rfl⟩

set_option maxHeartbeats 1000000 in
theorem memory_no (sb rb rc mb : Nat) (S : Int) (R : List Int) (K t0 t1 f0 f1 f2 f3 N : Int) (v0 v1 v2 v3 : Int) (w : World) (hR : RegAt w sb rb rc mb S R) (hK : K < 2 ∨ 6 < K) (hN : 0 ≤ N ∧ N < 4294967296) :
    Calls Tryd.prog 46 #[.pointer (some ⟨sb, 0, none⟩), opV K t0 t1 f0 f1 f2 f3 N, .agg #[.int .u32 v0, .int .u32 v1, .int .u32 v2, .int .u32 v3]] w fun e w' => e = .returned (.tuple #[.bool false, .int .i64 0]) ∧ Below w.heap.size w w' := by
  obtain ⟨c0, c1, c2⟩ := hR.cells
  have hl := lt_of_block hR.blk
  have n2 : (K == 2) = false := by simp; omega
  have n3 : (K == 3) = false := by simp; omega
  have n4 : (K == 4) = false := by simp; omega
  have n5 : (K == 5) = false := by simp; omega
  have n6 : (K == 6) = false := by simp; omega
  clear hR
  go_enter Tryd.func46, Tryd.ntmps46
  go_wp2_with fail
  go_quiet (fail)
  go_wp2_with fail
  go_ret2
  exact ⟨rfl, below_drewN (((Below.refl _ w).alloc (Nat.le_refl _) _).alloc (by simp) _) nq⟩

set_option maxHeartbeats 1000000 in
theorem pairs_add (t0 t1 f0 f1 f2 f3 N : Int) (v0 v1 v2 v3 : Int) (w : World) (b0 : 0 ≤ v0 ∧ v0 < 4294967296) (b1 : 0 ≤ v1 ∧ v1 < 4294967296) (b2 : 0 ≤ v2 ∧ v2 < 4294967296) (b3 : 0 ≤ v3 ∧ v3 < 4294967296) :
    Calls Tryd.prog 48 #[opV 23 t0 t1 f0 f1 f2 f3 N, .agg #[.int .u32 v0, .int .u32 v1, .int .u32 v2, .int .u32 v3]] w fun e w' => e = .returned (.tuple #[.int .u64 (IntKind.u64.wrap (v1 * 4294967296 + v0 + (v3 * 4294967296 + v2))), .bool true]) ∧ Below w.heap.size w w' := by
  have HA : Hid (∀ w, Calls Tryd.prog 65 #[.int .u32 v0, .int .u32 v1] w fun e w' => e = .returned (.int .u64 (v1 * 4294967296 + v0)) ∧ w' = w) := fun w => pair_any v0 v1 b0.1 b0.2 b1.1 b1.2 w
  have HB : Hid (∀ w, Calls Tryd.prog 65 #[.int .u32 v2, .int .u32 v3] w fun e w' => e = .returned (.int .u64 (v3 * 4294967296 + v2)) ∧ w' = w) := fun w => pair_any v2 v3 b2.1 b2.2 b3.1 b3.2 w
  obtain ⟨A, hA⟩ : ∃ A, A = v1 * 4294967296 + v0 := ⟨_, rfl⟩
  obtain ⟨B, hB⟩ : ∃ B, B = v3 * 4294967296 + v2 := ⟨_, rfl⟩
  rw [← hA, ← hB]
  rw [← hA] at HA
  rw [← hB] at HB
  clear hA hB b0 b1 b2 b3
  obtain ⟨X, hX⟩ : ∃ X, X = IntKind.u64.wrap (A + B) := ⟨_, rfl⟩
  rw [← hX]
  have hX2 := hX.symm
  have HX := Lib.hid hX
  clear hX
  go_enter Tryd.func48, Tryd.ntmps48
  go_wp2_with fail
  go_quiet (first | (go_at_call 65; with_reducible exact Calls.quiet_of_same (HA.out _)) | (go_at_call 65; with_reducible exact Calls.quiet_of_same (HB.out _)))
  go_wp2_with fail
  go_ret2
  exact ⟨rfl, below_drewN (((Below.refl _ w).alloc (Nat.le_refl _) _).alloc (by simp) _) nq⟩

set_option maxHeartbeats 1000000 in
/-- read: the words of From's registers. -/
theorem read_all (sb rb rc mb : Nat) (S : Int) (R : List Int) (K t0 t1 N : Int) (r0 r1 r2 r3 : Nat) (w : World) (hR : RegAt w sb rb rc mb S R) (l0 : r0 < R.length) (l1 : r1 < R.length) (l2 : r2 < R.length) (l3 : r3 < R.length) :
    Calls Tryd.prog 45 #[.pointer (some ⟨sb, 0, none⟩), opV K t0 t1 r0 r1 r2 r3 N] w fun e w' => e = .returned (.agg #[.int .u32 R[r0], .int .u32 R[r1], .int .u32 R[r2], .int .u32 R[r3]]) ∧ Below w.heap.size w w' := by
  have hF : regsOf [(r0 : Int), r1, r2, r3] = [(r0 : Int), r1, r2, r3] := by
    have e : ∀ r : Nat, ((r : Int) != -1) = true := fun r => by simp
    simp [regsOf, e]
  have HR := Lib.hid hR
  have HF := Lib.hid hF
  clear hR hF
  obtain ⟨w3, hw3⟩ : ∃ w3, w3 = ((w.alloc (.cells #[.int .i64 K, .int .i64 t0, .int .i64 t1, .int .i64 r0, .int .i64 r1, .int .i64 r2, .int .i64 r3, .int .u32 N] 37)).alloc (.cells #[.int .u32 0, .int .u32 0, .int .u32 0, .int .u32 0] 97)).alloc (.cells #[.int .u32 0, .int .u32 0, .int .u32 0, .int .u32 0] 97) := ⟨_, rfl⟩
  have hs3 : w3.heap.size = w.heap.size + 3 := by rw [hw3]; simp
  have hB3 : Below w.heap.size w w3 := by rw [hw3]; exact (((Below.refl _ w).alloc (Nat.le_refl _) _).alloc (by simp) _).alloc (by simp; omega) _
  have hk1 : w3.heap[w.heap.size + 1]? = some (.cells #[.int .u32 0, .int .u32 0, .int .u32 0, .int .u32 0] 97 (0, 0)) := by
    rw [hw3, Below.heap_alloc _ _ _ (by simp)]
    have := heap_alloc_new (w.alloc (.cells #[.int .i64 K, .int .i64 t0, .int .i64 t1, .int .i64 r0, .int .i64 r1, .int .i64 r2, .int .i64 r3, .int .u32 N] 37)) (.cells #[.int .u32 0, .int .u32 0, .int .u32 0, .int .u32 0] 97)
    rwa [World.size_alloc] at this
  have hk2 : w3.heap[w.heap.size + 2]? = some (.cells #[.int .u32 0, .int .u32 0, .int .u32 0, .int .u32 0] 97 (0, 0)) := by
    rw [hw3]
    have := heap_alloc_new ((w.alloc (.cells #[.int .i64 K, .int .i64 t0, .int .i64 t1, .int .i64 r0, .int .i64 r1, .int .i64 r2, .int .i64 r3, .int .u32 N] 37)).alloc (.cells #[.int .u32 0, .int .u32 0, .int .u32 0, .int .u32 0] 97)) (.cells #[.int .u32 0, .int .u32 0, .int .u32 0, .int .u32 0] 97)
    rwa [World.size_alloc, World.size_alloc] at this
  have HB3 := Lib.hid hB3
  have Hk1 := Lib.hid hk1
  have Hk2 := Lib.hid hk2
  have Hs3 := Lib.hid hs3
  clear hk1 hk2 hB3 hs3
  go_enter Tryd.func45, Tryd.ntmps45
  go_wp2_with fail
  rw [show w.heap.size + 1 + 1 = w.heap.size + 2 from rfl]
  rw [← hw3]
  refine (uses_any K t0 t1 r0 r1 r2 r3 N w3).mono ?_
  rintro e w4 ⟨v, rfl, hown, hb4⟩
  rw [HF.out] at hown
  have HRw := Lib.hid (HR.out.below (HB3.out.trans (hb4.mono HB3.out.size)))
  obtain ⟨x, c, rfl, hcl, g, rfl, hg3, hgc⟩ : ∃ x c, v = .slice x 4 c ∧ 4 ≤ c ∧ ∃ g, x = some ⟨g, 0, none⟩ ∧ w3.heap.size ≤ g ∧ ∀ j, j < 4 → w4.cell? ⟨g, j, none⟩ = (iCells [(r0 : Int), r1, r2, r3])[j]? := by
    rcases hown.2 with ⟨_, h0⟩ | ⟨g, cap, cur, rfl, hg, hh, hc, _⟩
    · simp at h0
    · exact ⟨_, _, rfl, hc, g, rfl, hg, fun j hj => hown.cellAt j (by simpa using hj)⟩
  have u0 := hgc 0 (by omega)
  have u1 := hgc 1 (by omega)
  have u2 := hgc 2 (by omega)
  have u3 := hgc 3 (by omega)
  simp only [iCells, List.map_cons, List.getElem?_cons_zero, List.getElem?_cons_succ] at u0 u1 u2 u3
  obtain ⟨s0, s1, s2⟩ := HRw.out.cells
  have q0 := HRw.out.row r0 l0
  have q1 := HRw.out.row r1 l1
  have q2 := HRw.out.row r2 l2
  have q3 := HRw.out.row r3 l3
  have hk1 := (hb4.block (w.heap.size + 1) (by have := Hs3.out; omega)).trans Hk1.out
  have hk2 := (hb4.block (w.heap.size + 2) (by have := Hs3.out; omega)).trans Hk2.out
  have z : ∀ j v, #[Value.int .u32 0, .int .u32 0, .int .u32 0, .int .u32 0][j]? = some v → w4.cell? ⟨w.heap.size + 2, j, none⟩ = some v ∧ w4.cell? ⟨w.heap.size + 1, j, none⟩ = some v := fun j v hv => by
    constructor
    · simp only [World.cell?, hk2]; rw [if_neg (by simp)]; exact hv
    · simp only [World.cell?, hk1]; rw [if_neg (by simp)]; exact hv
  obtain ⟨z0, y0⟩ := z 0 _ rfl
  obtain ⟨z1, y1⟩ := z 1 _ rfl
  obtain ⟨z2, y2⟩ := z 2 _ rfl
  obtain ⟨z3, y3⟩ := z 3 _ rfl
  have zf : ∀ j, w4.frozen? ⟨w.heap.size + 2, j, none⟩ = false := fun j => by simp [World.frozen?, hk2]
  have yf : ∀ j, w4.frozen? ⟨w.heap.size + 1, j, none⟩ = false := fun j => by simp [World.frozen?, hk1]
  have hsb := lt_of_block HR.out.blk
  have hrb := HR.out.rlt
  have HB4 := Lib.hid (HB3.out.trans (hb4.mono HB3.out.size))
  have HK1 := Lib.hid hk1
  have d1 : g ≠ w.heap.size + 2 := by have := Hs3.out; omega
  have d2 : rb ≠ w.heap.size + 2 := by omega
  have d3 : sb ≠ w.heap.size + 2 := by omega
  have d4 : w.heap.size + 1 ≠ w.heap.size + 2 := by omega
  have i0 : (r0 : Int) < (R.length : Int) := by omega
  have i1 : (r1 : Int) < (R.length : Int) := by omega
  have i2 : (r2 : Int) < (R.length : Int) := by omega
  have i3 : (r3 : Int) < (R.length : Int) := by omega
  clear hown hb4 hgc z hk1 hk2 hw3
  go_wp2_with fail
  refine wp_loop_rounds 5 ?_
  rw [rounds_succ]
  go_wp2_with fail
  rw [rounds_succ]
  go_wp2_with fail
  rw [rounds_succ]
  go_wp2_with fail
  rw [rounds_succ]
  go_wp2_with fail
  rw [rounds_succ]
  go_wp2_with fail
  have hk5 : ((((w4.setCell ⟨w.heap.size + 2, 0, none⟩ (.int .u32 R[r0])).setCell ⟨w.heap.size + 2, 1, none⟩ (.int .u32 R[r1])).setCell ⟨w.heap.size + 2, 2, none⟩ (.int .u32 R[r2])).setCell ⟨w.heap.size + 2, 3, none⟩ (.int .u32 R[r3])).heap[w.heap.size + 1]? = some (.cells #[.int .u32 0, .int .u32 0, .int .u32 0, .int .u32 0] 97 (0, 0)) := by
    rw [Below.heap_setCell _ _ _ _ d4, Below.heap_setCell _ _ _ _ d4, Below.heap_setCell _ _ _ _ d4, Below.heap_setCell _ _ _ _ d4]
    exact HK1.out
  have hz := (setCell_heap (setCell_heap (setCell_heap (setCell_heap hk5 0 (.int .u32 R[r0])) 1 (.int .u32 R[r1])) 2 (.int .u32 R[r2])) 3 (.int .u32 R[r3]))
  have hBz := ((((((((HB4.out.setCell (p := ⟨w.heap.size + 2, 0, none⟩) (by simp) (.int .u32 R[r0])).setCell (p := ⟨w.heap.size + 2, 1, none⟩) (by simp) (.int .u32 R[r1])).setCell (p := ⟨w.heap.size + 2, 2, none⟩) (by simp) (.int .u32 R[r2])).setCell (p := ⟨w.heap.size + 2, 3, none⟩) (by simp) (.int .u32 R[r3])).setCell (p := ⟨w.heap.size + 1, 0, none⟩) (by simp) (.int .u32 R[r0])).setCell (p := ⟨w.heap.size + 1, 1, none⟩) (by simp) (.int .u32 R[r1])).setCell (p := ⟨w.heap.size + 1, 2, none⟩) (by simp) (.int .u32 R[r2])).setCell (p := ⟨w.heap.size + 1, 3, none⟩) (by simp) (.int .u32 R[r3]))
  generalize World.setCell _ _ _ = wz at hz hBz ⊢
  have zz : ∀ j v, #[Value.int .u32 R[r0], .int .u32 R[r1], .int .u32 R[r2], .int .u32 R[r3]][j]? = some v → wz.cell? ⟨w.heap.size + 1, j, none⟩ = some v := fun j v hv => by
    simp only [World.cell?, hz]; rw [if_neg (by simp)]; exact hv
  have w0 := zz 0 _ rfl
  have w1 := zz 1 _ rfl
  have w2 := zz 2 _ rfl
  have w3 := zz 3 _ rfl
  refine ⟨rfl, .agg #[.int .u32 R[r0], .int .u32 R[r1], .int .u32 R[r2], .int .u32 R[r3]], ?_, rfl, hBz⟩
  simp [results, Tryd.f45, go_sem, w0, w1, w2, w3]
end Go.Proofs.YtmkencdkglbpbaaDoor
