/- vop: a state in memory; Pair, pairs of AddPair, memory of what does not come to it, read. -/
import Derived.Test.YtmkencdkglbpbaaDoorVopF
import Derived.Laws.BitsLemmas
import Derived.Deep.RegionHeld3
import Derived.Deep.AppendLies
set_option maxRecDepth 100000
set_option linter.unusedVariables false
namespace Go.Proofs.YtmkencdkglbpbaaDoor
open Go.RowKit

/-- A state: its registers R in block rb, its address S, its memory at mb. -/
structure RegAt (w : World) (sb rb rc mb : Nat) (S : Int) (R : List Int) : Prop where
  blk : w.heap[sb]? = some (.cells #[.slice (some ⟨rb, 0, none⟩) R.length rc, .int .u32 S, .pointer (some ⟨mb, 0, none⟩)] 59 (0, 0))
  row : ∀ i (hi : i < R.length), w.cell? ⟨rb, i, none⟩ = some (.int .u32 R[i])
  free : ∀ i, w.frozen? ⟨rb, i, none⟩ = false
  rlt : rb < w.heap.size
  ne : rb ≠ sb
  cap : R.length ≤ rc
  small : R.length ≤ 100
  bytes : ∀ x ∈ R, 0 ≤ x ∧ x < 4294967296
  sbd : 0 ≤ S ∧ S < 4294967296

theorem RegAt.below {w w' : World} {sb rb rc mb : Nat} {S : Int} {R : List Int} (h : RegAt w sb rb rc mb S R) (hb : Below w.heap.size w w') : RegAt w' sb rb rc mb S R :=
  { h with
    blk := (hb.block _ (lt_of_block h.blk)).trans h.blk
    row := fun i hi => (hb.cell (p := ⟨rb, i, none⟩) h.rlt).trans (h.row i hi)
    free := fun i => (hb.frozen (p := ⟨rb, i, none⟩) h.rlt).trans (h.free i)
    rlt := Nat.lt_of_lt_of_le h.rlt hb.size }

theorem RegAt.cells {w : World} {sb rb rc mb : Nat} {S : Int} {R : List Int} (h : RegAt w sb rb rc mb S R) : w.cell? ⟨sb, 0, none⟩ = some (.slice (some ⟨rb, 0, none⟩) R.length rc) ∧ w.cell? ⟨sb, 1, none⟩ = some (.int .u32 S) ∧ w.cell? ⟨sb, 2, none⟩ = some (.pointer (some ⟨mb, 0, none⟩)) := by
  have h1 := h.blk
  refine ⟨?_, ?_, ?_⟩ <;> (simp only [World.cell?, h1]; rfl)

theorem pair_any (lo hi : Int) (h0 : 0 ≤ lo) (h1 : lo < 4294967296) (h2 : 0 ≤ hi) (h3 : hi < 4294967296) (w : World) :
    Calls Tryd.prog 65 #[.int .u32 lo, .int .u32 hi] w fun e w' => e = .returned (.int .u64 (hi * 4294967296 + lo)) ∧ w' = w := by
  have e : bits BinOp.or IntKind.u64 (hi * 4294967296) lo = hi * 4294967296 + lo := by
    obtain ⟨n, rfl⟩ := Int.eq_ofNat_of_zero_le h0
    obtain ⟨m, rfl⟩ := Int.eq_ofNat_of_zero_le h2
    have := u64_or_nat (m * 4294967296) n (by omega) (by omega)
    rw [nat_join 32 (m * 4294967296) n (by omega) (by omega)] at this
    simpa using this
  have HE := Lib.hid e
  clear e
  go_enter Tryd.func65, Tryd.ntmps65
  go_wp2
  go_ret
  exact ⟨by rw [← HE.out]; rfl, rfl⟩

set_option maxHeartbeats 1000000 in
theorem memory_no (sb rb rc mb : Nat) (S : Int) (R : List Int) (K t0 t1 f0 f1 f2 f3 N : Int) (v0 v1 v2 v3 : Int) (w : World) (hR : RegAt w sb rb rc mb S R) (hK : K < 2 ∨ 6 < K) (hN : 0 ≤ N ∧ N < 4294967296) :
    Calls Tryd.prog 46 #[.pointer (some ⟨sb, 0, none⟩), opV K t0 t1 f0 f1 f2 f3 N, .agg #[.int .u32 v0, .int .u32 v1, .int .u32 v2, .int .u32 v3]] w fun e w' => e = .returned (.tuple #[.bool false, .int .i64 0]) ∧ Below w.heap.size w w' := by
  obtain ⟨c0, c1, c2⟩ := hR.cells
  have hl := lt_of_block hR.blk
  have n2 : (K == 2) = false := by simp; omega
  have n3 : (K == 3) = false := by simp; omega
  have n4 : (K == 4) = false := by simp; omega
  have n5 : (K == 5) = false := by simp; omega
  have n6 : (K == 6) = false := by simp; omega
  clear hR
  go_enter Tryd.func46, Tryd.ntmps46
  go_wp2_with fail
  go_quiet (fail)
  go_wp2_with fail
  go_ret2
  exact ⟨rfl, below_drewN (((Below.refl _ w).alloc (Nat.le_refl _) _).alloc (by simp) _) nq⟩

set_option maxHeartbeats 1000000 in
theorem pairs_add (t0 t1 f0 f1 f2 f3 N : Int) (v0 v1 v2 v3 : Int) (w : World) (b0 : 0 ≤ v0 ∧ v0 < 4294967296) (b1 : 0 ≤ v1 ∧ v1 < 4294967296) (b2 : 0 ≤ v2 ∧ v2 < 4294967296) (b3 : 0 ≤ v3 ∧ v3 < 4294967296) :
    Calls Tryd.prog 48 #[opV 23 t0 t1 f0 f1 f2 f3 N, .agg #[.int .u32 v0, .int .u32 v1, .int .u32 v2, .int .u32 v3]] w fun e w' => e = .returned (.tuple #[.int .u64 (IntKind.u64.wrap (v1 * 4294967296 + v0 + (v3 * 4294967296 + v2))), .bool true]) ∧ Below w.heap.size w w' := by
  have HA : Hid (∀ w, Calls Tryd.prog 65 #[.int .u32 v0, .int .u32 v1] w fun e w' => e = .returned (.int .u64 (v1 * 4294967296 + v0)) ∧ w' = w) := fun w => pair_any v0 v1 b0.1 b0.2 b1.1 b1.2 w
  have HB : Hid (∀ w, Calls Tryd.prog 65 #[.int .u32 v2, .int .u32 v3] w fun e w' => e = .returned (.int .u64 (v3 * 4294967296 + v2)) ∧ w' = w) := fun w => pair_any v2 v3 b2.1 b2.2 b3.1 b3.2 w
  obtain ⟨A, hA⟩ : ∃ A, A = v1 * 4294967296 + v0 := ⟨_, rfl⟩
  obtain ⟨B, hB⟩ : ∃ B, B = v3 * 4294967296 + v2 := ⟨_, rfl⟩
  rw [← hA, ← hB]
  rw [← hA] at HA
  rw [← hB] at HB
  clear hA hB b0 b1 b2 b3
  obtain ⟨X, hX⟩ : ∃ X, X = IntKind.u64.wrap (A + B) := ⟨_, rfl⟩
  rw [← hX]
  have hX2 := hX.symm
  have HX := Lib.hid hX
  clear hX
  go_enter Tryd.func48, Tryd.ntmps48
  go_wp2_with fail
  go_quiet (first | (go_at_call 65; with_reducible exact Calls.quiet_of_same (HA.out _)) | (go_at_call 65; with_reducible exact Calls.quiet_of_same (HB.out _)))
  go_wp2_with fail
  go_ret2
  exact ⟨rfl, below_drewN (((Below.refl _ w).alloc (Nat.le_refl _) _).alloc (by simp) _) nq⟩

set_option maxHeartbeats 1000000 in
/-- read: the words of From's registers. -/
theorem read_all (sb rb rc mb : Nat) (S : Int) (R : List Int) (K t0 t1 N : Int) (r0 r1 r2 r3 : Nat) (w : World) (hR : RegAt w sb rb rc mb S R) (l0 : r0 < R.length) (l1 : r1 < R.length) (l2 : r2 < R.length) (l3 : r3 < R.length) :
    Calls Tryd.prog 45 #[.pointer (some ⟨sb, 0, none⟩), opV K t0 t1 r0 r1 r2 r3 N] w fun e w' => e = .returned (.agg #[.int .u32 R[r0], .int .u32 R[r1], .int .u32 R[r2], .int .u32 R[r3]]) ∧ Below w.heap.size w w' := by
  have hF : regsOf [(r0 : Int), r1, r2, r3] = [(r0 : Int), r1, r2, r3] := by
    have e : ∀ r : Nat, ((r : Int) != -1) = true := fun r => by simp
    simp [regsOf, e]
  have HR := Lib.hid hR
  have HF := Lib.hid hF
  clear hR hF
  obtain ⟨w3, hw3⟩ : ∃ w3, w3 = ((w.alloc (.cells #[.int .i64 K, .int .i64 t0, .int .i64 t1, .int .i64 r0, .int .i64 r1, .int .i64 r2, .int .i64 r3, .int .u32 N] 37)).alloc (.cells #[.int .u32 0, .int .u32 0, .int .u32 0, .int .u32 0] 97)).alloc (.cells #[.int .u32 0, .int .u32 0, .int .u32 0, .int .u32 0] 97) := ⟨_, rfl⟩
  have hs3 : w3.heap.size = w.heap.size + 3 := by rw [hw3]; simp
  have hB3 : Below w.heap.size w w3 := by rw [hw3]; exact (((Below.refl _ w).alloc (Nat.le_refl _) _).alloc (by simp) _).alloc (by simp; omega) _
  have hk1 : w3.heap[w.heap.size + 1]? = some (.cells #[.int .u32 0, .int .u32 0, .int .u32 0, .int .u32 0] 97 (0, 0)) := by
    rw [hw3, Below.heap_alloc _ _ _ (by simp)]
    have := heap_alloc_new (w.alloc (.cells #[.int .i64 K, .int .i64 t0, .int .i64 t1, .int .i64 r0, .int .i64 r1, .int .i64 r2, .int .i64 r3, .int .u32 N] 37)) (.cells #[.int .u32 0, .int .u32 0, .int .u32 0, .int .u32 0] 97)
    rwa [World.size_alloc] at this
  have hk2 : w3.heap[w.heap.size + 2]? = some (.cells #[.int .u32 0, .int .u32 0, .int .u32 0, .int .u32 0] 97 (0, 0)) := by
    rw [hw3]
    have := heap_alloc_new ((w.alloc (.cells #[.int .i64 K, .int .i64 t0, .int .i64 t1, .int .i64 r0, .int .i64 r1, .int .i64 r2, .int .i64 r3, .int .u32 N] 37)).alloc (.cells #[.int .u32 0, .int .u32 0, .int .u32 0, .int .u32 0] 97)) (.cells #[.int .u32 0, .int .u32 0, .int .u32 0, .int .u32 0] 97)
    rwa [World.size_alloc, World.size_alloc] at this
  have HB3 := Lib.hid hB3
  have Hk1 := Lib.hid hk1
  have Hk2 := Lib.hid hk2
  have Hs3 := Lib.hid hs3
  clear hk1 hk2 hB3 hs3
  go_enter Tryd.func45, Tryd.ntmps45
  go_wp2_with fail
  rw [show w.heap.size + 1 + 1 = w.heap.size + 2 from rfl]
  rw [← hw3]
  refine (uses_any K t0 t1 r0 r1 r2 r3 N w3).mono ?_
  rintro e w4 ⟨v, rfl, hown, hb4⟩
  rw [HF.out] at hown
  have HRw := Lib.hid (HR.out.below (HB3.out.trans (hb4.mono HB3.out.size)))
  obtain ⟨x, c, rfl, hcl, g, rfl, hg3, hgc⟩ : ∃ x c, v = .slice x 4 c ∧ 4 ≤ c ∧ ∃ g, x = some ⟨g, 0, none⟩ ∧ w3.heap.size ≤ g ∧ ∀ j, j < 4 → w4.cell? ⟨g, j, none⟩ = (iCells [(r0 : Int), r1, r2, r3])[j]? := by
    rcases hown.2 with ⟨_, h0⟩ | ⟨g, cap, cur, rfl, hg, hh, hc, _⟩
    · simp at h0
    · exact ⟨_, _, rfl, hc, g, rfl, hg, fun j hj => hown.cellAt j (by simpa using hj)⟩
  have u0 := hgc 0 (by omega)
  have u1 := hgc 1 (by omega)
  have u2 := hgc 2 (by omega)
  have u3 := hgc 3 (by omega)
  simp only [iCells, List.map_cons, List.getElem?_cons_zero, List.getElem?_cons_succ] at u0 u1 u2 u3
  obtain ⟨s0, s1, s2⟩ := HRw.out.cells
  have q0 := HRw.out.row r0 l0
  have q1 := HRw.out.row r1 l1
  have q2 := HRw.out.row r2 l2
  have q3 := HRw.out.row r3 l3
  have hk1 := (hb4.block (w.heap.size + 1) (by have := Hs3.out; omega)).trans Hk1.out
  have hk2 := (hb4.block (w.heap.size + 2) (by have := Hs3.out; omega)).trans Hk2.out
  have z : ∀ j v, #[Value.int .u32 0, .int .u32 0, .int .u32 0, .int .u32 0][j]? = some v → w4.cell? ⟨w.heap.size + 2, j, none⟩ = some v ∧ w4.cell? ⟨w.heap.size + 1, j, none⟩ = some v := fun j v hv => by
    constructor
    · simp only [World.cell?, hk2]; rw [if_neg (by simp)]; exact hv
    · simp only [World.cell?, hk1]; rw [if_neg (by simp)]; exact hv
  obtain ⟨z0, y0⟩ := z 0 _ rfl
  obtain ⟨z1, y1⟩ := z 1 _ rfl
  obtain ⟨z2, y2⟩ := z 2 _ rfl
  obtain ⟨z3, y3⟩ := z 3 _ rfl
  have zf : ∀ j, w4.frozen? ⟨w.heap.size + 2, j, none⟩ = false := fun j => by simp [World.frozen?, hk2]
  have yf : ∀ j, w4.frozen? ⟨w.heap.size + 1, j, none⟩ = false := fun j => by simp [World.frozen?, hk1]
  have hsb := lt_of_block HR.out.blk
  have hrb := HR.out.rlt
  have HB4 := Lib.hid (HB3.out.trans (hb4.mono HB3.out.size))
  have HK1 := Lib.hid hk1
  have d1 : g ≠ w.heap.size + 2 := by have := Hs3.out; omega
  have d2 : rb ≠ w.heap.size + 2 := by omega
  have d3 : sb ≠ w.heap.size + 2 := by omega
  have d4 : w.heap.size + 1 ≠ w.heap.size + 2 := by omega
  have i0 : (r0 : Int) < (R.length : Int) := by omega
  have i1 : (r1 : Int) < (R.length : Int) := by omega
  have i2 : (r2 : Int) < (R.length : Int) := by omega
  have i3 : (r3 : Int) < (R.length : Int) := by omega
  clear hown hb4 hgc z hk1 hk2 hw3
  go_wp2_with fail
  refine wp_loop_rounds 5 ?_
  rw [rounds_succ]
  go_wp2_with fail
  rw [rounds_succ]
  go_wp2_with fail
  rw [rounds_succ]
  go_wp2_with fail
  rw [rounds_succ]
  go_wp2_with fail
  rw [rounds_succ]
  go_wp2_with fail
  have hk5 : ((((w4.setCell ⟨w.heap.size + 2, 0, none⟩ (.int .u32 R[r0])).setCell ⟨w.heap.size + 2, 1, none⟩ (.int .u32 R[r1])).setCell ⟨w.heap.size + 2, 2, none⟩ (.int .u32 R[r2])).setCell ⟨w.heap.size + 2, 3, none⟩ (.int .u32 R[r3])).heap[w.heap.size + 1]? = some (.cells #[.int .u32 0, .int .u32 0, .int .u32 0, .int .u32 0] 97 (0, 0)) := by
    rw [Below.heap_setCell _ _ _ _ d4, Below.heap_setCell _ _ _ _ d4, Below.heap_setCell _ _ _ _ d4, Below.heap_setCell _ _ _ _ d4]
    exact HK1.out
  have hz := (setCell_heap (setCell_heap (setCell_heap (setCell_heap hk5 0 (.int .u32 R[r0])) 1 (.int .u32 R[r1])) 2 (.int .u32 R[r2])) 3 (.int .u32 R[r3]))
  have hBz := ((((((((HB4.out.setCell (p := ⟨w.heap.size + 2, 0, none⟩) (by simp) (.int .u32 R[r0])).setCell (p := ⟨w.heap.size + 2, 1, none⟩) (by simp) (.int .u32 R[r1])).setCell (p := ⟨w.heap.size + 2, 2, none⟩) (by simp) (.int .u32 R[r2])).setCell (p := ⟨w.heap.size + 2, 3, none⟩) (by simp) (.int .u32 R[r3])).setCell (p := ⟨w.heap.size + 1, 0, none⟩) (by simp) (.int .u32 R[r0])).setCell (p := ⟨w.heap.size + 1, 1, none⟩) (by simp) (.int .u32 R[r1])).setCell (p := ⟨w.heap.size + 1, 2, none⟩) (by simp) (.int .u32 R[r2])).setCell (p := ⟨w.heap.size + 1, 3, none⟩) (by simp) (.int .u32 R[r3]))
  generalize World.setCell _ _ _ = wz at hz hBz ⊢
  have zz : ∀ j v, #[Value.int .u32 R[r0], .int .u32 R[r1], .int .u32 R[r2], .int .u32 R[r3]][j]? = some v → wz.cell? ⟨w.heap.size + 1, j, none⟩ = some v := fun j v hv => by
    simp only [World.cell?, hz]; rw [if_neg (by simp)]; exact hv
  have w0 := zz 0 _ rfl
  have w1 := zz 1 _ rfl
  have w2 := zz 2 _ rfl
  have w3 := zz 3 _ rfl
  refine ⟨rfl, .agg #[.int .u32 R[r0], .int .u32 R[r1], .int .u32 R[r2], .int .u32 R[r3]], ?_, rfl, hBz⟩
  simp [results, Tryd.f45, go_sem, w0, w1, w2, w3]
end Go.Proofs.YtmkencdkglbpbaaDoor
set_option maxRecDepth 100000
set_option linter.unusedVariables false
namespace Go.Proofs.YtmkencdkglbpbaaDoor
open Go.RowKit

theorem index_two (x y : Value) (w : World) : (Instr.index 126 (.agg #[x, y]) (.int .i64 0)).run Tryd.prog w = .ok x w ∧ (Instr.index 126 (.agg #[x, y]) (.int .i64 1)).run Tryd.prog w = .ok y w := by
  constructor
  · show _ = _
    kernel_rfl
  · show _ = _
    kernel_rfl

/-- A register takes a word. -/
theorem RegAt.set {w : World} {sb rb rc mb : Nat} {S : Int} {R : List Int} (h : RegAt w sb rb rc mb S R) (r : Nat) (x : Int) (hx : 0 ≤ x ∧ x < 4294967296) (hr : r < R.length) : RegAt (w.setCell ⟨rb, r, none⟩ (.int .u32 x)) sb rb rc mb S (R.set r x) where
  blk := by
    rw [Below.heap_setCell _ _ _ _ (show sb ≠ rb from fun e => h.ne e.symm), List.length_set]; exact h.blk
  row := fun i hi => by
    have hi' : i < R.length := by simpa using hi
    by_cases e : i = r
    · subst e
      rw [List.getElem_set_self]
      have hc := h.row i hi'
      exact World.cell?_setCell_same' _ _ _ (by rw [hc]; rfl)
    · rw [List.getElem_set_ne (fun e' => e e'.symm), World.cell?_setCell_other _ _ _ _ (by simp [e])]
      exact h.row i hi'
  free := fun i => by rw [World.frozen?_setCell]; exact h.free i
  rlt := by have := h.rlt; simpa [World.setCell] using this
  ne := h.ne
  cap := by rw [List.length_set]; exact h.cap
  small := by rw [List.length_set]; exact h.small
  bytes := fun y hy => by
    rcases List.mem_or_eq_of_mem_set hy with hy | rfl
    · exact h.bytes y hy
    · exact hx
  sbd := h.sbd

set_option maxHeartbeats 2000000 in
theorem write_two (sb rb rc mb : Nat) (S : Int) (R : List Int) (K f0 f1 f2 f3 N lo hi : Int) (r0 r1 : Nat) (w : World) (hR : RegAt w sb rb rc mb S R) (l0 : r0 < R.length) (l1 : r1 < R.length) (hn01 : r0 ≠ r1) (hlo : 0 ≤ lo ∧ lo < 4294967296) (hhi : 0 ≤ hi ∧ hi < 4294967296) :
    Calls Tryd.prog 49 #[.pointer (some ⟨sb, 0, none⟩), opV K r0 r1 f0 f1 f2 f3 N, .int .u32 lo, .int .u32 hi] w fun e w' => e = .returned (.tuple #[]) ∧ RegAt w' sb rb rc mb S ((R.set r0 lo).set r1 hi) ∧ w.grownBy w' (some rb) := by
  have hF : regsOf [(r0 : Int), r1] = [(r0 : Int), r1] := by
    have e : ∀ r : Nat, ((r : Int) != -1) = true := fun r => by simp
    simp [regsOf, List.filter_cons, e]
  have HR := Lib.hid hR
  have HF := Lib.hid hF
  clear hR hF
  obtain ⟨w1, hw1⟩ : ∃ w1, w1 = w.alloc (.cells #[.int .i64 K, .int .i64 r0, .int .i64 r1, .int .i64 f0, .int .i64 f1, .int .i64 f2, .int .i64 f3, .int .u32 N] 37) := ⟨_, rfl⟩
  have hB1 : Below w.heap.size w w1 := by rw [hw1]; exact (Below.refl _ _).alloc (Nat.le_refl _) _
  go_enter Tryd.func49, Tryd.ntmps49
  go_wp2_with fail
  rw [← hw1]
  refine (sets_any K r0 r1 f0 f1 f2 f3 N w1).mono ?_
  rintro e w4 ⟨v, rfl, hown, hb4⟩
  rw [HF.out] at hown
  have hB4 := hB1.trans (hb4.mono hB1.size)
  have HB4 := Lib.hid hB4
  have HRw := Lib.hid (HR.out.below hB4)
  obtain ⟨x, c, rfl, hcl, g, rfl, hg3, hgc⟩ : ∃ x c, v = .slice x 2 c ∧ 2 ≤ c ∧ ∃ g, x = some ⟨g, 0, none⟩ ∧ w1.heap.size ≤ g ∧ ∀ j, j < 2 → w4.cell? ⟨g, j, none⟩ = (iCells [(r0 : Int), r1])[j]? := by
    rcases hown.2 with ⟨_, h0⟩ | ⟨g, cap, cur, rfl, hg, hh, hc, _⟩
    · simp at h0
    · exact ⟨_, _, rfl, hc, g, rfl, hg, fun j hj => hown.cellAt j (by simpa using hj)⟩
  have u0 := hgc 0 (by omega)
  have u1 := hgc 1 (by omega)
  simp only [iCells, List.map_cons, List.getElem?_cons_zero, List.getElem?_cons_succ] at u0 u1
  obtain ⟨s0, s1, s2⟩ := HRw.out.cells
  have q0 := HRw.out.row r0 l0
  have q1 := HRw.out.row r1 l1
  have fr := HRw.out.free
  have hrb := HR.out.rlt
  have hne := HR.out.ne
  have hs1 := hB1.size
  have d1 : g ≠ rb := by omega
  have d2 : sb ≠ rb := fun e => hne e.symm
  have d5 : r1 ≠ r0 := fun e => hn01 e.symm
  have i0 : (r0 : Int) < (R.length : Int) := by omega
  have i1 : (r1 : Int) < (R.length : Int) := by omega
  have HS1 := Lib.hid ((HRw.out.set r0 lo hlo l0).set r1 hi hhi (by rw [List.length_set]; exact l1))
  clear hown hb4 hgc hw1 hB1 hB4
  have x0 : ∀ w, _ := fun w => (index_two (.int .u32 lo) (.int .u32 hi) w).1
  have x1 : ∀ w, _ := fun w => (index_two (.int .u32 lo) (.int .u32 hi) w).2
  go_wp2_with fail
  refine wp_loop_rounds 3 ?_
  rw [rounds_succ]
  go_wp2_with fail
  go_region_held3 (fun w' => w'.cell? ⟨sb, 0, none⟩ = some (.slice (some ⟨rb, 0, none⟩) R.length rc)) (go_keep) (fail)
  go_wp2_with fail
  rw [rounds_succ]
  go_wp2_with fail
  go_region_held3 (fun w' => w'.cell? ⟨sb, 0, none⟩ = some (.slice (some ⟨rb, 0, none⟩) R.length rc)) (go_keep) (fail)
  go_wp2_with fail
  rw [rounds_succ]
  go_wp2_with fail
  go_end0
  have g1 : w.grownBy w4 (some rb) := ⟨HB4.out.os, HB4.out.tape, HB4.out.output, HB4.out.size, fun i hi _ => HB4.out.block i hi⟩
  have g2 := grown_trans g1 (grown_trans (setCell_grown w4 rb r0 (.int .u32 lo)) (setCell_grown _ rb r1 (.int .u32 hi)))
  exact ⟨rfl, HS1.out.below (Below.refl _ _).drew.drew, ⟨g2.os, g2.tape, g2.output, g2.size, g2.block⟩⟩
end Go.Proofs.YtmkencdkglbpbaaDoor
set_option maxRecDepth 100000
set_option linter.unusedVariables false
namespace Go.Proofs.YtmkencdkglbpbaaDoor
open Go.RowKit

theorem i_all (T : List Int) : ∀ u ∈ iCells T, u.oneCell' = true := by
  intro u hu
  simp only [iCells, List.mem_map] at hu
  obtain ⟨x, _, rfl⟩ := hu
  rfl
theorem ownsRow_below {w w' : World} {B : Nat} {e : TypeId} {size : Nat} {v : Value} {n : Nat} {xs : List Value} (h : w.ownsRow B e size v n xs) (hb : Below w.heap.size w w') : w'.ownsRow B e size v n xs := by
  obtain ⟨h1, h2⟩ := h
  refine ⟨h1, ?_⟩
  rcases h2 with h2 | ⟨g, cap, cur, hv, hg, hh, r⟩
  · exact .inl h2
  · exact .inr ⟨g, cap, cur, hv, hg, by rw [hb.block _ (lt_of_block hh)]; exact hh, r⟩
theorem run_append_rows {P : Program} (w : World) (base base2 : Nat) (t ty e : TypeId) (i : TypeInfo) (z : Value) (size bytes : Nat) (ht : P.underlying t = some (.slice e)) (hi : P.info? e = some i) (hz : i.zero = some z)
    (hsize : i.size = size) (hby : i.bytes = bytes) (hzs : z.cells.size = size) (hsz : 0 < size)
    (v : Value) (n : Nat) (xs : List Value) (hown : w.ownsRow base e size v n xs) (v2 : Value) (m : Nat) (news : List Value) (hown2 : w.ownsRow base2 e size v2 m news) (h1 : ∀ u ∈ news, u.oneCell' = true)
    (h63 : n + m ≤ maxLen) (hbytes : (n + m) * bytes ≤ 140737488355328) (hbase : base ≤ w.heap.size) :
    ∃ v' w', (Builtin.append_ #[t, t] ty #[v, v2]).run P w = .ok v' w' ∧ w'.ownsRow base e size v' (n + m) (xs ++ news) ∧ w.grownBy w' v.ownBlock := by
  rcases hown2.2 with ⟨rfl, rfl⟩ | ⟨g, cap, cur, rfl, hg, hh, hc, _⟩
  · have hn : news = [] := List.eq_nil_of_length_eq_zero (by simpa using hown2.1)
    subst hn
    refine ⟨v, w, run_append_owned_none (P := P) (w := w) base t ty e i size ht hi v n xs hown, ?_, ⟨rfl, rfl, rfl, Nat.le_refl _, fun _ _ _ => rfl⟩⟩
    rw [List.append_nil]; exact hown
  · obtain ⟨v', w', hr, h2, h3, _⟩ := run_append_own (P := P) w base t ty e i z size bytes ht hi hz hsize hby hzs hsz v n xs hown ⟨g, 0, none⟩ m cap news hown2.1 (hown2.cells (g := g) rfl) h1 h63 hbytes hbase
    exact ⟨v', w', hr, h2, h3⟩
theorem step_append_rows {P : Program} {ops : Array Oper} {o : Oper} {a : Act} {w : World} {K : Act → World → Prop} {Q : Exit → Act → World → Prop} {E : Prop} (hgd : o.guard = none) (s x : Operand) (t : TypeId)
    (ho : o.op = .call { callee := .builtin .append, args := #[s, x], argTypes := #[t, t] })
    (base base2 : Nat) (e : TypeId) (i : TypeInfo) (z : Value) (size bytes : Nat) (ht : P.underlying t = some (.slice e)) (hi : P.info? e = some i) (hz : i.zero = some z)
    (hsize : i.size = size) (hby : i.bytes = bytes) (hzs : z.cells.size = size) (hsz : 0 < size)
    (v : Value) (n : Nat) (xs : List Value) (hs : a.eval s = v) (hown : w.ownsRow base e size v n xs) (v2 : Value) (m : Nat) (news : List Value) (hx : a.eval x = v2) (hown2 : w.ownsRow base2 e size v2 m news) (h1 : ∀ u ∈ news, u.oneCell' = true)
    (h63 : n + m ≤ maxLen) (hbytes : (n + m) * bytes ≤ 140737488355328) (hbase : base ≤ w.heap.size)
    (h : ∀ v' w', w'.ownsRow base e size v' (n + m) (xs ++ news) → w.grownBy w' v.ownBlock → K (a.put o.dst v') w') :
    if Region.wanted o (yielded ops a.tmps) = true then Oper.wp P o a w K Q else E := by
  have hw : Region.wanted o (yielded ops a.tmps) = true := by simp [Region.wanted, hgd]
  rw [if_pos hw]
  obtain ⟨v', w', hr, h2, h3⟩ := run_append_rows (P := P) w base base2 t o.type e i z size bytes ht hi hz hsize hby hzs hsz v n xs hown v2 m news hown2 h1 h63 hbytes hbase
  unfold Oper.wp execOp
  simp only [ho, resolve, invoke, builtin, Sem.run_bind, Sem.run_pure, Result.andThen_ok, List.map_toArray, List.map_cons, List.map_nil, hs, hx, hr]
  exact h v' w' h2 h3
theorem own_form {w : World} {B : Nat} {v : Value} {n : Nat} {T : List Int} (h : w.ownsRow B 3 1 v n (iCells T)) (hn : n = T.length) : ∃ x c, v = .slice x n c ∧ n ≤ c ∧ (0 < n → ∃ g, x = some ⟨g, 0, none⟩ ∧ B ≤ g ∧ g < w.heap.size ∧ ∀ j (hj : j < T.length), w.cell? ⟨g, j, none⟩ = some (.int .i64 T[j])) := by
  rcases h.2 with ⟨hv, h0⟩ | ⟨g, cap, cur, rfl, hg, hh, hc, _⟩
  · subst h0
    exact ⟨none, 0, hv, Nat.le_refl _, fun h => absurd h (by omega)⟩
  · refine ⟨_, cap, rfl, hc, fun _ => ⟨g, rfl, hg, lt_of_block hh, fun j hj => ?_⟩⟩
    rw [h.cellAt j (by omega)]
    simp [iCells, hj]

set_option maxHeartbeats 2000000 in
/-- reach: whether all registers of an operation are there. -/
theorem reach_any (sb rb rc mb : Nat) (S : Int) (R : List Int) (K t0 t1 f0 f1 f2 f3 N : Int) (w : World) (hR : RegAt w sb rb rc mb S R) :
    Calls Tryd.prog 44 #[.pointer (some ⟨sb, 0, none⟩), opV K t0 t1 f0 f1 f2 f3 N] w fun e w' => e = .returned (.bool ((regsOf [f0, f1, f2, f3] ++ regsOf [t0, t1]).all fun x => decide (x < R.length))) ∧ Below w.heap.size w w' := by
  obtain ⟨i0, hi, hz0, hz1, hz2⟩ := info_parts Tryd.infoInt
  have HR := Lib.hid hR
  have hlu : (regsOf [f0, f1, f2, f3]).length ≤ 4 := by have := List.length_filter_le (fun x : Int => x != -1) [f0, f1, f2, f3]; simpa using this
  have hls : (regsOf [t0, t1]).length ≤ 2 := by have := List.length_filter_le (fun x : Int => x != -1) [t0, t1]; simpa using this
  obtain ⟨U, hU⟩ : ∃ U, U = regsOf [f0, f1, f2, f3] := ⟨_, rfl⟩
  obtain ⟨T, hT⟩ : ∃ T, T = regsOf [t0, t1] := ⟨_, rfl⟩
  rw [← hU] at hlu
  rw [← hT] at hls
  rw [← hU, ← hT]
  obtain ⟨V, hV⟩ : ∃ V, V = U ++ T := ⟨_, rfl⟩
  have hVl : V.length = U.length + T.length := by rw [hV]; simp
  rw [← hV]
  have HV := Lib.hid hV
  clear hV
  have HU := Lib.hid hU
  have HT := Lib.hid hT
  clear hR hU hT
  obtain ⟨w1, hw1⟩ : ∃ w1, w1 = w.alloc (.cells #[.int .i64 K, .int .i64 t0, .int .i64 t1, .int .i64 f0, .int .i64 f1, .int .i64 f2, .int .i64 f3, .int .u32 N] 37) := ⟨_, rfl⟩
  have hB1 : Below w.heap.size w w1 := by rw [hw1]; exact (Below.refl _ _).alloc (Nat.le_refl _) _
  have hs1 : w.heap.size < w1.heap.size := by rw [hw1]; simp
  have cells : ∀ j u, #[Value.int .i64 K, .int .i64 t0, .int .i64 t1, .int .i64 f0, .int .i64 f1, .int .i64 f2, .int .i64 f3, .int .u32 N][j]? = some u → w1.cell? ⟨w.heap.size, j, none⟩ = some u := by
    intro j u hu
    rw [hw1, World.cell?_alloc_at _ _ _ _ rfl]; exact hu
  have HB1 := Lib.hid hB1
  have HC := Lib.hid cells
  have k0 : w1.cell? ⟨w.heap.size, 0, none⟩ = some (.int .i64 K) := cells 0 _ rfl
  have k1 : w1.cell? ⟨w.heap.size, 1, none⟩ = some (.int .i64 t0) := cells 1 _ rfl
  have k2 : w1.cell? ⟨w.heap.size, 2, none⟩ = some (.int .i64 t1) := cells 2 _ rfl
  have k3 : w1.cell? ⟨w.heap.size, 3, none⟩ = some (.int .i64 f0) := cells 3 _ rfl
  have k4 : w1.cell? ⟨w.heap.size, 4, none⟩ = some (.int .i64 f1) := cells 4 _ rfl
  have k5 : w1.cell? ⟨w.heap.size, 5, none⟩ = some (.int .i64 f2) := cells 5 _ rfl
  have k6 : w1.cell? ⟨w.heap.size, 6, none⟩ = some (.int .i64 f3) := cells 6 _ rfl
  have k7 : w1.cell? ⟨w.heap.size, 7, none⟩ = some (.int .u32 N) := cells 7 _ rfl
  have Kp : Hid (∀ w', Below w1.heap.size w1 w' → w'.cell? ⟨w.heap.size, 0, none⟩ = some (.int .i64 K) ∧ w'.cell? ⟨w.heap.size, 1, none⟩ = some (.int .i64 t0) ∧ w'.cell? ⟨w.heap.size, 2, none⟩ = some (.int .i64 t1) ∧ w'.cell? ⟨w.heap.size, 3, none⟩ = some (.int .i64 f0) ∧ w'.cell? ⟨w.heap.size, 4, none⟩ = some (.int .i64 f1) ∧ w'.cell? ⟨w.heap.size, 5, none⟩ = some (.int .i64 f2) ∧ w'.cell? ⟨w.heap.size, 6, none⟩ = some (.int .i64 f3) ∧ w'.cell? ⟨w.heap.size, 7, none⟩ = some (.int .u32 N)) := fun w' h =>
    ⟨(h.cell (p := ⟨w.heap.size, 0, none⟩) hs1).trans k0, (h.cell (p := ⟨w.heap.size, 1, none⟩) hs1).trans k1, (h.cell (p := ⟨w.heap.size, 2, none⟩) hs1).trans k2, (h.cell (p := ⟨w.heap.size, 3, none⟩) hs1).trans k3, (h.cell (p := ⟨w.heap.size, 4, none⟩) hs1).trans k4, (h.cell (p := ⟨w.heap.size, 5, none⟩) hs1).trans k5, (h.cell (p := ⟨w.heap.size, 6, none⟩) hs1).trans k6, (h.cell (p := ⟨w.heap.size, 7, none⟩) hs1).trans k7⟩
  clear cells
  go_enter Tryd.func44, Tryd.ntmps44
  go_wp2_with fail
  rw [← hw1]
  clear hw1
  have hD : Below w1.heap.size w1 w1.drew := (Below.refl _ w1).drew
  go_region_held3 (fun w' => w'.cell? ⟨w.heap.size, 0, none⟩ = some (.int .i64 K) ∧ w'.cell? ⟨w.heap.size, 1, none⟩ = some (.int .i64 t0) ∧ w'.cell? ⟨w.heap.size, 2, none⟩ = some (.int .i64 t1) ∧ w'.cell? ⟨w.heap.size, 3, none⟩ = some (.int .i64 f0) ∧ w'.cell? ⟨w.heap.size, 4, none⟩ = some (.int .i64 f1) ∧ w'.cell? ⟨w.heap.size, 5, none⟩ = some (.int .i64 f2) ∧ w'.cell? ⟨w.heap.size, 6, none⟩ = some (.int .i64 f3) ∧ w'.cell? ⟨w.heap.size, 7, none⟩ = some (.int .u32 N))
    (first
      | go_keep
      | exact Kp.out _ hb5
      | exact Kp.out _ hbs2
      | exact Kp.out _ (hD.trans hbu))
    (first
      | (go_at_call 15; refine (uses_any K t0 t1 f0 f1 f2 f3 N _).mono ?_; rintro e wu ⟨vu, rfl, hou, hbu⟩; rw [← HU.out] at hou)
      | (go_at_call 16; refine (sets_any K t0 t1 f0 f1 f2 f3 N _).mono ?_; rintro e ws ⟨vs, rfl, hos, hbs⟩; rw [← HT.out] at hos; have hbs2 := (hD.trans hbu).trans (hbs.mono (hD.trans hbu).size); have hou2 := ownsRow_below hou hbs)
      | (refine step_append_rows (by rfl) _ _ _ (by rfl) w1.drew.heap.size wu.heap.size 3 i0 (.int .i64 0) 1 8 Tryd.underlying41 hi hz0 hz1 hz2 rfl (by omega) vu U.length (iCells U) (by rfl) hou2 vs T.length (iCells T) (by rfl) hos (i_all T) (by unfold maxLen; omega) (by omega) hbs2.size ?_; intro va w5 hown5 hgrow5; have hb5 := hbs2.grown hgrow5 hbs2.size (fun k e => (hou2.lt k e).1); rw [show iCells U ++ iCells T = iCells V from by rw [HV.out]; simp [iCells]] at hown5; obtain ⟨sx, sc, rfl, hsc, hform⟩ := own_form hown5 hVl.symm))
  have hbb := HB1.out.trans (hb5.mono HB1.out.size)
  have HBB := Lib.hid hbb
  have HR5 := Lib.hid (HR.out.below hbb)
  obtain ⟨s0, s1, s2⟩ := HR5.out.cells
  have hsm := HR5.out.small
  rw [show ((U.length : Int) + (T.length : Int)) = ((U.length + T.length : Nat) : Int) from by omega]
  rw [← hVl] at hform hsc ⊢
  have HF := Lib.hid hform
  have hV6 : V.length ≤ 6 := by omega
  clear hown5 hgrow5 hbb hb5 HV hVl hform hls hlu hos hou hou2 hbs2 hbu hbs hD HU HT
  go_wp2_with fail
  go_loopw [13] (fun i wr => ∃ k : Nat, k ≤ V.length ∧ i = .int .i64 k ∧ wr = w5 ∧ ∀ x ∈ V.take k, x < (R.length : Int)) (fun i _ => V.length - (intOf i).toNat)
  case atStart => exact ⟨0, Nat.zero_le _, rfl, rfl, by simp⟩
  case round =>
    obtain ⟨k, hk, rfl, rfl, hall⟩ := hrel
    have HA := Lib.hid hall
    clear hall
    by_cases hlt : k < V.length
    · obtain ⟨g, rfl, hg, hg2, hc⟩ := HF.out (by omega)
      have c0 := hc k hlt
      have hst : V.take (k + 1) = V.take k ++ [V[k]] := List.take_succ_eq_append_getElem hlt
      obtain ⟨X, hX⟩ : ∃ X, V[k]'hlt = X := ⟨_, rfl⟩
      have hmem : X ∈ V := hX ▸ List.getElem_mem hlt
      rw [hX] at c0 hst
      have Hst := Lib.hid hst
      have wq : IntKind.i64.wrap ((k : Int) + 1) = (k : Int) + 1 := IntWalk.i64_in _ (by omega)
      clear hst hX hc
      by_cases hx : X < (R.length : Int)
      · have hb : decide (X ≥ (R.length : Int)) = false := by simpa using hx
        have Hx := Lib.hid hx
        clear hx
        go_wp2_with fail
        refine ⟨⟨k + 1, by omega, by simp, trivial, ?_⟩, by simp only [intOf]; omega⟩
        rw [Hst.out]
        intro x hx
        rcases List.mem_append.1 hx with hx | hx
        · exact HA.out x hx
        · rw [List.mem_singleton.1 hx]; exact Hx.out
      · have hb : decide (X ≥ (R.length : Int)) = true := by simp; omega
        have Hx := Lib.hid hx
        clear hx
        go_wp2_with fail
        go_ret
        refine ⟨?_, HBB.out⟩
        rw [List.all_eq_false.2 ⟨X, hmem, by simpa using Hx.out⟩]; rfl
    · have hkq : k = V.length := by omega
      have htk : V.take k = V := by rw [hkq, List.take_length]
      have ha := HA.out
      rw [htk] at ha
      have HAA := Lib.hid ha
      clear ha htk
      go_wp2_with fail
      go_ret
      refine ⟨?_, HBB.out⟩
      rw [List.all_eq_true.2 fun x hx => by simpa using HAA.out x hx]; rfl
end Go.Proofs.YtmkencdkglbpbaaDoor
set_option maxRecDepth 100000
set_option linter.unusedVariables false
namespace Go.Proofs.YtmkencdkglbpbaaDoor
open Go.RowKit

/-- The word of a list's i-th register; 0, if there is none. -/
def rv (R F : List Int) (i : Nat) : Int := match F[i]? with
  | none => 0
  | some r => R.getD r.toNat 0
/-- Words of the first k registers. -/
def pv (R F : List Int) (k i : Nat) : Int := if i < k then rv R F i else 0
theorem pv_zero (R F : List Int) (i : Nat) : pv R F 0 i = 0 := by simp [pv]
theorem pv_all (R F : List Int) (k i : Nat) (hk : F.length ≤ k) : pv R F k i = rv R F i := by
  unfold pv
  split
  · rfl
  · rw [rv, List.getElem?_eq_none (by omega)]
theorem pv_same (R F : List Int) (k i : Nat) (h : i ≠ k) : pv R F (k + 1) i = pv R F k i := by
  unfold pv
  by_cases hl : i < k
  · rw [if_pos (by omega), if_pos hl]
  · rw [if_neg (by omega), if_neg hl]
theorem pv_new (R F : List Int) (k : Nat) : pv R F (k + 1) k = rv R F k := by unfold pv; rw [if_pos (by omega)]
theorem rv_mem {R F : List Int} (hF : ∀ x ∈ F, 0 ≤ x ∧ x < (R.length : Int)) (hb : ∀ x ∈ R, 0 ≤ x ∧ x < 4294967296) (i : Nat) : 0 ≤ rv R F i ∧ rv R F i < 4294967296 := by
  unfold rv
  split
  · omega
  · rename_i r hr
    have h1 := hF r (List.mem_of_getElem? hr)
    have h2 : r.toNat < R.length := by omega
    rw [List.getD_eq_getElem?_getD, List.getElem?_eq_getElem h2]
    exact hb _ (List.getElem_mem h2)

set_option maxHeartbeats 2000000 in
/-- read: the words of From's registers. -/
theorem read_any (sb rb rc mb : Nat) (S : Int) (R : List Int) (K t0 t1 f0 f1 f2 f3 N : Int) (w : World) (hR : RegAt w sb rb rc mb S R) (hall : ∀ x ∈ regsOf [f0, f1, f2, f3], 0 ≤ x ∧ x < (R.length : Int)) :
    Calls Tryd.prog 45 #[.pointer (some ⟨sb, 0, none⟩), opV K t0 t1 f0 f1 f2 f3 N] w fun e w' => e = .returned (.agg #[.int .u32 (rv R (regsOf [f0, f1, f2, f3]) 0), .int .u32 (rv R (regsOf [f0, f1, f2, f3]) 1), .int .u32 (rv R (regsOf [f0, f1, f2, f3]) 2), .int .u32 (rv R (regsOf [f0, f1, f2, f3]) 3)]) ∧ Below w.heap.size w w' := by
  have hlu : (regsOf [f0, f1, f2, f3]).length ≤ 4 := by have := List.length_filter_le (fun x : Int => x != -1) [f0, f1, f2, f3]; simpa using this
  obtain ⟨U, hU⟩ : ∃ U, U = regsOf [f0, f1, f2, f3] := ⟨_, rfl⟩
  rw [← hU] at hlu hall ⊢
  have HU := Lib.hid hU
  have HA := Lib.hid hall
  have HR := Lib.hid hR
  clear hR hU hall
  obtain ⟨w3, hw3⟩ : ∃ w3, w3 = ((w.alloc (.cells #[.int .i64 K, .int .i64 t0, .int .i64 t1, .int .i64 f0, .int .i64 f1, .int .i64 f2, .int .i64 f3, .int .u32 N] 37)).alloc (.cells #[.int .u32 0, .int .u32 0, .int .u32 0, .int .u32 0] 97)).alloc (.cells #[.int .u32 0, .int .u32 0, .int .u32 0, .int .u32 0] 97) := ⟨_, rfl⟩
  have hs3 : w3.heap.size = w.heap.size + 3 := by rw [hw3]; simp
  have hB3 : Below w.heap.size w w3 := by rw [hw3]; exact (((Below.refl _ w).alloc (Nat.le_refl _) _).alloc (by simp) _).alloc (by simp; omega) _
  have hk1 : w3.heap[w.heap.size + 1]? = some (.cells #[.int .u32 0, .int .u32 0, .int .u32 0, .int .u32 0] 97 (0, 0)) := by
    rw [hw3, Below.heap_alloc _ _ _ (by simp)]
    have := heap_alloc_new (w.alloc (.cells #[.int .i64 K, .int .i64 t0, .int .i64 t1, .int .i64 f0, .int .i64 f1, .int .i64 f2, .int .i64 f3, .int .u32 N] 37)) (.cells #[.int .u32 0, .int .u32 0, .int .u32 0, .int .u32 0] 97)
    rwa [World.size_alloc] at this
  have hk2 : w3.heap[w.heap.size + 2]? = some (.cells #[.int .u32 0, .int .u32 0, .int .u32 0, .int .u32 0] 97 (0, 0)) := by
    rw [hw3]
    have := heap_alloc_new ((w.alloc (.cells #[.int .i64 K, .int .i64 t0, .int .i64 t1, .int .i64 f0, .int .i64 f1, .int .i64 f2, .int .i64 f3, .int .u32 N] 37)).alloc (.cells #[.int .u32 0, .int .u32 0, .int .u32 0, .int .u32 0] 97)) (.cells #[.int .u32 0, .int .u32 0, .int .u32 0, .int .u32 0] 97)
    rwa [World.size_alloc, World.size_alloc] at this
  have HB3 := Lib.hid hB3
  have Hk1 := Lib.hid hk1
  have Hk2 := Lib.hid hk2
  have Hs3 := Lib.hid hs3
  clear hk1 hk2 hB3 hs3
  go_enter Tryd.func45, Tryd.ntmps45
  go_wp2_with fail
  rw [show w.heap.size + 1 + 1 = w.heap.size + 2 from rfl]
  rw [← hw3]
  refine (uses_any K t0 t1 f0 f1 f2 f3 N w3).mono ?_
  rintro e w4 ⟨v, rfl, hown, hb4⟩
  rw [← HU.out] at hown
  obtain ⟨sx, sc, rfl, hsc, hform⟩ := own_form hown rfl
  have HF := Lib.hid hform
  have HB4 := Lib.hid (HB3.out.trans (hb4.mono HB3.out.size))
  have hk1 := (hb4.block (w.heap.size + 1) (by have := Hs3.out; omega)).trans Hk1.out
  have hk2 := (hb4.block (w.heap.size + 2) (by have := Hs3.out; omega)).trans Hk2.out
  have HK1 := Lib.hid hk1
  have HK2 := Lib.hid hk2
  have HS4 := Lib.hid hb4.size
  clear hown hform hb4 hk1 hk2 hw3
  go_wp2_with fail
  go_loopw [11] (fun i wr => ∃ k : Nat, k ≤ U.length ∧ i = .int .i64 k ∧ Below w.heap.size w wr ∧ wr.heap[w.heap.size + 1]? = some (.cells #[.int .u32 0, .int .u32 0, .int .u32 0, .int .u32 0] 97 (0, 0)) ∧ wr.heap[w.heap.size + 2]? = some (.cells #[.int .u32 (pv R U k 0), .int .u32 (pv R U k 1), .int .u32 (pv R U k 2), .int .u32 (pv R U k 3)] 97 (0, 0)) ∧ (∀ p : Addr, w3.heap.size ≤ p.block → p.block < w4.heap.size → wr.cell? p = w4.cell? p)) (fun i _ => U.length - (intOf i).toNat)
  case atStart =>
    refine ⟨0, Nat.zero_le _, rfl, HB4.out, HK1.out, ?_, fun _ _ _ => rfl⟩
    rw [pv_zero, pv_zero, pv_zero, pv_zero]
    exact HK2.out
  case round =>
    obtain ⟨k, hk, rfl, hb, hk1, hk2, hkeep⟩ := hrel
    have HB := Lib.hid hb
    have H1 := Lib.hid hk1
    have H2 := Lib.hid hk2
    have HKP := Lib.hid hkeep
    have HRw := Lib.hid (HR.out.below hb)
    obtain ⟨s0, s1, s2⟩ := HRw.out.cells
    have hsb := lt_of_block HR.out.blk
    have hrb := HR.out.rlt
    have d2 : rb ≠ w.heap.size + 2 := by omega
    have d3 : sb ≠ w.heap.size + 2 := by omega
    have d4 : w.heap.size + 1 ≠ w.heap.size + 2 := by omega
    have hs3 := Hs3.out
    clear hb hk1 hk2 hkeep
    by_cases hlt : k < U.length
    · obtain ⟨g, rfl, hg, hg2, hc⟩ := HF.out (by omega)
      have c0 := (HKP.out ⟨g, k, none⟩ hg hg2).trans (hc k hlt)
      have hX := HA.out _ (List.getElem_mem hlt)
      obtain ⟨X, hXe⟩ : ∃ X, U[k]'hlt = X := ⟨_, rfl⟩
      rw [hXe] at c0 hX
      obtain ⟨r, rfl⟩ := Int.eq_ofNat_of_zero_le hX.1
      have hr : r < R.length := by omega
      have hrv : rv R U k = R[r] := by
        unfold rv
        rw [List.getElem?_eq_getElem hlt, hXe]
        simp [List.getD_eq_getElem?_getD, hr]
      have q0 := HRw.out.row r hr
      have i0 : (r : Int) < (R.length : Int) := by omega
      have k4 : (k : Int) < 4 := by omega
      have wq : IntKind.i64.wrap ((k : Int) + 1) = (k : Int) + 1 := IntWalk.i64_in _ (by omega)
      have hkz : (wr.cell? ⟨w.heap.size + 2, k, none⟩).isSome = true := by
        simp only [World.cell?, H2.out]
        rw [if_neg (by simp)]
        rcases (show k = 0 ∨ k = 1 ∨ k = 2 ∨ k = 3 by omega) with rfl | rfl | rfl | rfl <;> rfl
      obtain ⟨y0, hy0⟩ := Option.isSome_iff_exists.1 hkz
      have zf : wr.frozen? ⟨w.heap.size + 2, k, none⟩ = false := by simp [World.frozen?, H2.out]
      have d1 : g ≠ w.heap.size + 2 := by omega
      have Hrv := Lib.hid hrv
      clear hc hXe hX hkz hrv
      obtain ⟨Y, hY⟩ : ∃ Y, Y = R[r] := ⟨_, rfl⟩
      rw [← hY] at q0 Hrv
      clear hY
      go_wp2_with fail
      refine ⟨⟨k + 1, by omega, by simp, HB.out.setCell (p := ⟨w.heap.size + 2, k, none⟩) (by simp) (.int .u32 Y), ?_, ?_, ?_⟩, by simp only [intOf]; omega⟩
      · rw [Below.heap_setCell _ _ _ _ d4]; exact H1.out
      · have hz := setCell_heap H2.out k (.int .u32 Y)
        rw [hz, ← Hrv.out]
        have hnew := pv_new R U k
        have hsame := fun i h => pv_same R U k i h
        rcases (show k = 0 ∨ k = 1 ∨ k = 2 ∨ k = 3 by omega) with rfl | rfl | rfl | rfl
        · rw [hnew, hsame 1 (by omega), hsame 2 (by omega), hsame 3 (by omega)]; rfl
        · rw [hnew, hsame 0 (by omega), hsame 2 (by omega), hsame 3 (by omega)]; rfl
        · rw [hnew, hsame 0 (by omega), hsame 1 (by omega), hsame 3 (by omega)]; rfl
        · rw [hnew, hsame 0 (by omega), hsame 1 (by omega), hsame 2 (by omega)]; rfl
      · intro p h1 h2
        rw [World.cell?_setCell_other _ _ _ _ (by rintro rfl; have h1' : w3.heap.size ≤ w.heap.size + 2 := h1; omega)]
        exact HKP.out p h1 h2
    · have hkq : k = U.length := by omega
      have h2 := H2.out
      rw [pv_all R U k _ (by omega), pv_all R U k _ (by omega), pv_all R U k _ (by omega), pv_all R U k _ (by omega)] at h2
      obtain ⟨a0, ha0⟩ : ∃ a, a = rv R U 0 := ⟨_, rfl⟩
      obtain ⟨a1, ha1⟩ : ∃ a, a = rv R U 1 := ⟨_, rfl⟩
      obtain ⟨a2, ha2⟩ : ∃ a, a = rv R U 2 := ⟨_, rfl⟩
      obtain ⟨a3, ha3⟩ : ∃ a, a = rv R U 3 := ⟨_, rfl⟩
      rw [← ha0, ← ha1, ← ha2, ← ha3] at h2
      have HE := Lib.hid (And.intro ha0 (And.intro ha1 (And.intro ha2 ha3)))
      clear ha0 ha1 ha2 ha3
      have y : ∀ j v, #[Value.int .u32 0, .int .u32 0, .int .u32 0, .int .u32 0][j]? = some v → wr.cell? ⟨w.heap.size + 1, j, none⟩ = some v := fun j v hv => by
        simp only [World.cell?, H1.out]; rw [if_neg (by simp)]; exact hv
      have z : ∀ j v, #[Value.int .u32 a0, .int .u32 a1, .int .u32 a2, .int .u32 a3][j]? = some v → wr.cell? ⟨w.heap.size + 2, j, none⟩ = some v := fun j v hv => by
        simp only [World.cell?, h2]; rw [if_neg (by simp)]; exact hv
      have y0 := y 0 _ rfl
      have y1 := y 1 _ rfl
      have y2 := y 2 _ rfl
      have y3 := y 3 _ rfl
      have z0 := z 0 _ rfl
      have z1 := z 1 _ rfl
      have z2 := z 2 _ rfl
      have z3 := z 3 _ rfl
      have yf : ∀ j, wr.frozen? ⟨w.heap.size + 1, j, none⟩ = false := fun j => by simp [World.frozen?, H1.out]
      clear y z h2 hkq
      go_wp2_with fail
      have hz := (setCell_heap (setCell_heap (setCell_heap (setCell_heap H1.out 0 (.int .u32 a0)) 1 (.int .u32 a1)) 2 (.int .u32 a2)) 3 (.int .u32 a3))
      have hBz := ((((HB.out.setCell (p := ⟨w.heap.size + 1, 0, none⟩) (by simp) (.int .u32 a0)).setCell (p := ⟨w.heap.size + 1, 1, none⟩) (by simp) (.int .u32 a1)).setCell (p := ⟨w.heap.size + 1, 2, none⟩) (by simp) (.int .u32 a2)).setCell (p := ⟨w.heap.size + 1, 3, none⟩) (by simp) (.int .u32 a3))
      generalize World.setCell _ _ _ = wz at hz hBz ⊢
      have zz : ∀ j v, #[Value.int .u32 a0, .int .u32 a1, .int .u32 a2, .int .u32 a3][j]? = some v → wz.cell? ⟨w.heap.size + 1, j, none⟩ = some v := fun j v hv => by
        simp only [World.cell?, hz]; rw [if_neg (by simp)]; exact hv
      have w0 := zz 0 _ rfl
      have w1 := zz 1 _ rfl
      have w2 := zz 2 _ rfl
      have w3 := zz 3 _ rfl
      obtain ⟨e0, e1, e2, e3⟩ := HE.out
      rw [← e0, ← e1, ← e2, ← e3]
      refine ⟨rfl, .agg #[.int .u32 a0, .int .u32 a1, .int .u32 a2, .int .u32 a3], ?_, rfl, hBz⟩
      simp [results, Tryd.f45, go_sem, w0, w1, w2, w3]
set_option maxHeartbeats 2000000 in
/-- write: one register. -/
theorem write_one (sb rb rc mb : Nat) (S : Int) (R : List Int) (K f0 f1 f2 f3 N lo hi : Int) (r0 : Nat) (w : World) (hR : RegAt w sb rb rc mb S R) (l0 : r0 < R.length) (hlo : 0 ≤ lo ∧ lo < 4294967296) :
    Calls Tryd.prog 49 #[.pointer (some ⟨sb, 0, none⟩), opV K r0 (-1) f0 f1 f2 f3 N, .int .u32 lo, .int .u32 hi] w fun e w' => e = .returned (.tuple #[]) ∧ RegAt w' sb rb rc mb S (R.set r0 lo) ∧ w.grownBy w' (some rb) := by
  have hF : regsOf [(r0 : Int), -1] = [(r0 : Int)] := by
    have e : ∀ r : Nat, ((r : Int) != -1) = true := fun r => by simp
    simp [regsOf, List.filter_cons, e]
  have HR := Lib.hid hR
  have HF := Lib.hid hF
  clear hR hF
  obtain ⟨w1, hw1⟩ : ∃ w1, w1 = w.alloc (.cells #[.int .i64 K, .int .i64 r0, .int .i64 (-1), .int .i64 f0, .int .i64 f1, .int .i64 f2, .int .i64 f3, .int .u32 N] 37) := ⟨_, rfl⟩
  have hB1 : Below w.heap.size w w1 := by rw [hw1]; exact (Below.refl _ _).alloc (Nat.le_refl _) _
  go_enter Tryd.func49, Tryd.ntmps49
  go_wp2_with fail
  rw [← hw1]
  refine (sets_any K r0 (-1) f0 f1 f2 f3 N w1).mono ?_
  rintro e w4 ⟨v, rfl, hown, hb4⟩
  rw [HF.out] at hown
  have hB4 := hB1.trans (hb4.mono hB1.size)
  have HB4 := Lib.hid hB4
  have HRw := Lib.hid (HR.out.below hB4)
  obtain ⟨x, c, rfl, hcl, g, rfl, hg3, hgc⟩ : ∃ x c, v = .slice x 1 c ∧ 1 ≤ c ∧ ∃ g, x = some ⟨g, 0, none⟩ ∧ w1.heap.size ≤ g ∧ ∀ j, j < 1 → w4.cell? ⟨g, j, none⟩ = (iCells [(r0 : Int)])[j]? := by
    rcases hown.2 with ⟨_, h0⟩ | ⟨g, cap, cur, rfl, hg, hh, hc, _⟩
    · simp at h0
    · exact ⟨_, _, rfl, hc, g, rfl, hg, fun j hj => hown.cellAt j (by simpa using hj)⟩
  have u0 := hgc 0 (by omega)
  simp only [iCells, List.map_cons, List.getElem?_cons_zero, List.map_nil] at u0
  obtain ⟨s0, s1, s2⟩ := HRw.out.cells
  have q0 := HRw.out.row r0 l0
  have fr := HRw.out.free
  have hrb := HR.out.rlt
  have hne := HR.out.ne
  have hs1 := hB1.size
  have d1 : g ≠ rb := by omega
  have d2 : sb ≠ rb := fun e => hne e.symm
  have i0 : (r0 : Int) < (R.length : Int) := by omega
  have HS1 := Lib.hid (HRw.out.set r0 lo hlo l0)
  clear hown hb4 hgc hw1 hB1 hB4
  have x0 : ∀ w, _ := fun w => (index_two (.int .u32 lo) (.int .u32 hi) w).1
  have x1 : ∀ w, _ := fun w => (index_two (.int .u32 lo) (.int .u32 hi) w).2
  go_wp2_with fail
  refine wp_loop_rounds 2 ?_
  rw [rounds_succ]
  go_wp2_with fail
  go_region_held3 (fun w' => w'.cell? ⟨sb, 0, none⟩ = some (.slice (some ⟨rb, 0, none⟩) R.length rc)) (go_keep) (fail)
  go_wp2_with fail
  rw [rounds_succ]
  go_wp2_with fail
  go_end0
  have g1 : w.grownBy w4 (some rb) := ⟨HB4.out.os, HB4.out.tape, HB4.out.output, HB4.out.size, fun i hi _ => HB4.out.block i hi⟩
  have g2 := grown_trans g1 (setCell_grown w4 rb r0 (.int .u32 lo))
  exact ⟨rfl, HS1.out.below (Below.refl _ _).drew, ⟨g2.os, g2.tape, g2.output, g2.size, g2.block⟩⟩
end Go.Proofs.YtmkencdkglbpbaaDoor
