/- vop: read of any registers; write of one. -/
import Derived.Test.YtmkencdkglbpbaaDoorVopI
set_option maxRecDepth 100000
set_option linter.unusedVariables false
namespace Go.Proofs.YtmkencdkglbpbaaDoor
open Go.RowKit

/-- The word of a list's i-th register; 0, if there is none. -/
def rv (R F : List Int) (i : Nat) : Int := match F[i]? with
  | none => 0
  | some r => R.getD r.toNat 0
/-- Words of the first k registers. -/
def pv (R F : List Int) (k i : Nat) : Int := if i < k then rv R F i else 0
theorem pv_zero (R F : List Int) (i : Nat) : pv R F 0 i = 0 := by simp [pv]
theorem pv_all (R F : List Int) (k i : Nat) (hk : F.length ≤ k) : pv R F k i = rv R F i := by
  unfold pv
  split
  · rfl
  · rw [rv, List.getElem?_eq_none (by omega)]
theorem pv_same (R F : List Int) (k i : Nat) (h : i ≠ k) : pv R F (k + 1) i = pv R F k i := by
  unfold pv
  by_cases hl : i < k
  · rw [if_pos (by omega), if_pos hl]
  · rw [if_neg (by omega), if_neg hl]
theorem pv_new (R F : List Int) (k : Nat) : pv R F (k + 1) k = rv R F k := by unfold pv; rw [if_pos (by omega)]
theorem rv_mem {R F : List Int} (hF : ∀ x ∈ F, 0 ≤ x ∧ x < (R.length : Int)) (hb : ∀ x ∈ R, 0 ≤ x ∧ x < 4294967296) (i : Nat) : 0 ≤ rv R F i ∧ rv R F i < 4294967296 := by
  unfold rv
  split
  · omega
  · rename_i r hr
    have h1 := hF r (List.mem_of_getElem? hr)
    have h2 : r.toNat < R.length := by omega
    rw [List.getD_eq_getElem?_getD, List.getElem?_eq_getElem h2]
    exact hb _ (List.getElem_mem h2)

set_option maxHeartbeats 2000000 in
/-- read: the words of From's registers. -/
theorem read_any (sb rb rc mb : Nat) (S : Int) (R : List Int) (K t0 t1 f0 f1 f2 f3 N : Int) (w : World) (hR : RegAt w sb rb rc mb S R) (hall : ∀ x ∈ regsOf [f0, f1, f2, f3], 0 ≤ x ∧ x < (R.length : Int)) :
    Calls Tryd.prog 45 #[.pointer (some ⟨sb, 0, none⟩), opV K t0 t1 f0 f1 f2 f3 N] w fun e w' => e = .returned (.agg #[.int .u32 (rv R (regsOf [f0, f1, f2, f3]) 0), .int .u32 (rv R (regsOf [f0, f1, f2, f3]) 1), .int .u32 (rv R (regsOf [f0, f1, f2, f3]) 2), .int .u32 (rv R (regsOf [f0, f1, f2, f3]) 3)]) ∧ Below w.heap.size w w' := by
  have hlu : (regsOf [f0, f1, f2, f3]).length ≤ 4 := by have := List.length_filter_le (fun x : Int => x != -1) [f0, f1, f2, f3]; simpa using this
  obtain ⟨U, hU⟩ : ∃ U, U = regsOf [f0, f1, f2, f3] := ⟨_, rfl⟩
  rw [← hU] at hlu hall ⊢
  have HU := Lib.hid hU
  have HA := Lib.hid hall
  have HR := Lib.hid hR
  clear hR hU hall
  obtain ⟨w3, hw3⟩ : ∃ w3, w3 = ((w.alloc (.cells #[.int .i64 K, .int .i64 t0, .int .i64 t1, .int .i64 f0, .int .i64 f1, .int .i64 f2, .int .i64 f3, .int .u32 N] 37)).alloc (.cells #[.int .u32 0, .int .u32 0, .int .u32 0, .int .u32 0] 97)).alloc (.cells #[.int .u32 0, .int .u32 0, .int .u32 0, .int .u32 0] 97) := ⟨_, rfl⟩
  have hs3 : w3.heap.size = w.heap.size + 3 := by rw [hw3]; simp
  have hB3 : Below w.heap.size w w3 := by rw [hw3]; exact (((Below.refl _ w).alloc (Nat.le_refl _) _).alloc (by simp) _).alloc (by simp; omega) _
  have hk1 : w3.heap[w.heap.size + 1]? = some (.cells #[.int .u32 0, .int .u32 0, .int .u32 0, .int .u32 0] 97 (0, 0)) := by
    rw [hw3, Below.heap_alloc _ _ _ (by simp)]
    have := heap_alloc_new (w.alloc (.cells #[.int .i64 K, .int .i64 t0, .int .i64 t1, .int .i64 f0, .int .i64 f1, .int .i64 f2, .int .i64 f3, .int .u32 N] 37)) (.cells #[.int .u32 0, .int .u32 0, .int .u32 0, .int .u32 0] 97)
    rwa [World.size_alloc] at this
  have hk2 : w3.heap[w.heap.size + 2]? = some (.cells #[.int .u32 0, .int .u32 0, .int .u32 0, .int .u32 0] 97 (0, 0)) := by
    rw [hw3]
    have := heap_alloc_new ((w.alloc (.cells #[.int .i64 K, .int .i64 t0, .int .i64 t1, .int .i64 f0, .int .i64 f1, .int .i64 f2, .int .i64 f3, .int .u32 N] 37)).alloc (.cells #[.int .u32 0, .int .u32 0, .int .u32 0, .int .u32 0] 97)) (.cells #[.int .u32 0, .int .u32 0, .int .u32 0, .int .u32 0] 97)
    rwa [World.size_alloc, World.size_alloc] at this
  have HB3 := Lib.hid hB3
  have Hk1 := Lib.hid hk1
  have Hk2 := Lib.hid hk2
  have Hs3 := Lib.hid hs3
  clear hk1 hk2 hB3 hs3
  go_enter Tryd.func45, Tryd.ntmps45
  go_wp2_with fail
  rw [show w.heap.size + 1 + 1 = w.heap.size + 2 from rfl]
  rw [← hw3]
  refine (uses_any K t0 t1 f0 f1 f2 f3 N w3).mono ?_
  rintro e w4 ⟨v, rfl, hown, hb4⟩
  rw [← HU.out] at hown
  obtain ⟨sx, sc, rfl, hsc, hform⟩ := own_form hown rfl
  have HF := Lib.hid hform
  have HB4 := Lib.hid (HB3.out.trans (hb4.mono HB3.out.size))
  have hk1 := (hb4.block (w.heap.size + 1) (by have := Hs3.out; omega)).trans Hk1.out
  have hk2 := (hb4.block (w.heap.size + 2) (by have := Hs3.out; omega)).trans Hk2.out
  have HK1 := Lib.hid hk1
  have HK2 := Lib.hid hk2
  have HS4 := Lib.hid hb4.size
  clear hown hform hb4 hk1 hk2 hw3
  go_wp2_with fail
  go_loopw [11] (fun i wr => ∃ k : Nat, k ≤ U.length ∧ i = .int .i64 k ∧ Below w.heap.size w wr ∧ wr.heap[w.heap.size + 1]? = some (.cells #[.int .u32 0, .int .u32 0, .int .u32 0, .int .u32 0] 97 (0, 0)) ∧ wr.heap[w.heap.size + 2]? = some (.cells #[.int .u32 (pv R U k 0), .int .u32 (pv R U k 1), .int .u32 (pv R U k 2), .int .u32 (pv R U k 3)] 97 (0, 0)) ∧ (∀ p : Addr, w3.heap.size ≤ p.block → p.block < w4.heap.size → wr.cell? p = w4.cell? p)) (fun i _ => U.length - (intOf i).toNat)
  case atStart =>
    refine ⟨0, Nat.zero_le _, rfl, HB4.out, HK1.out, ?_, fun _ _ _ => rfl⟩
    rw [pv_zero, pv_zero, pv_zero, pv_zero]
    exact HK2.out
  case round =>
    obtain ⟨k, hk, rfl, hb, hk1, hk2, hkeep⟩ := hrel
    have HB := Lib.hid hb
    have H1 := Lib.hid hk1
    have H2 := Lib.hid hk2
    have HKP := Lib.hid hkeep
    have HRw := Lib.hid (HR.out.below hb)
    obtain ⟨s0, s1, s2⟩ := HRw.out.cells
    have hsb := lt_of_block HR.out.blk
    have hrb := HR.out.rlt
    have d2 : rb ≠ w.heap.size + 2 := by omega
    have d3 : sb ≠ w.heap.size + 2 := by omega
    have d4 : w.heap.size + 1 ≠ w.heap.size + 2 := by omega
    have hs3 := Hs3.out
    clear hb hk1 hk2 hkeep
    by_cases hlt : k < U.length
    · obtain ⟨g, rfl, hg, hg2, hc⟩ := HF.out (by omega)
      have c0 := (HKP.out ⟨g, k, none⟩ hg hg2).trans (hc k hlt)
      have hX := HA.out _ (List.getElem_mem hlt)
      obtain ⟨X, hXe⟩ : ∃ X, U[k]'hlt = X := ⟨_, rfl⟩
      rw [hXe] at c0 hX
      obtain ⟨r, rfl⟩ := Int.eq_ofNat_of_zero_le hX.1
      have hr : r < R.length := by omega
      have hrv : rv R U k = R[r] := by
        unfold rv
        rw [List.getElem?_eq_getElem hlt, hXe]
        simp [List.getD_eq_getElem?_getD, hr]
      have q0 := HRw.out.row r hr
      have i0 : (r : Int) < (R.length : Int) := by omega
      have k4 : (k : Int) < 4 := by omega
      have wq : IntKind.i64.wrap ((k : Int) + 1) = (k : Int) + 1 := IntWalk.i64_in _ (by omega)
      have hkz : (wr.cell? ⟨w.heap.size + 2, k, none⟩).isSome = true := by
        simp only [World.cell?, H2.out]
        rw [if_neg (by simp)]
        rcases (show k = 0 ∨ k = 1 ∨ k = 2 ∨ k = 3 by omega) with rfl | rfl | rfl | rfl <;> rfl
      obtain ⟨y0, hy0⟩ := Option.isSome_iff_exists.1 hkz
      have zf : wr.frozen? ⟨w.heap.size + 2, k, none⟩ = false := by simp [World.frozen?, H2.out]
      have d1 : g ≠ w.heap.size + 2 := by omega
      have Hrv := Lib.hid hrv
      clear hc hXe hX hkz hrv
      obtain ⟨Y, hY⟩ : ∃ Y, Y = R[r] := ⟨_, rfl⟩
      rw [← hY] at q0 Hrv
      clear hY
      go_wp2_with fail
      refine ⟨⟨k + 1, by omega, by simp, HB.out.setCell (p := ⟨w.heap.size + 2, k, none⟩) (by simp) (.int .u32 Y), ?_, ?_, ?_⟩, by simp only [intOf]; omega⟩
      · rw [Below.heap_setCell _ _ _ _ d4]; exact H1.out
      · have hz := setCell_heap H2.out k (.int .u32 Y)
        rw [hz, ← Hrv.out]
        have hnew := pv_new R U k
        have hsame := fun i h => pv_same R U k i h
        rcases (show k = 0 ∨ k = 1 ∨ k = 2 ∨ k = 3 by omega) with rfl | rfl | rfl | rfl
        · rw [hnew, hsame 1 (by omega), hsame 2 (by omega), hsame 3 (by omega)]; rfl
        · rw [hnew, hsame 0 (by omega), hsame 2 (by omega), hsame 3 (by omega)]; rfl
        · rw [hnew, hsame 0 (by omega), hsame 1 (by omega), hsame 3 (by omega)]; rfl
        · rw [hnew, hsame 0 (by omega), hsame 1 (by omega), hsame 2 (by omega)]; rfl
      · intro p h1 h2
        rw [World.cell?_setCell_other _ _ _ _ (by rintro rfl; have h1' : w3.heap.size ≤ w.heap.size + 2 := h1; omega)]
        exact HKP.out p h1 h2
    · have hkq : k = U.length := by omega
      have h2 := H2.out
      rw [pv_all R U k _ (by omega), pv_all R U k _ (by omega), pv_all R U k _ (by omega), pv_all R U k _ (by omega)] at h2
      obtain ⟨a0, ha0⟩ : ∃ a, a = rv R U 0 := ⟨_, rfl⟩
      obtain ⟨a1, ha1⟩ : ∃ a, a = rv R U 1 := ⟨_, rfl⟩
      obtain ⟨a2, ha2⟩ : ∃ a, a = rv R U 2 := ⟨_, rfl⟩
      obtain ⟨a3, ha3⟩ : ∃ a, a = rv R U 3 := ⟨_, rfl⟩
      rw [← ha0, ← ha1, ← ha2, ← ha3] at h2
      have HE := Lib.hid (And.intro ha0 (And.intro ha1 (And.intro ha2 ha3)))
      clear ha0 ha1 ha2 ha3
      have y : ∀ j v, #[Value.int .u32 0, .int .u32 0, .int .u32 0, .int .u32 0][j]? = some v → wr.cell? ⟨w.heap.size + 1, j, none⟩ = some v := fun j v hv => by
        simp only [World.cell?, H1.out]; rw [if_neg (by simp)]; exact hv
      have z : ∀ j v, #[Value.int .u32 a0, .int .u32 a1, .int .u32 a2, .int .u32 a3][j]? = some v → wr.cell? ⟨w.heap.size + 2, j, none⟩ = some v := fun j v hv => by
        simp only [World.cell?, h2]; rw [if_neg (by simp)]; exact hv
      have y0 := y 0 _ rfl
      have y1 := y 1 _ rfl
      have y2 := y 2 _ rfl
      have y3 := y 3 _ rfl
      have z0 := z 0 _ rfl
      have z1 := z 1 _ rfl
      have z2 := z 2 _ rfl
      have z3 := z 3 _ rfl
      have yf : ∀ j, wr.frozen? ⟨w.heap.size + 1, j, none⟩ = false := fun j => by simp [World.frozen?, H1.out]
      clear y z h2 hkq
      go_wp2_with fail
      have hz := (setCell_heap (setCell_heap (setCell_heap (setCell_heap H1.out 0 (.int .u32 a0)) 1 (.int .u32 a1)) 2 (.int .u32 a2)) 3 (.int .u32 a3))
      have hBz := ((((HB.out.setCell (p := ⟨w.heap.size + 1, 0, none⟩) (by simp) (.int .u32 a0)).setCell (p := ⟨w.heap.size + 1, 1, none⟩) (by simp) (.int .u32 a1)).setCell (p := ⟨w.heap.size + 1, 2, none⟩) (by simp) (.int .u32 a2)).setCell (p := ⟨w.heap.size + 1, 3, none⟩) (by simp) (.int .u32 a3))
      generalize World.setCell _ _ _ = wz at hz hBz ⊢
      have zz : ∀ j v, #[Value.int .u32 a0, .int .u32 a1, .int .u32 a2, .int .u32 a3][j]? = some v → wz.cell? ⟨w.heap.size + 1, j, none⟩ = some v := fun j v hv => by
        simp only [World.cell?, hz]; rw [if_neg (by simp)]; exact hv
      have w0 := zz 0 _ rfl
      have w1 := zz 1 _ rfl
      have w2 := zz 2 _ rfl
      have w3 := zz 3 _ rfl
      obtain ⟨e0, e1, e2, e3⟩ := HE.out
      rw [← e0, ← e1, ← e2, ← e3]
      refine ⟨rfl, .agg #[.int .u32 a0, .int .u32 a1, .int .u32 a2, .int .u32 a3], ?_, rfl, hBz⟩
      simp [results, Tryd.f45, go_sem, w0, w1, w2, w3]
set_option maxHeartbeats 2000000 in
/-- write: one register. -/
theorem write_one (sb rb rc mb : Nat) (S : Int) (R : List Int) (K f0 f1 f2 f3 N lo hi : Int) (r0 : Nat) (w : World) (hR : RegAt w sb rb rc mb S R) (l0 : r0 < R.length) (hlo : 0 ≤ lo ∧ lo < 4294967296) :
    Calls Tryd.prog 49 #[.pointer (some ⟨sb, 0, none⟩), opV K r0 (-1) f0 f1 f2 f3 N, .int .u32 lo, .int .u32 hi] w fun e w' => e = .returned (.tuple #[]) ∧ RegAt w' sb rb rc mb S (R.set r0 lo) ∧ w.grownBy w' (some rb) := by
  have hF : regsOf [(r0 : Int), -1] = [(r0 : Int)] := by
    have e : ∀ r : Nat, ((r : Int) != -1) = true := fun r => by simp
    simp [regsOf, List.filter_cons, e]
  have HR := Lib.hid hR
  have HF := Lib.hid hF
  clear hR hF
  obtain ⟨w1, hw1⟩ : ∃ w1, w1 = w.alloc (.cells #[.int .i64 K, .int .i64 r0, .int .i64 (-1), .int .i64 f0, .int .i64 f1, .int .i64 f2, .int .i64 f3, .int .u32 N] 37) := ⟨_, rfl⟩
  have hB1 : Below w.heap.size w w1 := by rw [hw1]; exact (Below.refl _ _).alloc (Nat.le_refl _) _
  go_enter Tryd.func49, Tryd.ntmps49
  go_wp2_with fail
  rw [← hw1]
  refine (sets_any K r0 (-1) f0 f1 f2 f3 N w1).mono ?_
  rintro e w4 ⟨v, rfl, hown, hb4⟩
  rw [HF.out] at hown
  have hB4 := hB1.trans (hb4.mono hB1.size)
  have HB4 := Lib.hid hB4
  have HRw := Lib.hid (HR.out.below hB4)
  obtain ⟨x, c, rfl, hcl, g, rfl, hg3, hgc⟩ : ∃ x c, v = .slice x 1 c ∧ 1 ≤ c ∧ ∃ g, x = some ⟨g, 0, none⟩ ∧ w1.heap.size ≤ g ∧ ∀ j, j < 1 → w4.cell? ⟨g, j, none⟩ = (iCells [(r0 : Int)])[j]? := by
    rcases hown.2 with ⟨_, h0⟩ | ⟨g, cap, cur, rfl, hg, hh, hc, _⟩
    · simp at h0
    · exact ⟨_, _, rfl, hc, g, rfl, hg, fun j hj => hown.cellAt j (by simpa using hj)⟩
  have u0 := hgc 0 (by omega)
  simp only [iCells, List.map_cons, List.getElem?_cons_zero, List.map_nil] at u0
  obtain ⟨s0, s1, s2⟩ := HRw.out.cells
  have q0 := HRw.out.row r0 l0
  have fr := HRw.out.free
  have hrb := HR.out.rlt
  have hne := HR.out.ne
  have hs1 := hB1.size
  have d1 : g ≠ rb := by omega
  have d2 : sb ≠ rb := fun e => hne e.symm
  have i0 : (r0 : Int) < (R.length : Int) := by omega
  have HS1 := Lib.hid (HRw.out.set r0 lo hlo l0)
  clear hown hb4 hgc hw1 hB1 hB4
  have x0 : ∀ w, _ := fun w => (index_two (.int .u32 lo) (.int .u32 hi) w).1
  have x1 : ∀ w, _ := fun w => (index_two (.int .u32 lo) (.int .u32 hi) w).2
  go_wp2_with fail
  refine wp_loop_rounds 2 ?_
  rw [rounds_succ]
  go_wp2_with fail
  go_region_held3 (fun w' => w'.cell? ⟨sb, 0, none⟩ = some (.slice (some ⟨rb, 0, none⟩) R.length rc)) (go_keep) (fail)
  go_wp2_with fail
  rw [rounds_succ]
  go_wp2_with fail
  go_end0
  have g1 : w.grownBy w4 (some rb) := ⟨HB4.out.os, HB4.out.tape, HB4.out.output, HB4.out.size, fun i hi _ => HB4.out.block i hi⟩
  have g2 := grown_trans g1 (setCell_grown w4 rb r0 (.int .u32 lo))
  exact ⟨rfl, HS1.out.below (Below.refl _ _).drew, ⟨g2.os, g2.tape, g2.output, g2.size, g2.block⟩⟩
end Go.Proofs.YtmkencdkglbpbaaDoor
