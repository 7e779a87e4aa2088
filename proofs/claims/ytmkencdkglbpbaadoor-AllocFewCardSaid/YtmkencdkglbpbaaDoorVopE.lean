/- vop: find, Shape, Right. -/
import Derived.Test.YtmkencdkglbpbaaDoorVopD
set_option maxRecDepth 100000
set_option linter.unusedVariables false
namespace Go.Proofs.YtmkencdkglbpbaaDoor
open Go.RowKit

/-- The kinds' rows, as cells. -/
def rowCells : List Int → List Int → List Value
  | t :: ts, f :: fs => .int .i64 t :: .int .i64 f :: rowCells ts fs
  | _, _ => []
theorem rowCells_get : ∀ (ts fs : List Int) (k : Nat) (h : k < ts.length) (h2 : k < fs.length), (rowCells ts fs)[k * 2]? = some (.int .i64 ts[k]) ∧ (rowCells ts fs)[k * 2 + 1]? = some (.int .i64 fs[k])
  | [], _, k, h, _ => by simp at h
  | _ :: _, [], k, _, h => by simp at h
  | t :: ts, f :: fs, 0, _, _ => ⟨rfl, rfl⟩
  | t :: ts, f :: fs, k + 1, h, h2 => by
    have ih := rowCells_get ts fs k (by simpa using h) (by simpa using h2)
    rw [rowCells, show (k + 1) * 2 = k * 2 + 2 from by omega, show k * 2 + 2 + 1 = k * 2 + 1 + 2 from by omega]
    exact ih
def rowArr : Array Value := (rowCells toL fromL).toArray
def HasRows (w : World) : Prop := ∃ t fr, w.heap[0]? = some (.cells rowArr t fr)
theorem HasRows.below {w w' : World} (h : HasRows w) (hb : Below w.heap.size w w') : HasRows w' := by
  obtain ⟨t, fr, h⟩ := h
  exact ⟨t, fr, (hb.block _ (Array.getElem?_eq_some_iff.1 h).1).trans h⟩
theorem HasRows.cells {w : World} (h : HasRows w) (k : Nat) (hk : k < 32) : w.cell? ⟨0, k * 2, none⟩ = some (.int .i64 (toL.getD k 0)) ∧ w.cell? ⟨0, k * 2 + 1, none⟩ = some (.int .i64 (fromL.getD k 0)) := by
  obtain ⟨t, fr, h⟩ := h
  have h1 : k < toL.length := hk
  have h2 : k < fromL.length := hk
  obtain ⟨c0, c1⟩ := rowCells_get toL fromL k h1 h2
  have e0 : toL.getD k 0 = toL[k] := by rw [List.getD_eq_getElem?_getD, List.getElem?_eq_getElem h1]; rfl
  have e1 : fromL.getD k 0 = fromL[k] := by rw [List.getD_eq_getElem?_getD, List.getElem?_eq_getElem h2]; rfl
  rw [e0, e1]
  constructor
  · simp only [World.cell?, h]; rw [if_neg (by simp)]; unfold rowArr; rw [List.getElem?_toArray]; exact c0
  · simp only [World.cell?, h]; rw [if_neg (by simp)]; unfold rowArr; rw [List.getElem?_toArray]; exact c1

theorem find_no (K : Int) (h : K < 1 ∨ 31 < K) (w : World) :
    Calls Tryd.prog 39 #[.int .i64 K] w fun e w' => e = .returned (.agg #[.int .i64 0, .int .i64 0]) ∧ Below w.heap.size w w' := by
  have hv : (decide (1 ≤ K) && decide (K ≤ 31)) = false := by
    by_cases h1 : 1 ≤ K
    · have : ¬ K ≤ 31 := by omega
      simp [this]
    · simp [h1]
  go_enter Tryd.func39, Tryd.ntmps39
  go_wp2_with fail
  refine (is_any K _).mono ?_
  rintro e w' ⟨rfl, rfl⟩
  rw [hv]
  clear hv
  go_wp2_with fail
  refine ⟨rfl, .agg #[.int .i64 0, .int .i64 0], ?_, rfl, (Below.refl _ w).alloc (Nat.le_refl _) _⟩
  simp [results, Tryd.f39, go_sem]
theorem find_yes (k : Nat) (h : 1 ≤ k) (h2 : k ≤ 31) (w : World) (hR : HasRows w) :
    Calls Tryd.prog 39 #[.int .i64 k] w fun e w' => e = .returned (.agg #[.int .i64 (toL.getD k 0), .int .i64 (fromL.getD k 0)]) ∧ Below w.heap.size w w' := by
  have hv : (decide ((1 : Int) ≤ (k : Int)) && decide ((k : Int) ≤ 31)) = true := by
    have a : (1 : Int) ≤ (k : Int) := by omega
    have b : (k : Int) ≤ 31 := by omega
    simp [a, b]
  obtain ⟨T, hT⟩ : ∃ T, T = toL.getD k 0 := ⟨_, rfl⟩
  obtain ⟨S, hS⟩ : ∃ S, S = fromL.getD k 0 := ⟨_, rfl⟩
  have hc := (hR.below ((Below.refl _ w).alloc (Nat.le_refl _) (.cells #[.int .i64 0, .int .i64 0] 90))).cells k (by omega)
  rw [← hT, ← hS] at hc ⊢
  obtain ⟨c0, c1⟩ := hc
  have i0 : (0 : Int) ≤ (k : Int) := by omega
  have i1 : (k : Int) < 32 := by omega
  have i2 : k < 32 := by omega
  clear hT hS
  go_enter Tryd.func39, Tryd.ntmps39
  go_wp2_with fail
  refine (is_any k _).mono ?_
  rintro e w' ⟨rfl, rfl⟩
  rw [hv]
  clear hv
  go_wp2_with fail
  refine ⟨rfl, .agg #[.int .i64 T, .int .i64 S], ?_, rfl, (Below.refl _ w).alloc (Nat.le_refl _) _⟩
  simp [results, Tryd.f39, go_sem]

theorem shape_no (K : Int) (h : K < 1 ∨ 31 < K) (w : World) :
    Calls Tryd.prog 23 #[.int .i64 K] w fun e w' => e = .returned (.tuple #[.int .i64 0, .int .i64 0]) ∧ Below w.heap.size w w' := by
  go_enter Tryd.func23, Tryd.ntmps23
  go_wp2_with fail
  refine (find_no K h w).mono ?_
  rintro e w' ⟨rfl, hb⟩
  have HB := Lib.hid (hb.alloc hb.size (.cells #[.int .i64 0, .int .i64 0] 90))
  clear hb
  go_wp2_with fail
  go_quiet (fail)
  go_wp2_with fail
  go_ret2
  exact ⟨rfl, below_drewN HB.out nq⟩
theorem shape_yes (k : Nat) (h : 1 ≤ k) (h2 : k ≤ 31) (w : World) (hR : HasRows w) :
    Calls Tryd.prog 23 #[.int .i64 k] w fun e w' => e = .returned (.tuple #[.int .i64 (toL.getD k 0), .int .i64 (fromL.getD k 0)]) ∧ Below w.heap.size w w' := by
  have hc := find_yes k h h2 w hR
  obtain ⟨T, hT⟩ : ∃ T, T = toL.getD k 0 := ⟨_, rfl⟩
  obtain ⟨S, hS⟩ : ∃ S, S = fromL.getD k 0 := ⟨_, rfl⟩
  rw [← hT, ← hS] at hc ⊢
  have HC := Lib.hid hc
  clear hT hS hc
  go_enter Tryd.func23, Tryd.ntmps23
  go_wp2_with fail
  refine HC.out.mono ?_
  rintro e w' ⟨rfl, hb⟩
  have HB := Lib.hid (hb.alloc hb.size (.cells #[.int .i64 T, .int .i64 S] 90))
  clear hb
  go_wp2_with fail
  go_quiet (fail)
  go_wp2_with fail
  go_ret2
  exact ⟨rfl, below_drewN HB.out nq⟩

set_option maxHeartbeats 2000000 in
theorem right_no (K t0 t1 f0 f1 f2 f3 N : Int) (h : K < 1 ∨ 31 < K) (w : World) :
    Calls Tryd.prog 17 #[opV K t0 t1 f0 f1 f2 f3 N] w fun e w' => e = .returned (.bool false) ∧ Below w.heap.size w w' := by
  have hv : (decide (1 ≤ K) && decide (K ≤ 31)) = false := by
    by_cases h1 : 1 ≤ K
    · have : ¬ K ≤ 31 := by omega
      simp [this]
    · simp [h1]
  obtain ⟨w1, hw1⟩ : ∃ w1, w1 = w.alloc (.cells #[.int .i64 K, .int .i64 t0, .int .i64 t1, .int .i64 f0, .int .i64 f1, .int .i64 f2, .int .i64 f3, .int .u32 N] 37) := ⟨_, rfl⟩
  have hB1 : Below w.heap.size w w1 := by rw [hw1]; exact (Below.refl _ _).alloc (Nat.le_refl _) _
  have hs1 : w.heap.size < w1.heap.size := by rw [hw1]; simp
  have c0 : w1.cell? ⟨w.heap.size, 0, none⟩ = some (.int .i64 K) := by rw [hw1]; exact World.cell?_alloc_at _ _ _ _ rfl
  have HB1 := Lib.hid hB1
  have HV := Lib.hid hv
  clear hB1 hv
  go_enter Tryd.func17, Tryd.ntmps17
  go_wp2_with fail
  rw [← hw1]
  clear hw1
  refine (find_no K h w1).mono ?_
  rintro e w2 ⟨rfl, hb⟩
  have c0' := (hb.cell (p := ⟨w.heap.size, 0, none⟩) hs1).trans c0
  have HB := Lib.hid (HB1.out.trans ((hb.alloc hb.size (.cells #[.int .i64 0, .int .i64 0] 90)).mono HB1.out.size))
  have hlt : w.heap.size < w2.heap.size := World.block_lt_of_cell? _ _ c0'
  clear hb
  have isF : ∀ w, Calls Tryd.prog 40 #[.int .i64 K] w fun e w' => e = .returned (.bool false) ∧ w' = w := fun w => by
    have := is_any K w
    rw [HV.out] at this
    exact this
  have HIs := Lib.hid isF
  clear isF
  go_wp2_with fail
  go_quiet (first | (go_at_call 40; exact Calls.quiet_of_same (HIs.out _)))
  go_wp2_with fail
  go_ret
  exact ⟨rfl, below_drewN HB.out nq⟩

set_option maxHeartbeats 4000000 in
theorem right_yes (k : Nat) (t0 t1 f0 f1 f2 f3 N : Int) (h : 1 ≤ k) (h2 : k ≤ 31) (h0 : 0 ≤ N) (h1 : N < 4294967296) (w : World) (hR : HasRows w) :
    Calls Tryd.prog 17 #[opV k t0 t1 f0 f1 f2 f3 N] w fun e w' => e = .returned (.bool (rightV k t0 t1 f0 f1 f2 f3 N)) ∧ Below w.heap.size w w' := by
  have hvv : rightV (k : Int) t0 t1 f0 f1 f2 f3 N = (placedV (toL.getD k 0) 0 [t0, t1] && placedV (fromL.getD k 0) 0 [f0, f1, f2, f3] && (decide (toL.getD k 0 < 2) || t0 != t1) && numberV (k : Int) N) := by
    rw [rightV, show ((k : Int)).toNat = k from rfl]
    have a : decide ((1 : Int) ≤ (k : Int)) = true := by simp; omega
    have b : decide ((k : Int) ≤ 31) = true := by simp; omega
    rw [a, b]; rfl
  have hv : (decide ((1 : Int) ≤ (k : Int)) && decide ((k : Int) ≤ 31)) = true := by
    have a : (1 : Int) ≤ (k : Int) := by omega
    have b : (k : Int) ≤ 31 := by omega
    simp [a, b]
  rw [hvv]
  obtain ⟨w1, hw1⟩ : ∃ w1, w1 = w.alloc (.cells #[.int .i64 k, .int .i64 t0, .int .i64 t1, .int .i64 f0, .int .i64 f1, .int .i64 f2, .int .i64 f3, .int .u32 N] 37) := ⟨_, rfl⟩
  have hB1 : Below w.heap.size w w1 := by rw [hw1]; exact (Below.refl _ _).alloc (Nat.le_refl _) _
  have hs1 : w.heap.size < w1.heap.size := by rw [hw1]; simp
  have hir := op_rows w k t0 t1 f0 f1 f2 f3 N 37
  rw [← hw1] at hir
  have HIR := Lib.hid hir
  have c0 : w1.cell? ⟨w.heap.size, 0, none⟩ = some (.int .i64 k) := by rw [hw1]; exact World.cell?_alloc_at _ _ _ _ rfl
  have c1 : w1.cell? ⟨w.heap.size, 1, none⟩ = some (.int .i64 t0) := by rw [hw1]; exact World.cell?_alloc_at _ _ _ _ rfl
  have c2 : w1.cell? ⟨w.heap.size, 2, none⟩ = some (.int .i64 t1) := by rw [hw1]; exact World.cell?_alloc_at _ _ _ _ rfl
  have c7 : w1.cell? ⟨w.heap.size, 7, none⟩ = some (.int .u32 N) := by rw [hw1]; exact World.cell?_alloc_at _ _ _ _ rfl
  have hc := find_yes k h h2 w1 (hR.below hB1)
  obtain ⟨T, hT⟩ : ∃ T, T = toL.getD k 0 := ⟨_, rfl⟩
  obtain ⟨S, hS⟩ : ∃ S, S = fromL.getD k 0 := ⟨_, rfl⟩
  rw [← hT, ← hS] at hc ⊢
  have HC := Lib.hid hc
  have HB1 := Lib.hid hB1
  have HIv := Lib.hid hv
  clear hT hS hc hB1 hv hvv hir hR
  obtain ⟨V, hV⟩ : ∃ V, V = (placedV T 0 [t0, t1] && placedV S 0 [f0, f1, f2, f3] && (decide (T < 2) || t0 != t1) && numberV (k : Int) N) := ⟨_, rfl⟩
  rw [← hV]
  go_enter Tryd.func17, Tryd.ntmps17
  go_wp2_with fail
  rw [← hw1]
  clear hw1
  refine HC.out.mono ?_
  rintro e w2 ⟨rfl, hb⟩
  have c0' := (hb.cell (p := ⟨w.heap.size, 0, none⟩) hs1).trans c0
  have c1' := (hb.cell (p := ⟨w.heap.size, 1, none⟩) hs1).trans c1
  have c2' := (hb.cell (p := ⟨w.heap.size, 2, none⟩) hs1).trans c2
  have c7' := (hb.cell (p := ⟨w.heap.size, 7, none⟩) hs1).trans c7
  have hb3 := hb.alloc hb.size (.cells #[.int .i64 T, .int .i64 S] 90)
  have HB := Lib.hid (HB1.out.trans (hb3.mono HB1.out.size))
  have hlt : w.heap.size < w2.heap.size := World.block_lt_of_cell? _ _ c0'
  have HIs : Hid (∀ w, Calls Tryd.prog 40 #[.int .i64 k] w fun e w' => e = .returned (.bool true) ∧ w' = w) := fun w => by
    have := is_any k w
    rw [HIv.out] at this
    exact this
  have HNb : Hid (∀ w, Calls Tryd.prog 42 #[.int .i64 k, .int .u32 N] w fun e w' => e = .returned (.bool (numberV (k : Int) N)) ∧ w' = w) := fun w => number_any k N h0 h1 w
  have hi1 := HIR.out.1.below hb3
  have hi2 := HIR.out.2.below hb3
  have HP1 : Hid (∀ n, Calls Tryd.prog 41 #[.slice (some ⟨w.heap.size, 1, none⟩) 2 2, .int .i64 T] ((w2.alloc (.cells #[.int .i64 T, .int .i64 S] 90)).drewN n) fun e w' => e = .returned (.bool (placedV T 0 [t0, t1])) ∧ w' = (w2.alloc (.cells #[.int .i64 T, .int .i64 S] 90)).drewN n) := fun n => placed_any w.heap.size 1 2 2 [t0, t1] T _ hi1 rfl (by omega)
  have HP2 : Hid (∀ n, Calls Tryd.prog 41 #[.slice (some ⟨w.heap.size, 3, none⟩) 4 4, .int .i64 S] ((w2.alloc (.cells #[.int .i64 T, .int .i64 S] 90)).drewN n) fun e w' => e = .returned (.bool (placedV S 0 [f0, f1, f2, f3])) ∧ w' = (w2.alloc (.cells #[.int .i64 T, .int .i64 S] 90)).drewN n) := fun n => placed_any w.heap.size 3 4 4 [f0, f1, f2, f3] S _ hi2 rfl (by omega)
  have HV := Lib.hid hV
  clear hb hb3 hi1 hi2 hV h0 h1
  generalize placedV T 0 [t0, t1] = b1 at *
  generalize placedV S 0 [f0, f1, f2, f3] = b2 at *
  generalize numberV (k : Int) N = b3 at *
  cases b1
  · go_wp2_with fail
    go_quiet (first | (go_at_call 40; exact Calls.quiet_of_same (HIs.out _)) | (go_at_call 41; with_reducible exact Calls.quiet_of_same (HP1.out _)) | (go_at_call 41; with_reducible exact Calls.quiet_of_same (HP2.out _)) | (go_at_call 42; exact Calls.quiet_of_same (HNb.out _)))
    go_wp2_with fail
    go_ret
    exact ⟨by rw [HV.out]; simp_all <;> (intro hh; omega), below_drewN HB.out nq⟩
  · cases b2
    · go_wp2_with fail
      go_quiet (first | (go_at_call 40; exact Calls.quiet_of_same (HIs.out _)) | (go_at_call 41; with_reducible exact Calls.quiet_of_same (HP1.out _)) | (go_at_call 41; with_reducible exact Calls.quiet_of_same (HP2.out _)) | (go_at_call 42; exact Calls.quiet_of_same (HNb.out _)))
      go_wp2_with fail
      go_ret
      exact ⟨by rw [HV.out]; simp_all <;> (intro hh; omega), below_drewN HB.out nq⟩
    · by_cases hT2 : T < 2
      · have q1 : decide (T < 2) = true := by simpa using hT2
        go_wp2_with fail
        go_quiet (first | (go_at_call 40; exact Calls.quiet_of_same (HIs.out _)) | (go_at_call 41; with_reducible exact Calls.quiet_of_same (HP1.out _)) | (go_at_call 41; with_reducible exact Calls.quiet_of_same (HP2.out _)) | (go_at_call 42; exact Calls.quiet_of_same (HNb.out _)))
        go_wp2_with fail
        go_ret
        exact ⟨by rw [HV.out]; simp_all <;> (intro hh; omega), below_drewN HB.out nq⟩
      · have q1 : decide (T < 2) = false := by simpa using hT2
        by_cases he : t0 = t1
        · have q2 : (t0 != t1) = false := by simpa using he
          have HQ2 := Lib.hid q2
          clear he
          go_wp2_with fail
          go_quiet (first | (go_at_call 40; exact Calls.quiet_of_same (HIs.out _)) | (go_at_call 41; with_reducible exact Calls.quiet_of_same (HP1.out _)) | (go_at_call 41; with_reducible exact Calls.quiet_of_same (HP2.out _)) | (go_at_call 42; exact Calls.quiet_of_same (HNb.out _)))
          go_wp2_with fail
          go_ret
          exact ⟨by rw [HV.out]; simp_all <;> (intro hh; omega), below_drewN HB.out nq⟩
        · have q2 : (t0 != t1) = true := by simpa using he
          have HQ2 := Lib.hid q2
          clear he
          go_wp2_with fail
          go_quiet (first | (go_at_call 40; exact Calls.quiet_of_same (HIs.out _)) | (go_at_call 41; with_reducible exact Calls.quiet_of_same (HP1.out _)) | (go_at_call 41; with_reducible exact Calls.quiet_of_same (HP2.out _)) | (go_at_call 42; exact Calls.quiet_of_same (HNb.out _)))
          go_wp2_with fail
          go_ret
          exact ⟨by rw [HV.out]; simp_all <;> (intro hh; omega), below_drewN HB.out nq⟩

/-- Right, of any operation. -/
theorem right_any (K t0 t1 f0 f1 f2 f3 N : Int) (h0 : 0 ≤ N) (h1 : N < 4294967296) (w : World) (hR : HasRows w) :
    Calls Tryd.prog 17 #[opV K t0 t1 f0 f1 f2 f3 N] w fun e w' => e = .returned (.bool (rightV K t0 t1 f0 f1 f2 f3 N)) ∧ Below w.heap.size w w' := by
  by_cases h : 1 ≤ K ∧ K ≤ 31
  · obtain ⟨k, rfl⟩ : ∃ k : Nat, K = (k : Int) := ⟨K.toNat, by omega⟩
    exact right_yes k t0 t1 f0 f1 f2 f3 N (by omega) (by omega) h0 h1 w hR
  · have hv : rightV K t0 t1 f0 f1 f2 f3 N = false := by
      unfold rightV
      by_cases h' : 1 ≤ K
      · have : ¬ K ≤ 31 := fun h3 => h ⟨h', h3⟩
        simp [this]
      · simp [h']
    rw [hv]
    exact right_no K t0 t1 f0 f1 f2 f3 N (by omega) w
end Go.Proofs.YtmkencdkglbpbaaDoor
