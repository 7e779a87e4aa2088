/- vop: what kinds make of words: truth, pairs, sums. -/
import Derived.Test.YtmkencdkglbpbaaDoorVopJ
set_option maxRecDepth 100000
set_option linter.unusedVariables false
namespace Go.Proofs.YtmkencdkglbpbaaDoor
open Go.RowKit

/-- 1, if something is so. -/
def truthV (b : Bool) : Int := if b then 1 else 0
theorem truth_any (b : Bool) (w : World) : Calls Tryd.prog 47 #[.bool b] w fun e w' => e = .returned (.int .u32 (truthV b)) ∧ w' = w := by
  cases b
  · go_enter Tryd.func47, Tryd.ntmps47
    go_wp2
    go_ret
    exact ⟨rfl, rfl⟩
  · go_enter Tryd.func47, Tryd.ntmps47
    go_wp2
    go_ret
    exact ⟨rfl, rfl⟩
theorem truthV_bd (b : Bool) : 0 ≤ truthV b ∧ truthV b < 4294967296 := by cases b <;> simp [truthV]
theorem truthV_wrap (b : Bool) : IntKind.u64.wrap (truthV b) = truthV b := by cases b <;> rfl
theorem truthV_u64 (b : Bool) : truthV b % 18446744073709551616 = truthV b := by cases b <;> rfl

/-- What other kinds make of words. -/
def sumsV (K N x y z : Int) : Int × Bool :=
  if K = 1 then (N, true) else
  if K = 10 then ((x + y) % 4294967296, true) else
  if K = 11 then ((x - y) % 4294967296, true) else
  if K = 12 then ((x * y) % 4294967296, true) else
  if K = 17 then ((-x) % 4294967296, true) else
  if K = 21 then (truthV (decide (x < y)), true) else
  if K = 22 then (truthV (x == y), true) else
  if K = 28 then (x / y, true) else
  if K = 29 then ((x - (y * z) % 4294967296) % 4294967296, true) else
  (0, false)
theorem sums_1 (K t0 t1 f0 f1 f2 f3 N x y z : Int) (w : World) (hK : K = 1) (hx : 0 ≤ x ∧ x < 4294967296) (hy : 0 ≤ y ∧ y < 4294967296) :
    Calls Tryd.prog 50 #[opV K t0 t1 f0 f1 f2 f3 N, .int .u32 x, .int .u32 y, .int .u32 z] w fun e w' => e = .returned (.tuple #[.int .u32 (N), .bool true]) ∧ Below w.heap.size w w' := by
  subst hK
  have hB : Below w.heap.size w w := Below.refl _ _
  go_enter Tryd.func50, Tryd.ntmps50
  go_wp2_with fail
  go_ret2
  exact ⟨rfl, hB.alloc (Nat.le_refl _) _⟩
theorem sums_10 (K t0 t1 f0 f1 f2 f3 N x y z : Int) (w : World) (hK : K = 10) (hx : 0 ≤ x ∧ x < 4294967296) (hy : 0 ≤ y ∧ y < 4294967296) :
    Calls Tryd.prog 50 #[opV K t0 t1 f0 f1 f2 f3 N, .int .u32 x, .int .u32 y, .int .u32 z] w fun e w' => e = .returned (.tuple #[.int .u32 ((x + y) % 4294967296), .bool true]) ∧ Below w.heap.size w w' := by
  subst hK
  have hB : Below w.heap.size w w := Below.refl _ _
  go_enter Tryd.func50, Tryd.ntmps50
  go_wp2_with fail
  go_ret2
  exact ⟨rfl, hB.alloc (Nat.le_refl _) _⟩
theorem sums_11 (K t0 t1 f0 f1 f2 f3 N x y z : Int) (w : World) (hK : K = 11) (hx : 0 ≤ x ∧ x < 4294967296) (hy : 0 ≤ y ∧ y < 4294967296) :
    Calls Tryd.prog 50 #[opV K t0 t1 f0 f1 f2 f3 N, .int .u32 x, .int .u32 y, .int .u32 z] w fun e w' => e = .returned (.tuple #[.int .u32 ((x - y) % 4294967296), .bool true]) ∧ Below w.heap.size w w' := by
  subst hK
  have hB : Below w.heap.size w w := Below.refl _ _
  go_enter Tryd.func50, Tryd.ntmps50
  go_wp2_with fail
  go_ret2
  exact ⟨rfl, hB.alloc (Nat.le_refl _) _⟩
theorem sums_12 (K t0 t1 f0 f1 f2 f3 N x y z : Int) (w : World) (hK : K = 12) (hx : 0 ≤ x ∧ x < 4294967296) (hy : 0 ≤ y ∧ y < 4294967296) :
    Calls Tryd.prog 50 #[opV K t0 t1 f0 f1 f2 f3 N, .int .u32 x, .int .u32 y, .int .u32 z] w fun e w' => e = .returned (.tuple #[.int .u32 ((x * y) % 4294967296), .bool true]) ∧ Below w.heap.size w w' := by
  subst hK
  have hB : Below w.heap.size w w := Below.refl _ _
  go_enter Tryd.func50, Tryd.ntmps50
  go_wp2_with fail
  go_ret2
  exact ⟨rfl, hB.alloc (Nat.le_refl _) _⟩
theorem sums_17 (K t0 t1 f0 f1 f2 f3 N x y z : Int) (w : World) (hK : K = 17) (hx : 0 ≤ x ∧ x < 4294967296) (hy : 0 ≤ y ∧ y < 4294967296) :
    Calls Tryd.prog 50 #[opV K t0 t1 f0 f1 f2 f3 N, .int .u32 x, .int .u32 y, .int .u32 z] w fun e w' => e = .returned (.tuple #[.int .u32 ((-x) % 4294967296), .bool true]) ∧ Below w.heap.size w w' := by
  subst hK
  have hB : Below w.heap.size w w := Below.refl _ _
  go_enter Tryd.func50, Tryd.ntmps50
  go_wp2_with fail
  go_ret2
  exact ⟨rfl, hB.alloc (Nat.le_refl _) _⟩
theorem sums_21 (K t0 t1 f0 f1 f2 f3 N x y z : Int) (w : World) (hK : K = 21) (hx : 0 ≤ x ∧ x < 4294967296) (hy : 0 ≤ y ∧ y < 4294967296) :
    Calls Tryd.prog 50 #[opV K t0 t1 f0 f1 f2 f3 N, .int .u32 x, .int .u32 y, .int .u32 z] w fun e w' => e = .returned (.tuple #[.int .u32 (truthV (decide (x < y))), .bool true]) ∧ Below w.heap.size w w' := by
  subst hK
  have hB : Below w.heap.size w w := Below.refl _ _
  go_enter Tryd.func50, Tryd.ntmps50
  go_wp2_with fail
  refine (truth_any _ _).mono ?_
  rintro e w2 ⟨rfl, rfl⟩
  go_wp2_with fail
  go_ret2
  exact ⟨rfl, hB.alloc (Nat.le_refl _) _⟩
theorem sums_22 (K t0 t1 f0 f1 f2 f3 N x y z : Int) (w : World) (hK : K = 22) (hx : 0 ≤ x ∧ x < 4294967296) (hy : 0 ≤ y ∧ y < 4294967296) :
    Calls Tryd.prog 50 #[opV K t0 t1 f0 f1 f2 f3 N, .int .u32 x, .int .u32 y, .int .u32 z] w fun e w' => e = .returned (.tuple #[.int .u32 (truthV (x == y)), .bool true]) ∧ Below w.heap.size w w' := by
  subst hK
  have hB : Below w.heap.size w w := Below.refl _ _
  go_enter Tryd.func50, Tryd.ntmps50
  go_wp2_with fail
  refine (truth_any _ _).mono ?_
  rintro e w2 ⟨rfl, rfl⟩
  go_wp2_with fail
  go_ret2
  exact ⟨rfl, hB.alloc (Nat.le_refl _) _⟩
theorem sums_28 (K t0 t1 f0 f1 f2 f3 N x y z : Int) (w : World) (hK : K = 28) (hx : 0 ≤ x ∧ x < 4294967296) (hy : 0 ≤ y ∧ y < 4294967296) :
    Calls Tryd.prog 50 #[opV K t0 t1 f0 f1 f2 f3 N, .int .u32 x, .int .u32 y, .int .u32 z] w fun e w' => e = .returned (.tuple #[.int .u32 (x / y), .bool true]) ∧ Below w.heap.size w w' := by
  subst hK
  have hB : Below w.heap.size w w := Below.refl _ _
  go_enter Tryd.func50, Tryd.ntmps50
  go_wp2_with fail
  · go_ret2
    refine ⟨?_, hB.alloc (Nat.le_refl _) _⟩
    have e0 : y = 0 := by omega
    subst e0
    simp
  · go_ret2
    refine ⟨?_, hB.alloc (Nat.le_refl _) _⟩
    have e1 : x / y % 4294967296 = x / y := by
      have h2 : 0 ≤ x / y := Int.ediv_nonneg hx.1 hy.1
      have h3 : x / y ≤ x := Int.ediv_le_self _ hx.1
      omega
    show Ending.returned (.tuple #[.int .u32 (x / y % 4294967296), .bool true]) = _
    rw [e1]
  · go_ret2
    refine ⟨?_, hB.alloc (Nat.le_refl _) _⟩
    have e0 : y = 1 := by omega
    subst e0
    have e1 : x / 1 * 1 % 4294967296 = x / 1 := by omega
    show Ending.returned (.tuple #[.int .u32 (x / 1 * 1 % 4294967296), .bool true]) = _
    rw [e1]
theorem sums_29 (K t0 t1 f0 f1 f2 f3 N x y z : Int) (w : World) (hK : K = 29) (hx : 0 ≤ x ∧ x < 4294967296) (hy : 0 ≤ y ∧ y < 4294967296) :
    Calls Tryd.prog 50 #[opV K t0 t1 f0 f1 f2 f3 N, .int .u32 x, .int .u32 y, .int .u32 z] w fun e w' => e = .returned (.tuple #[.int .u32 ((x - (y * z) % 4294967296) % 4294967296), .bool true]) ∧ Below w.heap.size w w' := by
  subst hK
  have hB : Below w.heap.size w w := Below.refl _ _
  go_enter Tryd.func50, Tryd.ntmps50
  go_wp2_with fail
  go_ret2
  exact ⟨rfl, hB.alloc (Nat.le_refl _) _⟩
theorem sums_no (K t0 t1 f0 f1 f2 f3 N x y z : Int) (w : World) (hn : K ≠ 1 ∧ K ≠ 10 ∧ K ≠ 11 ∧ K ≠ 12 ∧ K ≠ 17 ∧ K ≠ 21 ∧ K ≠ 22 ∧ K ≠ 28 ∧ K ≠ 29) (hx : 0 ≤ x ∧ x < 4294967296) (hy : 0 ≤ y ∧ y < 4294967296) :
    Calls Tryd.prog 50 #[opV K t0 t1 f0 f1 f2 f3 N, .int .u32 x, .int .u32 y, .int .u32 z] w fun e w' => e = .returned (.tuple #[.int .u32 (0), .bool false]) ∧ Below w.heap.size w w' := by
  obtain ⟨n1, n10, n11, n12, n17, n21, n22, n28, n29⟩ := hn
  have m1 : (K == 1) = false := by simpa using n1
  have m10 : (K == 10) = false := by simpa using n10
  have m11 : (K == 11) = false := by simpa using n11
  have m12 : (K == 12) = false := by simpa using n12
  have m17 : (K == 17) = false := by simpa using n17
  have m21 : (K == 21) = false := by simpa using n21
  have m22 : (K == 22) = false := by simpa using n22
  have m28 : (K == 28) = false := by simpa using n28
  have m29 : (K == 29) = false := by simpa using n29
  have hB : Below w.heap.size w w := Below.refl _ _
  go_enter Tryd.func50, Tryd.ntmps50
  go_wp2_with fail
  go_ret2
  exact ⟨rfl, hB.alloc (Nat.le_refl _) _⟩
theorem sums_any (K t0 t1 f0 f1 f2 f3 N x y z : Int) (w : World) (hx : 0 ≤ x ∧ x < 4294967296) (hy : 0 ≤ y ∧ y < 4294967296) :
    Calls Tryd.prog 50 #[opV K t0 t1 f0 f1 f2 f3 N, .int .u32 x, .int .u32 y, .int .u32 z] w fun e w' => e = .returned (.tuple #[.int .u32 (sumsV K N x y z).1, .bool (sumsV K N x y z).2]) ∧ Below w.heap.size w w' := by
  by_cases h1 : K = 1
  · have h := sums_1 K t0 t1 f0 f1 f2 f3 N x y z w h1 hx hy
    subst h1
    exact h
  by_cases h10 : K = 10
  · have h := sums_10 K t0 t1 f0 f1 f2 f3 N x y z w h10 hx hy
    subst h10
    exact h
  by_cases h11 : K = 11
  · have h := sums_11 K t0 t1 f0 f1 f2 f3 N x y z w h11 hx hy
    subst h11
    exact h
  by_cases h12 : K = 12
  · have h := sums_12 K t0 t1 f0 f1 f2 f3 N x y z w h12 hx hy
    subst h12
    exact h
  by_cases h17 : K = 17
  · have h := sums_17 K t0 t1 f0 f1 f2 f3 N x y z w h17 hx hy
    subst h17
    exact h
  by_cases h21 : K = 21
  · have h := sums_21 K t0 t1 f0 f1 f2 f3 N x y z w h21 hx hy
    subst h21
    exact h
  by_cases h22 : K = 22
  · have h := sums_22 K t0 t1 f0 f1 f2 f3 N x y z w h22 hx hy
    subst h22
    exact h
  by_cases h28 : K = 28
  · have h := sums_28 K t0 t1 f0 f1 f2 f3 N x y z w h28 hx hy
    subst h28
    exact h
  by_cases h29 : K = 29
  · have h := sums_29 K t0 t1 f0 f1 f2 f3 N x y z w h29 hx hy
    subst h29
    exact h
  have h := sums_no K t0 t1 f0 f1 f2 f3 N x y z w ⟨h1, h10, h11, h12, h17, h21, h22, h28, h29⟩ hx hy
  unfold sumsV
  simp only [h1, h10, h11, h12, h17, h21, h22, h28, h29, if_false]
  exact h

/-- What kinds of pairs make of words. -/
def pairsV (K v0 v1 A B : Int) : Int × Bool :=
  if K = 23 then ((A + B) % 18446744073709551616, true) else
  if K = 24 then ((A - B) % 18446744073709551616, true) else
  if K = 25 then (truthV (decide (A < B)), true) else
  if K = 26 then ((v0 * v1) % 18446744073709551616, true) else
  (0, false)
set_option maxHeartbeats 1000000 in
theorem pairs_23 (K t0 t1 f0 f1 f2 f3 N v0 v1 v2 v3 A B : Int) (w : World) (hK : K = 23) (b0 : 0 ≤ v0 ∧ v0 < 4294967296) (b1 : 0 ≤ v1 ∧ v1 < 4294967296) (b2 : 0 ≤ v2 ∧ v2 < 4294967296) (b3 : 0 ≤ v3 ∧ v3 < 4294967296) (hA : A = v1 * 4294967296 + v0) (hB : B = v3 * 4294967296 + v2) :
    Calls Tryd.prog 48 #[opV K t0 t1 f0 f1 f2 f3 N, .agg #[.int .u32 v0, .int .u32 v1, .int .u32 v2, .int .u32 v3]] w fun e w' => e = .returned (.tuple #[.int .u64 ((A + B) % 18446744073709551616), .bool true]) ∧ Below w.heap.size w w' := by
  subst hK
  have HA : Hid (∀ w, Calls Tryd.prog 65 #[.int .u32 v0, .int .u32 v1] w fun e w' => e = .returned (.int .u64 (v1 * 4294967296 + v0)) ∧ w' = w) := fun w => pair_any v0 v1 b0.1 b0.2 b1.1 b1.2 w
  have HB : Hid (∀ w, Calls Tryd.prog 65 #[.int .u32 v2, .int .u32 v3] w fun e w' => e = .returned (.int .u64 (v3 * 4294967296 + v2)) ∧ w' = w) := fun w => pair_any v2 v3 b2.1 b2.2 b3.1 b3.2 w
  rw [← hA] at HA
  rw [← hB] at HB
  clear hA hB b2 b3
  go_enter Tryd.func48, Tryd.ntmps48
  go_wp2_with fail
  go_quiet (first | (go_at_call 65; with_reducible exact Calls.quiet_of_same (HA.out _)) | (go_at_call 65; with_reducible exact Calls.quiet_of_same (HB.out _)))
  go_wp2_with fail
  go_ret2
  exact ⟨rfl, below_drewN (((Below.refl _ w).alloc (Nat.le_refl _) _).alloc (by simp) _) nq⟩
set_option maxHeartbeats 1000000 in
theorem pairs_24 (K t0 t1 f0 f1 f2 f3 N v0 v1 v2 v3 A B : Int) (w : World) (hK : K = 24) (b0 : 0 ≤ v0 ∧ v0 < 4294967296) (b1 : 0 ≤ v1 ∧ v1 < 4294967296) (b2 : 0 ≤ v2 ∧ v2 < 4294967296) (b3 : 0 ≤ v3 ∧ v3 < 4294967296) (hA : A = v1 * 4294967296 + v0) (hB : B = v3 * 4294967296 + v2) :
    Calls Tryd.prog 48 #[opV K t0 t1 f0 f1 f2 f3 N, .agg #[.int .u32 v0, .int .u32 v1, .int .u32 v2, .int .u32 v3]] w fun e w' => e = .returned (.tuple #[.int .u64 ((A - B) % 18446744073709551616), .bool true]) ∧ Below w.heap.size w w' := by
  subst hK
  have HA : Hid (∀ w, Calls Tryd.prog 65 #[.int .u32 v0, .int .u32 v1] w fun e w' => e = .returned (.int .u64 (v1 * 4294967296 + v0)) ∧ w' = w) := fun w => pair_any v0 v1 b0.1 b0.2 b1.1 b1.2 w
  have HB : Hid (∀ w, Calls Tryd.prog 65 #[.int .u32 v2, .int .u32 v3] w fun e w' => e = .returned (.int .u64 (v3 * 4294967296 + v2)) ∧ w' = w) := fun w => pair_any v2 v3 b2.1 b2.2 b3.1 b3.2 w
  rw [← hA] at HA
  rw [← hB] at HB
  clear hA hB b2 b3
  go_enter Tryd.func48, Tryd.ntmps48
  go_wp2_with fail
  go_quiet (first | (go_at_call 65; with_reducible exact Calls.quiet_of_same (HA.out _)) | (go_at_call 65; with_reducible exact Calls.quiet_of_same (HB.out _)))
  go_wp2_with fail
  go_ret2
  exact ⟨rfl, below_drewN (((Below.refl _ w).alloc (Nat.le_refl _) _).alloc (by simp) _) nq⟩
set_option maxHeartbeats 1000000 in
theorem pairs_25 (K t0 t1 f0 f1 f2 f3 N v0 v1 v2 v3 A B : Int) (w : World) (hK : K = 25) (b0 : 0 ≤ v0 ∧ v0 < 4294967296) (b1 : 0 ≤ v1 ∧ v1 < 4294967296) (b2 : 0 ≤ v2 ∧ v2 < 4294967296) (b3 : 0 ≤ v3 ∧ v3 < 4294967296) (hA : A = v1 * 4294967296 + v0) (hB : B = v3 * 4294967296 + v2) :
    Calls Tryd.prog 48 #[opV K t0 t1 f0 f1 f2 f3 N, .agg #[.int .u32 v0, .int .u32 v1, .int .u32 v2, .int .u32 v3]] w fun e w' => e = .returned (.tuple #[.int .u64 (truthV (decide (A < B))), .bool true]) ∧ Below w.heap.size w w' := by
  subst hK
  have HA : Hid (∀ w, Calls Tryd.prog 65 #[.int .u32 v0, .int .u32 v1] w fun e w' => e = .returned (.int .u64 (v1 * 4294967296 + v0)) ∧ w' = w) := fun w => pair_any v0 v1 b0.1 b0.2 b1.1 b1.2 w
  have HB : Hid (∀ w, Calls Tryd.prog 65 #[.int .u32 v2, .int .u32 v3] w fun e w' => e = .returned (.int .u64 (v3 * 4294967296 + v2)) ∧ w' = w) := fun w => pair_any v2 v3 b2.1 b2.2 b3.1 b3.2 w
  rw [← hA] at HA
  rw [← hB] at HB
  clear hA hB b2 b3
  go_enter Tryd.func48, Tryd.ntmps48
  go_wp2_with fail
  go_quiet (first | (go_at_call 65; with_reducible exact Calls.quiet_of_same (HA.out _)) | (go_at_call 65; with_reducible exact Calls.quiet_of_same (HB.out _)))
  go_wp2_with fail
  refine (truth_any _ _).mono ?_
  rintro e w2 ⟨rfl, rfl⟩
  go_wp2_with fail
  go_ret2
  exact ⟨by show Ending.returned (.tuple #[.int .u64 (IntKind.u64.wrap (truthV (decide (A < B)))), .bool true]) = _; rw [truthV_wrap], below_drewN (((Below.refl _ w).alloc (Nat.le_refl _) _).alloc (by simp) _) nq⟩
set_option maxHeartbeats 1000000 in
theorem pairs_26 (K t0 t1 f0 f1 f2 f3 N v0 v1 v2 v3 A B : Int) (w : World) (hK : K = 26) (b0 : 0 ≤ v0 ∧ v0 < 4294967296) (b1 : 0 ≤ v1 ∧ v1 < 4294967296) (b2 : 0 ≤ v2 ∧ v2 < 4294967296) (b3 : 0 ≤ v3 ∧ v3 < 4294967296) (hA : A = v1 * 4294967296 + v0) (hB : B = v3 * 4294967296 + v2) :
    Calls Tryd.prog 48 #[opV K t0 t1 f0 f1 f2 f3 N, .agg #[.int .u32 v0, .int .u32 v1, .int .u32 v2, .int .u32 v3]] w fun e w' => e = .returned (.tuple #[.int .u64 ((v0 * v1) % 18446744073709551616), .bool true]) ∧ Below w.heap.size w w' := by
  subst hK
  have HA : Hid (∀ w, Calls Tryd.prog 65 #[.int .u32 v0, .int .u32 v1] w fun e w' => e = .returned (.int .u64 (v1 * 4294967296 + v0)) ∧ w' = w) := fun w => pair_any v0 v1 b0.1 b0.2 b1.1 b1.2 w
  have HB : Hid (∀ w, Calls Tryd.prog 65 #[.int .u32 v2, .int .u32 v3] w fun e w' => e = .returned (.int .u64 (v3 * 4294967296 + v2)) ∧ w' = w) := fun w => pair_any v2 v3 b2.1 b2.2 b3.1 b3.2 w
  rw [← hA] at HA
  rw [← hB] at HB
  clear hA hB b2 b3
  go_enter Tryd.func48, Tryd.ntmps48
  go_wp2_with fail
  go_quiet (first | (go_at_call 65; with_reducible exact Calls.quiet_of_same (HA.out _)) | (go_at_call 65; with_reducible exact Calls.quiet_of_same (HB.out _)))
  go_wp2_with fail
  go_ret2
  exact ⟨rfl, below_drewN (((Below.refl _ w).alloc (Nat.le_refl _) _).alloc (by simp) _) nq⟩
set_option maxHeartbeats 1000000 in
theorem pairs_no (K t0 t1 f0 f1 f2 f3 N v0 v1 v2 v3 A B : Int) (w : World) (hn : K ≠ 23 ∧ K ≠ 24 ∧ K ≠ 25 ∧ K ≠ 26) (b0 : 0 ≤ v0 ∧ v0 < 4294967296) (b1 : 0 ≤ v1 ∧ v1 < 4294967296) (b2 : 0 ≤ v2 ∧ v2 < 4294967296) (b3 : 0 ≤ v3 ∧ v3 < 4294967296) (hA : A = v1 * 4294967296 + v0) (hB : B = v3 * 4294967296 + v2) :
    Calls Tryd.prog 48 #[opV K t0 t1 f0 f1 f2 f3 N, .agg #[.int .u32 v0, .int .u32 v1, .int .u32 v2, .int .u32 v3]] w fun e w' => e = .returned (.tuple #[.int .u64 (0), .bool false]) ∧ Below w.heap.size w w' := by
  obtain ⟨n23, n24, n25, n26⟩ := hn
  have m23 : (K == 23) = false := by simpa using n23
  have m24 : (K == 24) = false := by simpa using n24
  have m25 : (K == 25) = false := by simpa using n25
  have m26 : (K == 26) = false := by simpa using n26
  have HA : Hid (∀ w, Calls Tryd.prog 65 #[.int .u32 v0, .int .u32 v1] w fun e w' => e = .returned (.int .u64 (v1 * 4294967296 + v0)) ∧ w' = w) := fun w => pair_any v0 v1 b0.1 b0.2 b1.1 b1.2 w
  have HB : Hid (∀ w, Calls Tryd.prog 65 #[.int .u32 v2, .int .u32 v3] w fun e w' => e = .returned (.int .u64 (v3 * 4294967296 + v2)) ∧ w' = w) := fun w => pair_any v2 v3 b2.1 b2.2 b3.1 b3.2 w
  rw [← hA] at HA
  rw [← hB] at HB
  clear hA hB b2 b3
  go_enter Tryd.func48, Tryd.ntmps48
  go_wp2_with fail
  go_quiet (first | (go_at_call 65; with_reducible exact Calls.quiet_of_same (HA.out _)) | (go_at_call 65; with_reducible exact Calls.quiet_of_same (HB.out _)))
  go_wp2_with fail
  go_ret2
  exact ⟨rfl, below_drewN (((Below.refl _ w).alloc (Nat.le_refl _) _).alloc (by simp) _) nq⟩
theorem pairs_any (K t0 t1 f0 f1 f2 f3 N v0 v1 v2 v3 : Int) (w : World) (b0 : 0 ≤ v0 ∧ v0 < 4294967296) (b1 : 0 ≤ v1 ∧ v1 < 4294967296) (b2 : 0 ≤ v2 ∧ v2 < 4294967296) (b3 : 0 ≤ v3 ∧ v3 < 4294967296) :
    Calls Tryd.prog 48 #[opV K t0 t1 f0 f1 f2 f3 N, .agg #[.int .u32 v0, .int .u32 v1, .int .u32 v2, .int .u32 v3]] w fun e w' => e = .returned (.tuple #[.int .u64 (pairsV K v0 v1 (v1 * 4294967296 + v0) (v3 * 4294967296 + v2)).1, .bool (pairsV K v0 v1 (v1 * 4294967296 + v0) (v3 * 4294967296 + v2)).2]) ∧ Below w.heap.size w w' := by
  by_cases h23 : K = 23
  · have h := pairs_23 K t0 t1 f0 f1 f2 f3 N v0 v1 v2 v3 _ _ w h23 b0 b1 b2 b3 rfl rfl
    subst h23
    exact h
  by_cases h24 : K = 24
  · have h := pairs_24 K t0 t1 f0 f1 f2 f3 N v0 v1 v2 v3 _ _ w h24 b0 b1 b2 b3 rfl rfl
    subst h24
    exact h
  by_cases h25 : K = 25
  · have h := pairs_25 K t0 t1 f0 f1 f2 f3 N v0 v1 v2 v3 _ _ w h25 b0 b1 b2 b3 rfl rfl
    subst h25
    exact h
  by_cases h26 : K = 26
  · have h := pairs_26 K t0 t1 f0 f1 f2 f3 N v0 v1 v2 v3 _ _ w h26 b0 b1 b2 b3 rfl rfl
    subst h26
    exact h
  have h := pairs_no K t0 t1 f0 f1 f2 f3 N v0 v1 v2 v3 _ _ w ⟨h23, h24, h25, h26⟩ b0 b1 b2 b3 rfl rfl
  unfold pairsV
  simp only [h23, h24, h25, h26, if_false]
  exact h
end Go.Proofs.YtmkencdkglbpbaaDoor
