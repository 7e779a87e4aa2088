/- AllocRuns: touches: does an operation come to the slots? -/
import Derived.Test.YtmkencdkglbpbaaDoorSimF
import Derived.BigQuiet
import Derived.Deep.QuietTactic
import Derived.StillTailTactics
set_option maxRecDepth 100000
set_option linter.unusedVariables false
namespace Go.Proofs.YtmkencdkglbpbaaDoor
open Go.RowKit

theorem blk_cells {w : World} {b : Nat} {C : Array Value} {t : TypeId} (h : w.heap[b]? = some (.cells C t (0, 0))) (i : Nat) : w.cell? ⟨b, i, none⟩ = C[i]? ∧ w.frozen? ⟨b, i, none⟩ = false := by
  constructor
  · simp only [World.cell?, h]; rw [if_neg (by simp)]
  · simp [World.frozen?, h]
def touchB (K N S v0 v1 fr : Int) (Z : Nat) : Bool := (K == 2 || K == 3 || K == 5 || K == 6) && (decide (fr ≤ atV K S N v0 v1) && decide (atV K S N v0 v1 - fr < 4 * (Z : Int)))

set_option maxHeartbeats 4000000 in
theorem touches_far (sb rb rc mb : Nat) (S : Int) (R : List Int) (K t0 t1 f0 f1 f2 f3 N fr v0 v1 : Int) (Z : Nat) (w : World) (hR : RegAt w sb rb rc mb S R) (hN : 0 ≤ N ∧ N < 4294967296) (hfr : 0 ≤ fr ∧ fr < 4294967296) (hZ : Z ≤ 1000) (h5 : K ≠ 5) (h6 : K ≠ 6) :
    Calls Tryd.prog 33 #[opV K t0 t1 f0 f1 f2 f3 N, .pointer (some ⟨sb, 0, none⟩), .int .u32 fr, .int .i64 Z] w fun e w' => e = .returned (.bool (touchB K N S v0 v1 fr Z)) ∧ Below w.heap.size w w' := by
  obtain ⟨A, hA⟩ : ∃ A, A = (S + N) % 4294967296 := ⟨_, rfl⟩
  have hAb : 0 ≤ A ∧ A < 4294967296 := by omega
  have hat : atV K S N v0 v1 = A := by unfold atV; rw [if_neg (by omega), hA]
  obtain ⟨V, hV⟩ : ∃ V, V = touchB K N S v0 v1 fr Z := ⟨_, rfl⟩
  rw [← hV]
  unfold touchB at hV
  rw [hat] at hV
  have HV := Lib.hid hV
  have HA := Lib.hid hA
  have HR := Lib.hid hR
  have hsl := lt_of_block hR.blk
  clear hV hat hA hR
  have e5 : (K == 5) = false := by simpa using h5
  have e6 : (K == 6) = false := by simpa using h6
  go_enter Tryd.func33, Tryd.ntmps33
  have hB2 := (Below.refl _ w).alloc (Nat.le_refl _) (.cells #[.int .i64 K, .int .i64 t0, .int .i64 t1, .int .i64 f0, .int .i64 f1, .int .i64 f2, .int .i64 f3, .int .u32 N] 37)
  have k0 := heap_alloc_new w (.cells #[.int .i64 K, .int .i64 t0, .int .i64 t1, .int .i64 f0, .int .i64 f1, .int .i64 f2, .int .i64 f3, .int .u32 N] 37)
  go_upto_region 1 with fail
  generalize w.alloc _ = w2 at hB2 k0 ⊢
  have HB2 := Lib.hid hB2
  have o0 := (blk_cells k0 0).1
  have o7 := (blk_cells k0 7).1
  have s1 := (blk_cells ((hB2.block sb hsl).trans HR.out.blk) 1).1
  simp only [List.getElem?_toArray, List.getElem?_cons_zero, List.getElem?_cons_succ] at o0 o7 s1
  have wq : IntKind.u32.wrap (S + N) = A := by rw [IntKind.wrap_u32, HA.out]
  clear hB2 k0
  go_quiet (fail)
  have HB3 := Lib.hid (below_drewN HB2.out nq)
  have o0' := o0
  rw [← World.cell?_drewN w2 nq] at o0'
  generalize w2.drewN nq = w3 at HB3 o0' ⊢
  clear o0 o7 s1
  have wz1 : IntKind.i64.wrap (4 * (Z : Int)) = 4 * (Z : Int) := IntWalk.i64_in _ (by omega)
  have wz2 : IntKind.u32.wrap (4 * (Z : Int)) = 4 * (Z : Int) := by rw [IntKind.wrap_u32]; omega
  by_cases hle : fr ≤ A
  · have g1 : decide (fr ≤ A) = true := by simpa using hle
    have ws : IntKind.u32.wrap (A - fr) = A - fr := by rw [IntKind.wrap_u32]; omega
    by_cases h2 : K = 2
    · subst h2
      go_wp2_with fail
      go_ret
      rw [HV.out, g1]
      exact ⟨rfl, HB3.out⟩
    · have e2 : (K == 2) = false := by simpa using h2
      by_cases h3 : K = 3
      · subst h3
        go_wp2_with fail
        go_ret
        rw [HV.out, g1]
        exact ⟨rfl, HB3.out⟩
      · have e3 : (K == 3) = false := by simpa using h3
        go_wp2_with fail
        go_ret
        rw [HV.out, e2, e3, e5, e6]
        exact ⟨rfl, HB3.out⟩
  · have g1 : decide (fr ≤ A) = false := by simpa using hle
    by_cases h2 : K = 2
    · subst h2
      go_wp2_with fail
      go_ret
      rw [HV.out, g1]
      exact ⟨rfl, HB3.out⟩
    · have e2 : (K == 2) = false := by simpa using h2
      by_cases h3 : K = 3
      · subst h3
        go_wp2_with fail
        go_ret
        rw [HV.out, g1]
        exact ⟨rfl, HB3.out⟩
      · have e3 : (K == 3) = false := by simpa using h3
        go_wp2_with fail
        go_ret
        rw [HV.out, e2, e3, e5, e6]
        exact ⟨rfl, HB3.out⟩

set_option maxHeartbeats 4000000 in
theorem touches_near (sb rb rc mb : Nat) (S : Int) (R : List Int) (K t0 t1 f0 f1 f2 f3 N fr : Int) (Z : Nat) (w : World) (hR : RegAt w sb rb rc mb S R) (hN : 0 ≤ N ∧ N < 4294967296) (hfr : 0 ≤ fr ∧ fr < 4294967296) (hZ : Z ≤ 1000) (h56 : K = 5 ∨ K = 6) (u0 u1 : Nat) (l : List Int)
    (hU : regsOf [f0, f1, f2, f3] = (u0 : Int) :: (u1 : Int) :: l) (h0 : u0 < R.length) (h1 : u1 < R.length) (hll : l.length ≤ 4) :
    Calls Tryd.prog 33 #[opV K t0 t1 f0 f1 f2 f3 N, .pointer (some ⟨sb, 0, none⟩), .int .u32 fr, .int .i64 Z] w fun e w' => e = .returned (.bool (touchB K N S (rv R (regsOf [f0, f1, f2, f3]) 0) (rv R (regsOf [f0, f1, f2, f3]) 1) fr Z)) ∧ Below w.heap.size w w' := by
  have rv0 : rv R (regsOf [f0, f1, f2, f3]) 0 = R[u0] := by rw [hU]; simp [rv, h0]
  have rv1 : rv R (regsOf [f0, f1, f2, f3]) 1 = R[u1] := by rw [hU]; simp [rv, h1]
  rw [rv0, rv1]
  have hr0 := hR.row u0 h0
  have hr1 := hR.row u1 h1
  have b0 := hR.bytes _ (List.getElem_mem h0)
  have b1 := hR.bytes _ (List.getElem_mem h1)
  generalize R[u0] = X at hr0 b0 ⊢
  generalize R[u1] = Y at hr1 b1 ⊢
  obtain ⟨A, hA⟩ : ∃ A, A = (X + 4 * Y % 4294967296) % 4294967296 := ⟨_, rfl⟩
  have hAb : 0 ≤ A ∧ A < 4294967296 := by omega
  have hat : atV K S N X Y = A := by unfold atV; rw [if_pos h56, hA]
  obtain ⟨V, hV⟩ : ∃ V, V = touchB K N S X Y fr Z := ⟨_, rfl⟩
  rw [← hV]
  unfold touchB at hV
  rw [hat] at hV
  have hor : (K == 2 || K == 3 || K == 5 || K == 6) = true := by rcases h56 with rfl | rfl <;> rfl
  rw [hor, Bool.true_and] at hV
  have HV := Lib.hid hV
  have HA := Lib.hid hA
  have HR := Lib.hid hR
  have HUu := Lib.hid hU
  have Hr0 := Lib.hid hr0
  have Hr1 := Lib.hid hr1
  have hsl := lt_of_block hR.blk
  have hrl := hR.rlt
  have hsm := hR.small
  have hcap := hR.cap
  clear hV hat hA hR hU rv0 rv1 hr0 hr1 hor
  have hUs : ∀ W, Calls Tryd.prog 15 #[opV K t0 t1 f0 f1 f2 f3 N] W fun e w' => ∃ v, e = .returned v ∧ w'.ownsRow W.heap.size 3 1 v ((u0 : Int) :: (u1 : Int) :: l).length (iCells ((u0 : Int) :: (u1 : Int) :: l)) ∧ Below W.heap.size W w' := fun W => by
    rw [← HUu.out]; exact uses_any K t0 t1 f0 f1 f2 f3 N W
  have HUs := Lib.hid hUs
  clear hUs
  go_enter Tryd.func33, Tryd.ntmps33
  have hB2 := (Below.refl _ w).alloc (Nat.le_refl _) (.cells #[.int .i64 K, .int .i64 t0, .int .i64 t1, .int .i64 f0, .int .i64 f1, .int .i64 f2, .int .i64 f3, .int .u32 N] 37)
  have k0 := heap_alloc_new w (.cells #[.int .i64 K, .int .i64 t0, .int .i64 t1, .int .i64 f0, .int .i64 f1, .int .i64 f2, .int .i64 f3, .int .u32 N] 37)
  go_upto_region 1 with fail
  generalize w.alloc _ = w2 at hB2 k0 ⊢
  have HB2 := Lib.hid hB2
  have HK0 := Lib.hid k0
  have o0 := (blk_cells k0 0).1
  have o7 := (blk_cells k0 7).1
  have s1 := (blk_cells ((hB2.block sb hsl).trans HR.out.blk) 1).1
  simp only [List.getElem?_toArray, List.getElem?_cons_zero, List.getElem?_cons_succ] at o0 o7 s1
  clear hB2 k0
  go_quiet (fail)
  have HB3 := Lib.hid (below_drewN HB2.out nq)
  have HK3 : Hid ((w2.drewN nq).heap[w.heap.size]? = some (.cells #[.int .i64 K, .int .i64 t0, .int .i64 t1, .int .i64 f0, .int .i64 f1, .int .i64 f2, .int .i64 f3, .int .u32 N] 37 (0, 0))) := HK0.out
  generalize w2.drewN nq = w3 at HB3 HK3 ⊢
  clear o0 o7 s1 HK0 HB2
  obtain ⟨⟨o0, _⟩, ⟨o1, _⟩, ⟨o2, _⟩, ⟨o3, _⟩, ⟨o4, _⟩, ⟨o5, _⟩, ⟨o6, _⟩, ⟨o7, _⟩⟩ := And.intro (blk_cells HK3.out 0) (And.intro (blk_cells HK3.out 1) (And.intro (blk_cells HK3.out 2) (And.intro (blk_cells HK3.out 3) (And.intro (blk_cells HK3.out 4) (And.intro (blk_cells HK3.out 5) (And.intro (blk_cells HK3.out 6) (blk_cells HK3.out 7)))))))
  simp only [List.getElem?_toArray, List.getElem?_cons_zero, List.getElem?_cons_succ] at o0 o1 o2 o3 o4 o5 o6 o7
  have e56 : (K == 5) = true ∨ ((K == 5) = false ∧ (K == 6) = true) := by rcases h56 with rfl | rfl <;> simp
  rcases h56 with rfl | rfl
  · skip
    go_wp2_with fail
    refine (HUs.out _).mono ?_
    rintro e w4 ⟨v, rfl, hown, hb4⟩
    obtain ⟨xa, ca, rfl, hlc, hcell⟩ := own_form hown rfl
    obtain ⟨g, rfl, hg1, hg2, hg3⟩ := hcell (by simp)
    have q0 := hg3 0 (by simp)
    have q1 := hg3 1 (by simp)
    simp only [List.getElem_cons_zero, List.getElem_cons_succ] at q0 q1
    have HB4 := Lib.hid (HB3.out.trans (hb4.mono HB3.out.size))
    have HK4 := Lib.hid ((hb4.block _ (lt_of_block HK3.out)).trans HK3.out)
    obtain ⟨n, hn⟩ : ∃ n, n = ((u0 : Int) :: (u1 : Int) :: l).length := ⟨_, rfl⟩
    rw [← hn] at hlc ⊢
    have hn2 : 2 ≤ n ∧ n ≤ 6 := by rw [hn]; simp; omega
    have s0 := (blk_cells ((HB4.out.block sb hsl).trans HR.out.blk) 0).1
    simp only [List.getElem?_toArray, List.getElem?_cons_zero, List.getElem?_cons_succ] at s0
    have r0 := (HB4.out.cell (p := ⟨rb, u0, none⟩) hrl).trans Hr0.out
    have r1 := (HB4.out.cell (p := ⟨rb, u1, none⟩) hrl).trans Hr1.out
    obtain ⟨rl, hrlen⟩ : ∃ rl, rl = R.length := ⟨_, rfl⟩
    rw [← hrlen] at s0 h0 h1 hsm hcap
    clear hrlen
    have d3 : decide (rl ≤ u0) = false := by simp; omega
    have d4 : decide (rl ≤ u1) = false := by simp; omega
    have d0 : decide ((rl : Int) ≤ (u0 : Int)) = false := by simp; omega
    have d1 : decide ((rl : Int) ≤ (u1 : Int)) = false := by simp; omega
    have d2 : decide ((n : Int) < 2) = false := by simp; omega
    clear o0 o1 o2 o3 o4 o5 o6 o7 hown hcell hg3 hb4 hn
    have o0 := (blk_cells HK4.out 0).1
    simp only [List.getElem?_toArray, List.getElem?_cons_zero, List.getElem?_cons_succ] at o0
    obtain ⟨hn2, hn6⟩ := hn2
    have i0 : (0 : Int) < (n : Int) := by omega
    have i1 : (1 : Int) < (n : Int) := by omega
    have i2 : 0 < n := by omega
    have i3 : 1 < n := by omega
    have i4 : (u0 : Int) < (rl : Int) := by omega
    have i5 : (u1 : Int) < (rl : Int) := by omega
    go_wp2_with fail
    go_quiet (fail)
    go_wp2_with fail
    go_quiet (fail)
    rw [show (X + 4 * Y % 4294967296) % 4294967296 = A from HA.out.symm]
    have wz1 : IntKind.i64.wrap (4 * (Z : Int)) = 4 * (Z : Int) := IntWalk.i64_in _ (by omega)
    have wz2 : IntKind.u32.wrap (4 * (Z : Int)) = 4 * (Z : Int) := by rw [IntKind.wrap_u32]; omega
    by_cases hle : fr ≤ A
    · have g1 : decide (fr ≤ A) = true := by simpa using hle
      have ws : IntKind.u32.wrap (A - fr) = A - fr := by rw [IntKind.wrap_u32]; omega
      go_wp2_with fail
      go_ret
      rw [HV.out, g1]
      exact ⟨rfl, below_drewN HB4.out _⟩
    · have g1 : decide (fr ≤ A) = false := by simpa using hle
      go_wp2_with fail
      go_ret
      rw [HV.out, g1]
      exact ⟨rfl, below_drewN HB4.out _⟩
  · skip
    go_wp2_with fail
    refine (HUs.out _).mono ?_
    rintro e w4 ⟨v, rfl, hown, hb4⟩
    obtain ⟨xa, ca, rfl, hlc, hcell⟩ := own_form hown rfl
    obtain ⟨g, rfl, hg1, hg2, hg3⟩ := hcell (by simp)
    have q0 := hg3 0 (by simp)
    have q1 := hg3 1 (by simp)
    simp only [List.getElem_cons_zero, List.getElem_cons_succ] at q0 q1
    have HB4 := Lib.hid (HB3.out.trans (hb4.mono HB3.out.size))
    have HK4 := Lib.hid ((hb4.block _ (lt_of_block HK3.out)).trans HK3.out)
    obtain ⟨n, hn⟩ : ∃ n, n = ((u0 : Int) :: (u1 : Int) :: l).length := ⟨_, rfl⟩
    rw [← hn] at hlc ⊢
    have hn2 : 2 ≤ n ∧ n ≤ 6 := by rw [hn]; simp; omega
    have s0 := (blk_cells ((HB4.out.block sb hsl).trans HR.out.blk) 0).1
    simp only [List.getElem?_toArray, List.getElem?_cons_zero, List.getElem?_cons_succ] at s0
    have r0 := (HB4.out.cell (p := ⟨rb, u0, none⟩) hrl).trans Hr0.out
    have r1 := (HB4.out.cell (p := ⟨rb, u1, none⟩) hrl).trans Hr1.out
    obtain ⟨rl, hrlen⟩ : ∃ rl, rl = R.length := ⟨_, rfl⟩
    rw [← hrlen] at s0 h0 h1 hsm hcap
    clear hrlen
    have d3 : decide (rl ≤ u0) = false := by simp; omega
    have d4 : decide (rl ≤ u1) = false := by simp; omega
    have d0 : decide ((rl : Int) ≤ (u0 : Int)) = false := by simp; omega
    have d1 : decide ((rl : Int) ≤ (u1 : Int)) = false := by simp; omega
    have d2 : decide ((n : Int) < 2) = false := by simp; omega
    clear o0 o1 o2 o3 o4 o5 o6 o7 hown hcell hg3 hb4 hn
    have o0 := (blk_cells HK4.out 0).1
    simp only [List.getElem?_toArray, List.getElem?_cons_zero, List.getElem?_cons_succ] at o0
    obtain ⟨hn2, hn6⟩ := hn2
    have i0 : (0 : Int) < (n : Int) := by omega
    have i1 : (1 : Int) < (n : Int) := by omega
    have i2 : 0 < n := by omega
    have i3 : 1 < n := by omega
    have i4 : (u0 : Int) < (rl : Int) := by omega
    have i5 : (u1 : Int) < (rl : Int) := by omega
    go_wp2_with fail
    go_quiet (fail)
    go_wp2_with fail
    go_quiet (fail)
    rw [show (X + 4 * Y % 4294967296) % 4294967296 = A from HA.out.symm]
    have wz1 : IntKind.i64.wrap (4 * (Z : Int)) = 4 * (Z : Int) := IntWalk.i64_in _ (by omega)
    have wz2 : IntKind.u32.wrap (4 * (Z : Int)) = 4 * (Z : Int) := by rw [IntKind.wrap_u32]; omega
    by_cases hle : fr ≤ A
    · have g1 : decide (fr ≤ A) = true := by simpa using hle
      have ws : IntKind.u32.wrap (A - fr) = A - fr := by rw [IntKind.wrap_u32]; omega
      go_wp2_with fail
      go_ret
      rw [HV.out, g1]
      exact ⟨rfl, below_drewN HB4.out _⟩
    · have g1 : decide (fr ≤ A) = false := by simpa using hle
      go_wp2_with fail
      go_ret
      rw [HV.out, g1]
      exact ⟨rfl, below_drewN HB4.out _⟩
end Go.Proofs.YtmkencdkglbpbaaDoor
