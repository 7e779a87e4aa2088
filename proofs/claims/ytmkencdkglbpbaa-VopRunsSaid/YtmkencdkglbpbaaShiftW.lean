/- The document's shifts by contracts. -/
import Derived.Test.YtmkencdkglbpbaaShiftP
set_option maxRecDepth 100000
set_option linter.unusedVariables false
namespace Go.Proofs.Ytmkencdkglbpbaa
open Go.RowKit

theorem half_pow (x : Int) (hx : 0 ≤ x) (k : Nat) : x / 2 ^ k / 2 = x / 2 ^ (k + 1) := by
  rw [Int.pow_succ, ← Int.ediv_ediv_of_nonneg (Int.pow_nonneg (by omega))]
theorem pow_bd (x : Int) (hx : 0 ≤ x ∧ x < 4294967296) (k : Nat) : 0 ≤ x / 2 ^ k ∧ x / 2 ^ k < 4294967296 := by
  have h1 : (0 : Int) ≤ 2 ^ k := Int.pow_nonneg (by omega)
  have h2 : 0 ≤ x / 2 ^ k := Int.ediv_nonneg hx.1 h1
  have h3 : x / 2 ^ k ≤ x := Int.ediv_le_self _ hx.1
  omega

set_option maxHeartbeats 1000000 in
theorem refBit_any (x i : Int) (hx : 0 ≤ x ∧ x < 4294967296) (w : World) :
    Calls Try.prog 46 #[.int .u32 x, .int .i64 i] w fun e w' => e = .returned (.int .u32 (bitI x i)) ∧ w' = w := by
  by_cases h0 : i < 0
  · have e1 : decide (i < 0) = true := by simpa using h0
    have hv : bitI x i = 0 := by unfold bitI; rw [if_pos (.inl h0)]
    rw [hv]
    clear hv h0
    go_enter Try.func46, Try.ntmps46
    go_wp2_with fail
    go_ret
    exact ⟨rfl, rfl⟩
  have e1 : decide (i < 0) = false := by simpa using h0
  by_cases h1 : 31 < i
  · have e2 : decide (31 < i) = true := by simpa using h1
    have hv : bitI x i = 0 := by unfold bitI; rw [if_pos (.inr h1)]
    rw [hv]
    clear hv h0 h1
    go_enter Try.func46, Try.ntmps46
    go_wp2_with fail
    go_ret
    exact ⟨rfl, rfl⟩
  have e2 : decide (31 < i) = false := by simpa using h1
  obtain ⟨n, rfl⟩ := Int.eq_ofNat_of_zero_le (show 0 ≤ i by omega)
  have hn : n ≤ 31 := by omega
  have hv := Lib.hid (bit_nat x n hn)
  obtain ⟨V, hV⟩ : ∃ V, V = bitI x n := ⟨_, rfl⟩
  rw [← hV]
  have HV := Lib.hid hV
  have HX := Lib.hid hx
  clear hV h0 h1 hx
  go_enter Try.func46, Try.ntmps46
  go_wp2_with fail
  go_loopw [0, 5] (fun xv iv wr => ∃ k : Nat, k ≤ n ∧ xv = .int .u32 (x / 2 ^ k) ∧ iv = .int .i64 k ∧ wr = w) (fun _ iv _ => n - (intOf iv).toNat)
  case atStart => exact ⟨0, Nat.zero_le _, by simp, rfl, rfl⟩
  case round =>
    obtain ⟨k, hk, rfl, rfl, rfl⟩ := hrel
    have hb := pow_bd x HX.out k
    have hh := half_pow x HX.out.1 k
    obtain ⟨X, hXe⟩ : ∃ X, X = x / 2 ^ k := ⟨_, rfl⟩
    rw [← hXe] at hb hh ⊢
    have HXe := Lib.hid hXe
    have HH := Lib.hid hh
    obtain ⟨b0, b1⟩ := hb
    clear hXe hh
    by_cases hlt : k < n
    · have wq : IntKind.i64.wrap ((k : Int) + 1) = (k : Int) + 1 := IntWalk.i64_in _ (by omega)
      go_wp2_with fail
      refine ⟨⟨k + 1, by omega, by rw [← HH.out], by simp, trivial⟩, by simp only [intOf]; omega⟩
    · have hkn : k = n := by omega
      have hres : X % 2 = V := by rw [HXe.out, HV.out, hv.out, hkn]
      have HR := Lib.hid hres
      clear hres hkn
      go_wp2_with fail
      go_ret
      exact ⟨by rw [← HR.out]; rfl, rfl⟩

theorem refSource_any (kind : Int) (i n : Nat) (hkind : kind = 0 ∨ kind = 1 ∨ kind = 3) (hi : i ≤ 31) (hn : n ≤ 255) (w : World) :
    Calls Try.prog 47 #[.int .i64 kind, .int .i64 i, .int .i64 n] w fun e w' => e = .returned (.int .i64 (srcI kind i n)) ∧ w' = w := by
  have w1 : IntKind.i64.wrap ((i : Int) - (n : Int)) = (i : Int) - (n : Int) := IntWalk.i64_in _ (by omega)
  have w2 : IntKind.i64.wrap ((i : Int) + (n : Int)) = (i : Int) + (n : Int) := IntWalk.i64_in _ (by omega)
  rcases hkind with rfl | rfl | rfl
  · go_enter Try.func47, Try.ntmps47
    go_wp2_with fail
    go_ret
    exact ⟨rfl, rfl⟩
  · by_cases h : (31 : Int) < (i : Int) + (n : Int)
    · have e1 : decide ((31 : Int) < (i : Int) + (n : Int)) = true := by simpa using h
      go_enter Try.func47, Try.ntmps47
      go_wp2_with fail
      go_ret
      exact ⟨rfl, rfl⟩
    · have e1 : decide ((31 : Int) < (i : Int) + (n : Int)) = false := by simpa using h
      go_enter Try.func47, Try.ntmps47
      go_wp2_with fail
      go_ret
      exact ⟨rfl, rfl⟩
  · go_enter Try.func47, Try.ntmps47
    go_wp2_with fail
    go_ret
    refine ⟨?_, rfl⟩
    show _ = Ending.returned (.int .i64 (((i : Int) + (n : Int)) % 32))
    rfl
end Go.Proofs.Ytmkencdkglbpbaa
