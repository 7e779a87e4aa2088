/- The document's Shift by its contract. -/
import Derived.Test.YtmkencdkglbpbaaShiftW
set_option maxRecDepth 100000
set_option linter.unusedVariables false
namespace Go.Proofs.Ytmkencdkglbpbaa
open Go.RowKit

theorem two_pow_le (j : Nat) (hj : j ≤ 31) : (2 : Int) ^ j ≤ 2147483648 := by
  have h := Nat.pow_le_pow_right (show 0 < 2 by omega) hj
  have e : ((2 ^ j : Nat) : Int) = (2 : Int) ^ j := by simp
  have e2 : (2 : Nat) ^ 31 = 2147483648 := rfl
  omega

set_option maxHeartbeats 2000000 in
theorem refShift_any (kind x : Int) (n : Nat) (hkind : kind = 0 ∨ kind = 1 ∨ kind = 3) (hn : n ≤ 255) (hx : 0 ≤ x ∧ x < 4294967296) (w : World) :
    Calls Try.prog 44 #[.int .i64 kind, .int .u32 x, .int .i64 n, .int .u32 0] w fun e w' => ∃ c, e = .returned (.tuple #[.int .u32 (iterV kind x n), .int .u32 c]) ∧ w' = w := by
  have HK := Lib.hid hkind
  have HX := Lib.hid hx
  have ho := out_iter kind x hkind hx n
  generalize iterV kind x n = V at ho ⊢
  have HO := Lib.hid ho
  clear hkind hx ho
  go_enter Try.func44, Try.ntmps44
  go_wp2_with fail
  go_loopw [10, 11] (fun ov av wr => ∃ j : Nat, j ≤ 32 ∧ ov = .int .u32 (outV kind x n j) ∧ av = .int .i64 (31 - (j : Int)) ∧ wr = w) (fun _ av _ => (intOf av + 1).toNat)
  case atStart => exact ⟨0, by omega, rfl, by simp, rfl⟩
  case round =>
    obtain ⟨j, hj, rfl, rfl, rfl⟩ := hrel
    by_cases hlt : j < 32
    · obtain ⟨i, hi, hi31⟩ : ∃ i : Nat, (31 : Int) - (j : Int) = (i : Int) ∧ i ≤ 31 := ⟨31 - j, by omega, by omega⟩
      have hob := outV_bd kind x n j
      have hpw := two_pow_le j (by omega)
      have hbb := bitI_bd x (srcI kind i n)
      have hstep : outV kind x n (j + 1) = outV kind x n j * 2 + bitI x (srcI kind i n) := by rw [outV, hi]
      rw [hi]
      have HS := Lib.hid (refSource_any kind i n HK.out hi31 hn wr)
      have HBt := Lib.hid (refBit_any x (srcI kind i n) HX.out wr)
      generalize srcI kind i n = sv at HS HBt hbb hstep
      generalize bitI x sv = bv at HBt hbb hstep
      generalize outV kind x n j = ov at hob hstep ⊢
      have w1 : IntKind.u32.wrap (ov * 2) = ov * 2 := by rw [IntKind.wrap_u32]; omega
      have w2 : IntKind.u32.wrap (ov * 2 + bv) = ov * 2 + bv := by rw [IntKind.wrap_u32]; omega
      have m1 : ov * 2 % 4294967296 = ov * 2 := by omega
      have m2 : (ov * 2 + bv) % 4294967296 = ov * 2 + bv := by omega
      have w3 : IntKind.i64.wrap ((i : Int) - 1) = (i : Int) - 1 := IntWalk.i64_in _ (by omega)
      have g1 : (0 : Int) ≤ (i : Int) := by omega
      have HST := Lib.hid hstep
      have HI := Lib.hid hi
      clear hob hpw hbb hstep hi
      go_wp2_with fail
      refine HS.out.mono ?_
      rintro e w2' ⟨rfl, rfl⟩
      go_wp2_with fail
      refine HBt.out.mono ?_
      rintro e w3' ⟨rfl, rfl⟩
      go_wp2_with fail
      refine ⟨⟨j + 1, by omega, by rw [HST.out], ?_, trivial⟩, ?_⟩
      · have := HI.out
        rw [show (i : Int) - 1 = 31 - ((j + 1 : Nat) : Int) from by omega]
      · simp only [intOf]; omega
    · have hj32 : j = 32 := by omega
      subst hj32
      rw [HO.out]
      clear hlt hj
      by_cases hn0 : n = 0
      · have e1 : ((n : Int) == 0) = true := by simp; omega
        clear hn0
        go_wp2_with fail
        go_ret2
        exact ⟨_, rfl, rfl⟩
      · have e1 : ((n : Int) == 0) = false := by simp; omega
        by_cases hk0 : kind = 0
        · have e2 : (kind == 0) = true := by simpa using hk0
          have HBt := Lib.hid (fun i => refBit_any x i HX.out wr)
          clear hk0 hn0
          go_wp2_with fail
          refine (HBt.out _).mono ?_
          rintro e w3' ⟨rfl, rfl⟩
          go_wp2_with fail
          go_ret2
          exact ⟨_, rfl, rfl⟩
        · have e2 : (kind == 0) = false := by simpa using hk0
          obtain ⟨m, hm⟩ : ∃ m : Nat, (n : Int) - 1 = (m : Int) := ⟨n - 1, by omega⟩
          have w3 : IntKind.i64.wrap ((n : Int) - 1) = (m : Int) := by rw [hm]; exact IntWalk.i64_in _ (by omega)
          have HBt := Lib.hid (fun i => refBit_any x i HX.out wr)
          have HS := Lib.hid (refSource_any kind 0 m HK.out (by omega) (by omega) wr)
          clear hk0 hn0 hm
          go_wp2_with fail
          refine HS.out.mono ?_
          rintro e w2' ⟨rfl, rfl⟩
          go_wp2_with fail
          refine (HBt.out _).mono ?_
          rintro e w3' ⟨rfl, rfl⟩
          go_wp2_with fail
          go_ret2
          exact ⟨_, rfl, rfl⟩

theorem refShifted_any (kind x y : Int) (hk : kind = 0 ∨ kind = 1 ∨ kind = 3) (hx : 0 ≤ x ∧ x < 4294967296) (hy : 0 ≤ y ∧ y < 4294967296) (w : World) :
    Calls Try.prog 40 #[.int .i64 kind, .int .u32 x, .int .u32 y] w fun e w' => e = .returned (.int .u64 (iterV kind x (y % 256).toNat)) ∧ w' = w := by
  obtain ⟨n, hn⟩ : ∃ n : Nat, y % 256 = (n : Int) := ⟨(y % 256).toNat, by omega⟩
  have hn2 : n ≤ 255 := by omega
  have hv := iterV_bd kind x hx n
  rw [hn, show ((n : Int)).toNat = n from rfl]
  have HC := Lib.hid (refShift_any kind x n hk hn2 hx w)
  generalize iterV kind x n = V at hv HC ⊢
  obtain ⟨v0, v1⟩ := hv
  obtain ⟨y0, y1⟩ := hy
  have e2 : IntKind.i64.wrap (n : Int) = (n : Int) := IntWalk.i64_in _ (by omega)
  have hlo : (0 : Int) ≤ (n : Int) := by omega
  have hhi : (n : Int) ≤ 255 := by omega
  have e3 : IntKind.u64.wrap V = V := by rw [IntKind.wrap_u64]; omega
  clear hk
  go_enter Try.func40, Try.ntmps40
  go_wp2_with fail
  refine HC.out.mono ?_
  rintro e w2 ⟨c, rfl, rfl⟩
  go_wp2_with fail
  go_ret
  exact ⟨rfl, rfl⟩
theorem refBool_any (b : Bool) (w : World) : Calls Try.prog 26 #[.bool b] w fun e w' => e = .returned (.int .u64 (truthV b)) ∧ w' = w := by
  cases b
  · go_enter Try.func26, Try.ntmps26
    go_wp2
    go_ret
    exact ⟨rfl, rfl⟩
  · go_enter Try.func26, Try.ntmps26
    go_wp2
    go_ret
    exact ⟨rfl, rfl⟩
end Go.Proofs.Ytmkencdkglbpbaa
