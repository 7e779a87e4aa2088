/- MemSizes: the walk. -/
import Derived.Test.YtpfeddfbmnimlaaAnchor06
set_option maxRecDepth 100000
namespace Go.Proofs.Ytpfeddfbmnimlaa
open Go.RowKit

theorem nat_even (a : Nat) (h : a < 70001) : a &&& 18446744073709551614 = a - a % 2 := by
  have h1 : (a &&& 18446744073709551614) / 2 = a / 2 &&& 18446744073709551614 / 2 := Nat.and_div_two
  have h2 : a / 2 &&& 18446744073709551614 / 2 = a / 2 := by
    have := Nat.and_two_pow_sub_one_eq_mod (a / 2) 63
    rw [show (2 : Nat) ^ 63 - 1 = 18446744073709551614 / 2 from by decide] at this
    rw [this]
    exact Nat.mod_eq_of_lt (by omega)
  have h3 : (a &&& 18446744073709551614) % 2 = 0 := by
    have : (a &&& 18446744073709551614).testBit 0 = false := by
      rw [Nat.testBit_and, show (18446744073709551614 : Nat).testBit 0 = false from by decide]
      simp
    rw [Nat.testBit_zero] at this
    have := of_decide_eq_false this
    omega
  omega
theorem i64_even (n : Int) (h0 : 0 ≤ n) (h1 : n < 70001) : bits .andNot .i64 n 1 = n - n % 2 := by
  obtain ⟨a, rfl⟩ := Int.eq_ofNat_of_zero_le h0
  show IntKind.i64.wrap ((BitVec.ofInt 64 (a : Int) &&& ~~~BitVec.ofInt 64 ((1 : Nat) : Int)).toNat : Int) = _
  rw [BitVec.toNat_and, BitVec.toNat_not, ofInt_u64 a (by omega), ofInt_u64 1 (by omega), IntKind.wrap_i64]
  rw [show 2 ^ 64 - 1 - 1 = 18446744073709551614 from by decide, nat_even a (by omega)]
  omega

/-- What is made is all nought. -/
theorem zeros_row {w : World} {B n : Nat} (h : w.ownsRow B 5 1 (.slice (some ⟨B, 0, none⟩) n n) n (madeCells (Value.int .u8 0).cells (n * 1)).toList) (hB : B < w.heap.size) : ByteRow w (some ⟨B, 0, none⟩) n (List.replicate n 0) := by
  refine ⟨by simp, fun x hx => ?_, .inr ⟨B, 0, rfl, hB, fun i hi => ?_⟩⟩
  · have := List.eq_of_mem_replicate hx
    omega
  · rw [Nat.zero_add, h.cellAt i (by omega), Nat.mul_one]
    show (madeCells #[Value.int .u8 0] n).toList[i]? = _
    rw [toList_madeCells_one, List.getElem?_replicate, if_pos hi]
    simp [hi]

theorem memSizes_walk (n : Int) (w : World) :
    Calls Try.prog 5 #[.int .i64 n] w fun e w' => e = .returned (.bool true) ∧ Below w.heap.size w w' := by
  by_cases hout : n < 0 ∨ 70000 < n
  · have hd : decide (n < 0) = true ∨ (decide (n < 0) = false ∧ decide (70000 < n) = true) := by
      by_cases h2 : n < 0
      · left; simpa using h2
      · right; exact ⟨by simpa using h2, by simp; omega⟩
    clear hout
    rcases hd with hd | ⟨hd1, hd2⟩
    all_goals
      go_enter Try.func5, Try.ntmps5
      go_wp2_with fail
      refine (anchor06 w).mono ?_
      rintro e w1 ⟨rfl, hb⟩
      go_wp2
      go_ret
      exact ⟨rfl, hb⟩
  · obtain ⟨m, rfl⟩ := Int.eq_ofNat_of_zero_le (show 0 ≤ n by omega)
    have hm : m ≤ 70000 := by omega
    clear hout
    obtain ⟨i0, hi, hz0, hz1, hz2⟩ := info_parts Try.infoU8
    have hby : i0.bytes * m ≤ 281474976710656 := by rw [hz2]; omega
    have Hby := Lib.hid hby
    clear hby
    by_cases hbig : 65536 < m
    · go_enter Try.func5, Try.ntmps5
      go_wp2_with fail
      refine (anchor06 w).mono ?_
      rintro e w1 ⟨rfl, hb⟩
      go_wp2_with (at_make; refine wpList_make_full _ rfl (.tmp 16) (.tmp 16) 22 rfl w1.heap.size 5 i0 (.int .u8 0) 1 Try.underlying22 hi hz0 hz1 .i64 .i64 m m m rfl rfl rfl rfl Hby.out (by unfold maxLen; omega) (Nat.le_refl _) ?_; intro w2 hown hgrow)
      refine (new_big _ m m w2 hbig hm).mono ?_
      rintro e w3 ⟨rfl, rfl⟩
      go_wp2
      go_ret
      exact ⟨rfl, hb.grown hgrow hb.size (fun k e => by cases e)⟩
    · go_enter Try.func5, Try.ntmps5
      go_wp2_with fail
      refine (anchor06 w).mono ?_
      rintro e w1 ⟨rfl, hb⟩
      go_wp2_with (at_make; refine wpList_make_full _ rfl (.tmp 16) (.tmp 16) 22 rfl w1.heap.size 5 i0 (.int .u8 0) 1 Try.underlying22 hi hz0 hz1 .i64 .i64 m m m rfl rfl rfl rfl Hby.out (by unfold maxLen; omega) (Nat.le_refl _) ?_; intro w2 hown hgrow)
      have hb2 := hb.grown hgrow hb.size (fun k e => by cases e)
      refine (new_any _ m m _ w2 (zeros_row hown (hown.lt _ rfl).2) (by omega) (fun e => by cases e)).mono ?_
      rintro e w3 ⟨b, fv, rg, rfl, hmem, hb3⟩
      have hb4 := hb2.trans (hb3.mono hb2.size)
      have he := i64_even m (by omega) (by omega)
      have He := Lib.hid he
      clear he hown hgrow
      go_wp2_with fail
      have hz : halfV (List.replicate m 0) ((134217728 + bits BinOp.andNot IntKind.i64 (m : Int) 1) % 4294967296) = (0, 61) := by
        rw [He.out]
        simp only [halfV, List.length_replicate]
        rw [if_neg (by omega), if_neg (by omega)]
      have Hz := Lib.hid hz
      clear hz
      refine (half_any hmem _ (by omega) (by omega)).mono ?_
      rintro e w4 ⟨rfl, hd⟩
      rw [Hz.out]
      have hmem4 := hmem.drawn hd
      have hb5 := below_drawn hb4 hd
      go_wp2_with fail
      refine (flash_any hmem4).mono ?_
      rintro e w5 ⟨v, rfl, hown, hb6⟩
      have hlen : (List.replicate m (0 : Int)).length = m := by simp
      rw [hlen] at hown
      obtain ⟨x, c, rfl, -⟩ := flash_shape hown
      have hb7 := hb5.trans (hb6.mono hb5.size)
      clear hown hlen
      go_wp2
      go_ret
      exact ⟨rfl, hb7⟩
end Go.Proofs.Ytpfeddfbmnimlaa
