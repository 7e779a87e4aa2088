/- Shifts, bit by bit: plain. -/
import Derived.Test.YtmkencdkglbpbaaVopX
set_option maxRecDepth 100000
namespace Go.Proofs.Ytmkencdkglbpbaa
open Go.RowKit

/-- A bit of a word; 0, if there is none. -/
def bitI (x i : Int) : Int := if i < 0 ∨ 31 < i then 0 else x / 2 ^ i.toNat % 2
/-- Which bit of a word comes to a place. -/
def srcI (kind i n : Int) : Int := if kind = 0 then i - n else if kind = 3 then (i + n) % 32 else i + n
/-- What the document puts together, from the top bit on. -/
def outV (kind x n : Int) : Nat → Int
  | 0 => 0
  | j + 1 => outV kind x n j * 2 + bitI x (srcI kind (31 - j) n)

theorem bitI_bd (x i : Int) : 0 ≤ bitI x i ∧ bitI x i ≤ 1 := by
  unfold bitI; split
  · omega
  · have := Int.emod_nonneg (x / 2 ^ i.toNat) (show (2 : Int) ≠ 0 by omega)
    have := Int.emod_lt_of_pos (x / 2 ^ i.toNat) (show (0 : Int) < 2 by omega)
    omega
theorem outV_bd (kind x n : Int) : ∀ j, 0 ≤ outV kind x n j ∧ outV kind x n j < 2 ^ j
  | 0 => by simp [outV]
  | j + 1 => by
    have ih := outV_bd kind x n j
    have hb := bitI_bd x (srcI kind (31 - j) n)
    rw [outV, Int.pow_succ]
    omega
theorem bit_nat (x : Int) (k : Nat) (hk : k ≤ 31) : bitI x (k : Int) = x / 2 ^ k % 2 := by
  unfold bitI
  rw [if_neg (by omega)]; rfl
theorem cases32 {P : Nat → Prop} (h : ∀ k : Fin 32, P k.1) (k : Nat) (hk : k ≤ 31) : P k := h ⟨k, by omega⟩
/-- One step, bit by bit. -/
theorem step_0 (y : Int) (k : Nat) (hk : k ≤ 31) : stepV 0 y / 2 ^ k % 2 = bitI y ((k : Int) - 1) := by
  have e : stepV 0 y = y * 2 % 4294967296 := rfl
  rw [e]
  by_cases h0 : k = 0
  · subst h0
    rw [bitI, if_pos (by omega)]
    omega
  · obtain ⟨m, rfl⟩ : ∃ m, k = m + 1 := ⟨k - 1, by omega⟩
    rw [show ((m + 1 : Nat) : Int) - 1 = (m : Int) from by omega, bit_nat y m (by omega)]
    have hm : m ≤ 30 := by omega
    rcases (show m = 0 ∨ m = 1 ∨ m = 2 ∨ m = 3 ∨ m = 4 ∨ m = 5 ∨ m = 6 ∨ m = 7 ∨ m = 8 ∨ m = 9 ∨ m = 10 ∨ m = 11 ∨ m = 12 ∨ m = 13 ∨ m = 14 ∨ m = 15 ∨ m = 16 ∨ m = 17 ∨ m = 18 ∨ m = 19 ∨ m = 20 ∨ m = 21 ∨ m = 22 ∨ m = 23 ∨ m = 24 ∨ m = 25 ∨ m = 26 ∨ m = 27 ∨ m = 28 ∨ m = 29 ∨ m = 30 by omega) with rfl | rfl | rfl | rfl | rfl | rfl | rfl | rfl | rfl | rfl | rfl | rfl | rfl | rfl | rfl | rfl | rfl | rfl | rfl | rfl | rfl | rfl | rfl | rfl | rfl | rfl | rfl | rfl | rfl | rfl | rfl <;> (simp only [Nat.reduceAdd, Int.reducePow]; omega)
theorem step_1 (y : Int) (hy : 0 ≤ y ∧ y < 4294967296) (k : Nat) (hk : k ≤ 31) : stepV 1 y / 2 ^ k % 2 = bitI y ((k : Int) + 1) := by
  have e : stepV 1 y = y / 2 := rfl
  rw [e]
  by_cases h0 : k = 31
  · subst h0
    rw [bitI, if_pos (by omega)]
    simp only [Int.reducePow]
    omega
  · rw [show (k : Int) + 1 = ((k + 1 : Nat) : Int) from by omega, bit_nat y (k + 1) (by omega), Int.pow_succ, Int.mul_comm, ← Int.ediv_ediv_of_nonneg (by omega)]
theorem step_3 (y : Int) (hy : 0 ≤ y ∧ y < 4294967296) (k : Nat) (hk : k ≤ 31) : stepV 3 y / 2 ^ k % 2 = bitI y (((k : Int) + 1) % 32) := by
  have e : stepV 3 y = y / 2 + y % 2 * 2147483648 := rfl
  rw [e]
  by_cases h0 : k = 31
  · subst h0
    rw [show (((31 : Nat) : Int) + 1) % 32 = ((0 : Nat) : Int) from rfl, bit_nat y 0 (by omega)]
    simp only [Int.reducePow]
    rcases (show y % 2 = 0 ∨ y % 2 = 1 by omega) with hb | hb <;> rw [hb] <;> omega
  · rw [show ((k : Int) + 1) % 32 = ((k + 1 : Nat) : Int) from by omega, bit_nat y (k + 1) (by omega)]
    have hk' : k ≤ 30 := by omega
    rcases (show k = 0 ∨ k = 1 ∨ k = 2 ∨ k = 3 ∨ k = 4 ∨ k = 5 ∨ k = 6 ∨ k = 7 ∨ k = 8 ∨ k = 9 ∨ k = 10 ∨ k = 11 ∨ k = 12 ∨ k = 13 ∨ k = 14 ∨ k = 15 ∨ k = 16 ∨ k = 17 ∨ k = 18 ∨ k = 19 ∨ k = 20 ∨ k = 21 ∨ k = 22 ∨ k = 23 ∨ k = 24 ∨ k = 25 ∨ k = 26 ∨ k = 27 ∨ k = 28 ∨ k = 29 ∨ k = 30 by omega) with rfl | rfl | rfl | rfl | rfl | rfl | rfl | rfl | rfl | rfl | rfl | rfl | rfl | rfl | rfl | rfl | rfl | rfl | rfl | rfl | rfl | rfl | rfl | rfl | rfl | rfl | rfl | rfl | rfl | rfl | rfl <;> (simp only [Nat.reduceAdd, Int.reducePow]; rcases (show y % 2 = 0 ∨ y % 2 = 1 by omega) with hb | hb <;> rw [hb] <;> omega)

/-- A shifted word's bits are the word's, as the document says. -/
theorem iter_bits (kind x : Int) (hkind : kind = 0 ∨ kind = 1 ∨ kind = 3) (hx : 0 ≤ x ∧ x < 4294967296) : ∀ (n k : Nat), k ≤ 31 → iterV kind x n / 2 ^ k % 2 = bitI x (srcI kind k n)
  | 0, k, hk => by
    have : srcI kind k ((0 : Nat) : Int) = (k : Int) := by rcases hkind with rfl | rfl | rfl <;> simp [srcI] <;> omega
    rw [this, bit_nat x k hk]; rfl
  | n + 1, k, hk => by
    have hb := iterV_bd kind x hx n
    have ih := iter_bits kind x hkind hx n
    change stepV kind (iterV kind x n) / 2 ^ k % 2 = _
    generalize iterV kind x n = y at hb ih
    rcases hkind with rfl | rfl | rfl
    · rw [step_0 y k hk]
      have e : srcI 0 (k : Int) ((n + 1 : Nat) : Int) = (k : Int) - 1 - n := by simp only [srcI, if_true]; omega
      rw [e]
      by_cases h0 : k = 0
      · subst h0
        rw [bitI, if_pos (by omega), bitI, if_pos (by omega)]
      · obtain ⟨m, rfl⟩ : ∃ m, k = m + 1 := ⟨k - 1, by omega⟩
        rw [show ((m + 1 : Nat) : Int) - 1 = (m : Int) from by omega, bit_nat y m (by omega), ih m (by omega)]
        rfl
    · rw [step_1 y hb k hk]
      have e : ∀ i : Int, ∀ m : Int, srcI 1 i m = i + m := fun i m => by simp [srcI]
      rw [e]
      by_cases h0 : k = 31
      · subst h0
        rw [bitI, if_pos (by omega), bitI, if_pos (by omega)]
      · rw [show (k : Int) + 1 = ((k + 1 : Nat) : Int) from by omega, bit_nat y (k + 1) (by omega), ih (k + 1) (by omega), e]
        congr 1; omega
    · rw [step_3 y hb k hk]
      have e : ∀ i : Int, ∀ m : Int, srcI 3 i m = (i + m) % 32 := fun i m => by simp [srcI]
      rw [e]
      obtain ⟨m, hm, hm2⟩ : ∃ m : Nat, ((k : Int) + 1) % 32 = (m : Int) ∧ m ≤ 31 := ⟨(((k : Int) + 1) % 32).toNat, by omega, by omega⟩
      rw [hm, bit_nat y m hm2, ih m hm2, e]
      congr 1; omega
/-- What the document puts together is the shifted word. -/
theorem out_iter (kind x : Int) (hkind : kind = 0 ∨ kind = 1 ∨ kind = 3) (hx : 0 ≤ x ∧ x < 4294967296) (n : Nat) : outV kind x n 32 = iterV kind x n := by
  have hb := iterV_bd kind x hx n
  have key : ∀ j, j ≤ 32 → outV kind x n j = iterV kind x n / 2 ^ (32 - j) := by
    intro j
    induction j with
    | zero => intro _; simp only [outV, Nat.sub_zero, Int.reducePow]; omega
    | succ j ih =>
      intro hj
      have ih := ih (by omega)
      have h1 := iter_bits kind x hkind hx n (31 - j) (by omega)
      rw [outV, ih, show (31 : Int) - (j : Int) = ((31 - j : Nat) : Int) from by omega, ← h1]
      rw [show 32 - (j + 1) = 31 - j from by omega, show 32 - j = (31 - j) + 1 from by omega, Int.pow_succ, ← Int.ediv_ediv_of_nonneg (Int.pow_nonneg (by omega))]
      omega
  rw [key 32 (by omega)]; simp
end Go.Proofs.Ytmkencdkglbpbaa
