/- lex: bytes, words and numbers, by contracts. -/
import Derived.WalkKit
import Derived.WalkSpells
import Derived.WalkLawsBesides
import Derived.Lib.Hide
import Derived.Deep.QuietTactic
import Derived.BigQuiet
import Derived.Test.YtcolielkeomglaaDoorShelf
import Derived.Test.YtcolielkeomglaaDoorLexSpec
set_option maxRecDepth 100000
namespace Go.Proofs.YtcolielkeomglaaDoor
open Go.RowKit

/-- Nothing but draws. -/
def Drawn (w w' : World) : Prop := ∃ n, w' = w.drewN n
theorem Drawn.refl (w : World) : Drawn w w := ⟨0, rfl⟩
theorem Drawn.more {w w' : World} (h : Drawn w w') (n : Nat) : Drawn w (w'.drewN n) := by
  obtain ⟨m, rfl⟩ := h
  exact ⟨m + n, by simp⟩
theorem Drawn.trans {a b c : World} (h : Drawn a b) (k : Drawn b c) : Drawn a c := by
  obtain ⟨m, rfl⟩ := k
  exact h.more m
theorem below_drawn {B : Nat} {a w w' : World} (h : Below B a w) (hd : Drawn w w') : Below B a w' := by
  obtain ⟨n, rfl⟩ := hd
  exact h.trans ⟨rfl, rfl, rfl, Nat.le_refl _, fun _ _ => rfl⟩

theorem u8_le (a b : UInt8) : (a ≤ b) ↔ (a.toNat : Int) ≤ (b.toNat : Int) := by rw [UInt8.le_iff_toNat_le]; omega
theorem u8_eq (a b : UInt8) : (a == b) = ((a.toNat : Int) == (b.toNat : Int)) := by
  by_cases h : a = b
  · simp [h]
  · have : a.toNat ≠ b.toNat := fun e => h (UInt8.toNat_inj.1 e)
    rw [beq_eq_false_iff_ne.2 h, beq_eq_false_iff_ne.2 (by omega)]

theorem ret_bool {a b : Bool} (h : a = b) : Ending.returned (.bool a) = .returned (.bool b) := by rw [h]

theorem isLetter_int (c : UInt8) : isLetter c = ((decide ((97 : Int) ≤ c.toNat) && decide ((c.toNat : Int) ≤ 122)) || ((c.toNat : Int) == 95)) := by
  unfold isLetter
  rw [u8_eq]
  simp only [u8_le]
  rfl
theorem isDigit_int (c : UInt8) : isDigit c = (decide ((48 : Int) ≤ c.toNat) && decide ((c.toNat : Int) ≤ 57)) := by
  unfold isDigit
  simp only [u8_le]
  rfl
theorem isBlank_int (c : UInt8) : isBlank c = ((((c.toNat : Int) == 32 || (c.toNat : Int) == 9) || (c.toNat : Int) == 13) || (c.toNat : Int) == 10) := by
  unfold isBlank
  simp only [u8_eq]
  rfl

theorem letter_any (c : UInt8) (w : World) : Calls Tryd.prog 11 #[.int .u8 c.toNat] w fun e w' => e = .returned (.bool (isLetter c)) ∧ w' = w := by
  have E := Lib.hid (isLetter_int c)
  go_enter Tryd.func11, Tryd.ntmps11
  go_wp2
  all_goals
    go_ret
    refine ⟨ret_bool ?_, rfl⟩
    rw [E.out]
    try first | (simp [*]; done) | (simp [*]; omega)
theorem digit_any (c : UInt8) (w : World) : Calls Tryd.prog 12 #[.int .u8 c.toNat] w fun e w' => e = .returned (.bool (isDigit c)) ∧ w' = w := by
  have E := Lib.hid (isDigit_int c)
  go_enter Tryd.func12, Tryd.ntmps12
  go_wp2
  all_goals
    go_ret
    refine ⟨ret_bool ?_, rfl⟩
    rw [E.out]
    try first | (simp [*]; done) | (simp [*]; omega)
theorem blank_any (c : UInt8) (w : World) : Calls Tryd.prog 23 #[.int .u8 c.toNat] w fun e w' => e = .returned (.bool (isBlank c)) ∧ w' = w := by
  have E := Lib.hid (isBlank_int c)
  go_enter Tryd.func23, Tryd.ntmps23
  go_wp2
  all_goals
    go_ret
    refine ⟨ret_bool ?_, rfl⟩
    rw [E.out]
    try first | (simp [*]; done) | (simp [*]; omega)
theorem rletter_any (c : UInt8) (w : World) : Calls Tryd.prog 17 #[.int .u8 c.toNat] w fun e w' => e = .returned (.bool (isLetter c)) ∧ w' = w := by
  have E := Lib.hid (isLetter_int c)
  go_enter Tryd.func17, Tryd.ntmps17
  go_wp2
  all_goals
    go_ret
    refine ⟨ret_bool ?_, rfl⟩
    rw [E.out]
    try first | (simp [*]; done) | (simp [*]; omega)
theorem rdigit_any (c : UInt8) (w : World) : Calls Tryd.prog 18 #[.int .u8 c.toNat] w fun e w' => e = .returned (.bool (isDigit c)) ∧ w' = w := by
  have E := Lib.hid (isDigit_int c)
  go_enter Tryd.func18, Tryd.ntmps18
  go_wp2
  all_goals
    go_ret
    refine ⟨ret_bool ?_, rfl⟩
    rw [E.out]
    try first | (simp [*]; done) | (simp [*]; omega)

/-- The first bytes, as long as they are of a word. -/
theorem wordN_at (l : List UInt8) (k : Nat) (hk : k < l.length) (h : k ≤ wordN l) : (isWord l[k] = true → k + 1 ≤ wordN l) ∧ (isWord l[k] = false → wordN l = k) := by
  induction l generalizing k with
  | nil => simp at hk
  | cons c r ih =>
    cases k with
    | zero =>
      simp only [List.getElem_cons_zero]
      refine ⟨fun h1 => by rw [wordN_cons h1]; omega, fun h1 => by simp [wordN, h1]⟩
    | succ k =>
      by_cases hc : isWord c = true
      · rw [wordN_cons hc] at h ⊢
        have := ih k (by simpa using hk) (by omega)
        simp only [List.getElem_cons_succ]
        exact ⟨fun h1 => by have := this.1 h1; omega, fun h1 => by have := this.2 h1; omega⟩
      · have h0 : wordN (c :: r) = 0 := by simp [wordN, hc]
        omega

theorem extract_take (s : ByteArray) (k : Nat) : s.extract 0 k = ⟨(s.data.toList.take k).toArray⟩ := by
  rw [Lib.extract_eq]
  simp
theorem extract_drop (s : ByteArray) (k : Nat) : s.extract k s.size = ⟨(s.data.toList.drop k).toArray⟩ := by
  rw [Lib.extract_eq, List.take_of_length_le (by simp)]
theorem all_take (s : ByteArray) : s = ⟨(s.data.toList.take s.size).toArray⟩ := by
  have : s.data.toList.take s.size = s.data.toList := List.take_of_length_le (by simp)
  rw [this]

theorem word_any (s : ByteArray) (w : World) (hs : s.size ≤ 1000000) : Calls Tryd.prog 26 #[.string s] w fun e w' => e = .returned (.string ⟨(s.data.toList.take (wordN s.data.toList)).toArray⟩) ∧ w' = w := by
  go_enter Tryd.func26, Tryd.ntmps26
  go_wp2
  go_loop [6] (fun i => ∃ k : Nat, k ≤ s.size ∧ k ≤ wordN s.data.toList ∧ i = .int .i64 k) (fun i => s.size - (intOf i).toNat)
  case atStart => exact ⟨0, Nat.zero_le _, Nat.zero_le _, rfl⟩
  case round =>
    obtain ⟨k, hk, hw, rfl⟩ := hrel
    by_cases hlt : k < s.size
    · have hc : s.data.toList[k]'(by simpa using hlt) = s[k] := rfl
      have hwa := wordN_at s.data.toList k (by simpa using hlt) hw
      rw [hc] at hwa
      have HW := Lib.hid hwa
      clear hwa hc
      by_cases h1 : isLetter s[k] = true
      · have h3 : isWord s[k] = true := isWord_letter h1
        have H3 := Lib.hid h3
        clear h3
        go_wp2_with (go_at_call 11; refine (letter_any _ _).mono ?_; rintro e w' ⟨rfl, rfl⟩)
        go_round
        case rel => exact ⟨k + 1, by omega, HW.out.1 H3.out, by go_num⟩
        case measure => simp [intOf]; omega
      · have h1' : isLetter s[k] = false := by simpa using h1
        clear h1
        by_cases h2 : isDigit s[k] = true
        · have h3 : isWord s[k] = true := isWord_digit h2
          have H3 := Lib.hid h3
          clear h3
          go_wp2_with (first | (go_at_call 11; refine (letter_any _ _).mono ?_; rintro e w' ⟨rfl, rfl⟩) | (go_at_call 12; refine (digit_any _ _).mono ?_; rintro e w' ⟨rfl, rfl⟩))
          go_round
          case rel => exact ⟨k + 1, by omega, HW.out.1 H3.out, by go_num⟩
          case measure => simp [intOf]; omega
        · have h2' : isDigit s[k] = false := by simpa using h2
          have h3 : isWord s[k] = false := by simp [isWord, h1', h2']
          have H3 := Lib.hid h3
          clear h3 h2
          go_wp2_with (first | (go_at_call 11; refine (letter_any _ _).mono ?_; rintro e w' ⟨rfl, rfl⟩) | (go_at_call 12; refine (digit_any _ _).mono ?_; rintro e w' ⟨rfl, rfl⟩))
          have H4 := HW.out.2 H3.out
          go_ret
          refine ⟨?_, rfl⟩
          rw [H4]
          exact congrArg (fun x => Ending.returned (Value.string x)) (extract_take _ _)
    · have he : wordN s.data.toList = k := by have := wordN_le s.data.toList; simp at this; omega
      have hk' : k = s.size := by omega
      have H := Lib.hid he
      have Hk := Lib.hid hk'
      clear he hk'
      go_wp2
      go_ret
      refine ⟨?_, rfl⟩
      rw [H.out, Hk.out]
      exact congrArg (fun x => Ending.returned (Value.string x)) (all_take s)
end Go.Proofs.YtcolielkeomglaaDoor
