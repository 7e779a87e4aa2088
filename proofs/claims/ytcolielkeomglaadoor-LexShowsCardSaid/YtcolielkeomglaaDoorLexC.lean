/- lex: what parts tokens, and signs, by contracts. -/
import Derived.Test.YtcolielkeomglaaDoorLexB
set_option maxRecDepth 100000
namespace Go.Proofs.YtcolielkeomglaaDoor
open Go.RowKit

theorem skip_true : ∀ (l : List UInt8), (Lib.indexByte l 10 = -1 ∧ skipG true l = l.length) ∨ (∃ n : Nat, Lib.indexByte l 10 = n ∧ n < l.length ∧ skipG true l = n + skipG false (l.drop n) ∧ (n = 0 → l.head? = some 10))
  | [] => .inl ⟨rfl, rfl⟩
  | c :: r => by
    have ih := skip_true r
    by_cases hc : c = 10
    · subst hc
      refine .inr ⟨0, by simp [Lib.indexByte], by simp, ?_, fun _ => rfl⟩
      simp [skipG, isBlank]
    · have hb : (c == 10) = false := by simpa using hc
      have hb2 : (c != 10) = true := by simpa using hc
      simp only [Lib.indexByte, hb, skipG, hb2, Bool.false_eq_true, if_false]
      rcases ih with ⟨h1, h2⟩ | ⟨n, h1, h2, h3, _⟩
      · left
        rw [h1, h2]
        refine ⟨rfl, ?_⟩
        simp; omega
      · right
        refine ⟨n + 1, ?_, by simp; omega, ?_, fun h => by omega⟩
        · rw [h1, if_neg (by simp only [beq_iff_eq]; omega)]
          omega
        · rw [h3]
          simp only [List.drop_succ_cons]
          omega

theorem skip_remark {l : List UInt8} (h : [47, 47].isPrefixOf l = true) : skipG false l = skipG true l ∧ l.head? = some 47 := by
  match l, h with
  | [], h => simp at h
  | [a], h => simp [List.isPrefixOf] at h
  | a :: b :: r, h =>
    simp [List.isPrefixOf] at h
    obtain ⟨rfl, rfl⟩ := h
    simp [skipG, isBlank]

theorem skip_none {c : UInt8} {r : List UInt8} (hb : isBlank c = false) (h : [47, 47].isPrefixOf (c :: r) = false) : skipG false (c :: r) = 0 := by
  have hx : (c == 47 && r.head? == some 47) = false := by
    cases r with
    | nil => simp
    | cons a b =>
      by_cases h1 : c = 47
      · by_cases h2 : a = 47
        · subst h1; subst h2; simp [List.isPrefixOf] at h
        · simp [h2]
      · simp [h1]
  simp [skipG, hb, hx]

theorem skip_blank {c : UInt8} {r : List UInt8} (hb : isBlank c = true) : skipG false (c :: r) = 1 + skipG false r := by
  simp [skipG, hb]

theorem extract_end (s : ByteArray) (j : Nat) : (s.extract j s.size).data.toList = s.data.toList.drop j := by
  rw [Lib.extract_data, List.take_of_length_le (by simp)]

theorem prefix_at (s : ByteArray) (j : Nat) (w : World) (b : Bool) (h : [47, 47].isPrefixOf (s.data.toList.drop j) = b) :
    Calls Tryd.prog 24 #[.string (s.extract j s.size), .string ⟨#[47, 47]⟩] w fun e w' => e = .returned (.bool b) ∧ w' = w := by
  have h1 := Tryd.strings_HasPrefix (s.extract j s.size) ⟨#[47, 47]⟩ w
  have e : Lib.hasPrefix (s.extract j s.size).data.toList (ByteArray.mk #[47, 47]).data.toList = b := by rw [extract_end]; exact h
  rw [e] at h1
  exact h1
theorem line_at (s : ByteArray) (j : Nat) (w : World) (v : Int) (h : Lib.indexByte (s.data.toList.drop j) 10 = v) :
    Calls Tryd.prog 25 #[.string (s.extract j s.size), .int .u8 10] w fun e w' => e = .returned (.int .i64 v) ∧ w' = w := by
  have h1 := Tryd.strings_IndexByte (s.extract j s.size) 10 w
  rw [extract_end, show (10 : Int).toNat.toUInt8 = 10 from rfl, h] at h1
  exact h1

theorem skip_any (s : ByteArray) (k : Nat) (w : World) (hs : s.size ≤ 1000000) (hk : k ≤ s.size) :
    Calls Tryd.prog 14 #[.string s, .int .i64 k] w fun e w' => e = .returned (.int .i64 ((k + skipG false (s.data.toList.drop k) : Nat) : Int)) ∧ w' = w := by
  obtain ⟨goal, hgoal⟩ : ∃ g, g = k + skipG false (s.data.toList.drop k) := ⟨_, rfl⟩
  rw [← hgoal]
  have Hg := Lib.hid hgoal
  clear hgoal
  go_enter Tryd.func14, Tryd.ntmps14
  go_wp2
  go_loop [1] (fun i => ∃ j : Nat, j ≤ s.size ∧ i = .int .i64 j ∧ j + skipG false (s.data.toList.drop j) = goal) (fun i => s.size - (intOf i).toNat)
  case atStart => exact ⟨k, hk, rfl, Hg.out.symm⟩
  case round =>
    obtain ⟨j, hj, rfl, hrel⟩ := hrel
    by_cases hlt : j < s.size
    · have hlt' : j < s.data.toList.length := by simpa using hlt
      have hd : s.data.toList.drop j = s[j] :: s.data.toList.drop (j + 1) := drop_cons s.data.toList j hlt'
      by_cases hb : isBlank s[j] = true
      · have hn : j + 1 + skipG false (s.data.toList.drop (j + 1)) = goal := by
          rw [hd, skip_blank hb] at hrel
          omega
        have Hn := Lib.hid hn
        clear hn hrel hd
        go_wp2_with (go_at_call 23; refine (blank_any _ _).mono ?_; rintro e w' ⟨rfl, rfl⟩)
        go_round
        case rel => exact ⟨j + 1, by omega, by go_num, Hn.out⟩
        case measure => simp [intOf]; omega
      · have hb' : isBlank s[j] = false := by simpa using hb
        clear hb
        by_cases hp : [47, 47].isPrefixOf (s.data.toList.drop j) = true
        · obtain ⟨hr1, hr2⟩ := skip_remark hp
          have Hp := Lib.hid hp
          rcases skip_true (s.data.toList.drop j) with ⟨h1, h2⟩ | ⟨n, h1, h2, h3, h4⟩
          · have hz : (s.size : Int) = goal := by
              rw [hr1, h2] at hrel
              simp at hrel
              omega
            have H1 := Lib.hid h1
            have Hz := Lib.hid hz
            clear hrel hd hp hr1 hr2 h1 h2 hz
            go_wp2_with (first | (go_at_call 23; refine (blank_any _ _).mono ?_; rintro e w' ⟨rfl, rfl⟩) | (go_at_call 24; refine (prefix_at s j _ true Hp.out).mono ?_; rintro e w' ⟨rfl, rfl⟩) | (go_at_call 25; refine (line_at s j _ (-1) H1.out).mono ?_; rintro e w' ⟨rfl, rfl⟩))
            go_ret
            exact ⟨by rw [← Hz.out]; rfl, rfl⟩
          · have hn0 : n ≠ 0 := by
              intro e
              have h5 := h4 e
              rw [hr2] at h5
              simp at h5
            have hn : j + n + skipG false (s.data.toList.drop (j + n)) = goal := by
              rw [hr1, h3, List.drop_drop] at hrel
              omega
            have hle : j + n ≤ s.size := by simp at h2; omega
            have H1 := Lib.hid h1
            have Hn := Lib.hid hn
            clear hrel hd hp hr1 hr2 h1 h2 h3 h4 hn
            go_wp2_with (first | (go_at_call 23; refine (blank_any _ _).mono ?_; rintro e w' ⟨rfl, rfl⟩) | (go_at_call 24; refine (prefix_at s j _ true Hp.out).mono ?_; rintro e w' ⟨rfl, rfl⟩) | (go_at_call 25; refine (line_at s j _ n H1.out).mono ?_; rintro e w' ⟨rfl, rfl⟩))
            go_round
            case rel => exact ⟨j + n, by omega, by go_num, Hn.out⟩
            case measure => simp [intOf]; omega
        · have hp' : [47, 47].isPrefixOf (s.data.toList.drop j) = false := (Bool.not_eq_true _).mp hp
          have hz : (j : Int) = goal := by
            have hp2 := hp'
            rw [hd] at hrel hp2
            rw [skip_none hb' hp2] at hrel
            omega
          have Hp := Lib.hid hp'
          have Hz := Lib.hid hz
          clear hrel hd hp hp' hz
          go_wp2_with (first | (go_at_call 23; refine (blank_any _ _).mono ?_; rintro e w' ⟨rfl, rfl⟩) | (go_at_call 24; refine (prefix_at s j _ false Hp.out).mono ?_; rintro e w' ⟨rfl, rfl⟩))
          go_ret
          exact ⟨by rw [← Hz.out]; rfl, rfl⟩
    · obtain rfl : j = s.size := by omega
      have hz : (s.size : Int) = goal := by
        have : s.data.toList.drop s.size = [] := by simp
        rw [this] at hrel
        simp [skipG] at hrel
        omega
      have Hz := Lib.hid hz
      clear hrel hz
      go_wp2
      go_ret
      exact ⟨by rw [← Hz.out]; rfl, rfl⟩
end Go.Proofs.YtcolielkeomglaaDoor
