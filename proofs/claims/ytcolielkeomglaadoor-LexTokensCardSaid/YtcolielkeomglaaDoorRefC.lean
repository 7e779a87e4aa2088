/- The document's answer of chapter 09: number, by its contract. -/
import Derived.Test.YtcolielkeomglaaDoorRefA
set_option maxRecDepth 100000
namespace Go.Proofs.YtcolielkeomglaaDoor
open Go.RowKit

theorem ret_num {k : IntKind} {a b : Int} (h : a = b) : Value.int k a = Value.int k b := by rw [h]
theorem digit_bd {c : UInt8} (h : isDigit c = true) : (48 : Int) ≤ c.toNat ∧ (c.toNat : Int) ≤ 57 := by
  rw [isDigit_int] at h
  simpa using h
theorem digit_not {c : UInt8} (h : isDigit c = false) : (48 ≤ c && c ≤ 57) = false := h
theorem digOf_digit (b : Nat) {c : UInt8} (h : isDigit c = true) : digOf b c = some (c.toNat - 48) := by
  have h2 : (48 ≤ c && c ≤ 57) = true := h
  simp only [digOf, h2, if_true]
theorem digOf_ten {c : UInt8} (h : isDigit c = false) : digOf 10 c = none := by
  have h2 : (48 ≤ c && c ≤ 57) = false := h
  simp [digOf, h2]
theorem digOf_hex {c : UInt8} (h : isDigit c = false) (h3 : (97 : Int) ≤ c.toNat) (h4 : (c.toNat : Int) ≤ 102) : digOf 16 c = some (c.toNat - 87) := by
  have h2 : (48 ≤ c && c ≤ 57) = false := h
  have h5 : (97 ≤ c && c ≤ 102) = true := by
    simp only [Bool.and_eq_true, decide_eq_true_eq]
    exact ⟨(u8_le 97 c).2 h3, (u8_le c 102).2 h4⟩
  simp [digOf, h2, h5]
theorem digOf_none {c : UInt8} (h : isDigit c = false) (h3 : ¬ ((97 : Int) ≤ c.toNat ∧ (c.toNat : Int) ≤ 102)) : digOf 16 c = none := by
  have h2 : (48 ≤ c && c ≤ 57) = false := h
  have h5 : (97 ≤ c && c ≤ 102) = false := by
    rw [← Bool.not_eq_true, Bool.and_eq_true, decide_eq_true_eq, decide_eq_true_eq]
    intro h6
    exact h3 ⟨(u8_le 97 c).1 h6.1, (u8_le c 102).1 h6.2⟩
  simp [digOf, h2, h5]

set_option maxHeartbeats 4000000 in
theorem number_hex (s : ByteArray) (w : World) (hs : s.size ≤ 1000000) (h2 : 2 < s.size) (e0 : s[0] = 48) (e1 : s[1] = 120) (goal : Option Nat) (hg : valGo 16 0 (s.data.toList.drop 2) = goal) :
    Calls Tryd.prog 19 #[.string s] w fun e w' => e = .returned (valV goal) ∧ w' = w := by
  obtain ⟨a1, a2⟩ : ((((s[0].toNat : Nat) : Int) == 48) = true ∧ (((s[0].toNat : Nat) : Int) != 48) = false) := u8_is s[0] 48 e0 (by decide)
  obtain ⟨b1, b2⟩ : ((((s[1].toNat : Nat) : Int) == 120) = true ∧ (((s[1].toNat : Nat) : Int) != 120) = false) := u8_is s[1] 120 e1 (by decide)
  have Hg := Lib.hid hg
  have hne : ((2 : Int) == s.size) = false := by simp; omega
  clear e0 e1 hg a2 b2
  go_enter Tryd.func19, Tryd.ntmps19
  go_wp2
  go_loop [5, 6] (fun i n => ∃ k m : Nat, k ≤ s.size ∧ m ≤ 4294967295 ∧ i = .int .i64 k ∧ n = .int .u64 m ∧ Hid (valGo 16 m (s.data.toList.drop k) = goal)) (fun i _ => s.size - (intOf i).toNat)
  case atStart => exact ⟨2, 0, by omega, by omega, rfl, rfl, Hg.out⟩
  case round =>
    obtain ⟨k, m, hk, hm, rfl, rfl, Hv⟩ := hrel
    by_cases hlt : k < s.size
    · have hc : s.data.toList[k]'(by simpa using hlt) = s[k] := rfl
      by_cases h1 : isDigit s[k] = true
      · obtain ⟨d1, d2⟩ := digit_bd h1
        have hvs := valGo_snoc 16 s.data.toList k m (by simpa using hlt)
        rw [hc, digOf_digit 16 h1] at hvs
        have HVs := Lib.hid hvs
        clear hvs hc
        by_cases hbig : 4294967295 < m * 16 + (s[k].toNat - 48)
        · have hbig' : (4294967295 : Int) < m * 16 + (s[k].toNat - 48) := by omega
          go_wp2_with (go_at_call 18; refine (rdigit_any _ _).mono ?_; rintro e w' ⟨rfl, rfl⟩)
          go_ret2
          exact ⟨by rw [← Hv.out, HVs.out]; simp only [if_pos hbig]; rfl, rfl⟩
        · have hbig' : ¬ (4294967295 : Int) < m * 16 + (s[k].toNat - 48) := by omega
          go_wp2_with (go_at_call 18; refine (rdigit_any _ _).mono ?_; rintro e w' ⟨rfl, rfl⟩)
          go_round
          case rel => exact ⟨k + 1, m * 16 + (s[k].toNat - 48), by omega, by omega, by go_num, ret_num (by omega), by show _ = goal; rw [← Hv.out, HVs.out]; simp only [if_neg hbig]⟩
          case measure => simp [intOf]; omega
      · have h1' : isDigit s[k] = false := (Bool.not_eq_true _).mp h1
        clear h1
        by_cases h2 : (97 : Int) ≤ s[k].toNat ∧ (s[k].toNat : Int) ≤ 102
        · obtain ⟨h3, h4⟩ := h2
          have hvs := valGo_snoc 16 s.data.toList k m (by simpa using hlt)
          rw [hc, digOf_hex h1' h3 h4] at hvs
          have HVs := Lib.hid hvs
          clear hvs hc
          by_cases hbig : 4294967295 < m * 16 + (s[k].toNat - 87)
          · have hbig' : (4294967295 : Int) < m * 16 + (s[k].toNat - 87) := by omega
            go_wp2_with (go_at_call 18; refine (rdigit_any _ _).mono ?_; rintro e w' ⟨rfl, rfl⟩)
            go_ret2
            exact ⟨by rw [← Hv.out, HVs.out]; simp only [if_pos hbig]; rfl, rfl⟩
          · have hbig' : ¬ (4294967295 : Int) < m * 16 + (s[k].toNat - 87) := by omega
            go_wp2_with (go_at_call 18; refine (rdigit_any _ _).mono ?_; rintro e w' ⟨rfl, rfl⟩)
            go_round
            case rel => exact ⟨k + 1, m * 16 + (s[k].toNat - 87), by omega, by omega, by go_num, ret_num (by omega), by show _ = goal; rw [← Hv.out, HVs.out]; simp only [if_neg hbig]⟩
            case measure => simp [intOf]; omega
        · have hd : decide ((97 : Int) ≤ s[k].toNat) = false ∨ (decide ((97 : Int) ≤ s[k].toNat) = true ∧ decide ((s[k].toNat : Int) ≤ 102) = false) := by
            by_cases h3 : (97 : Int) ≤ s[k].toNat
            · right; exact ⟨by simpa using h3, by simp; omega⟩
            · left; simpa using h3
          have hvs := valGo_snoc 16 s.data.toList k m (by simpa using hlt)
          rw [hc, digOf_none h1' h2] at hvs
          have HVs := Lib.hid hvs
          clear hvs hc
          clear h2
          rcases hd with hd | ⟨hd, hd2⟩
          all_goals
            go_wp2_with (go_at_call 18; refine (rdigit_any _ _).mono ?_; rintro e w' ⟨rfl, rfl⟩)
            go_ret2
            exact ⟨by rw [← Hv.out, HVs.out]; rfl, rfl⟩
    · obtain rfl : k = s.size := by omega
      have hz : goal = some m := by
        rw [← Hv.out]
        have : s.data.toList.drop s.size = [] := by simp
        rw [this]
        rfl
      have Hz := Lib.hid hz
      clear hz
      go_wp2
      go_ret2
      exact ⟨by rw [Hz.out]; rfl, rfl⟩

theorem number_hex0 (s : ByteArray) (w : World) (h2 : s.size = 2) (e0 : s[0] = 48) (e1 : s[1] = 120) :
    Calls Tryd.prog 19 #[.string s] w fun e w' => e = .returned (valV none) ∧ w' = w := by
  obtain ⟨a1, a2⟩ : ((((s[0].toNat : Nat) : Int) == 48) = true ∧ (((s[0].toNat : Nat) : Int) != 48) = false) := u8_is s[0] 48 e0 (by decide)
  obtain ⟨b1, b2⟩ : ((((s[1].toNat : Nat) : Int) == 120) = true ∧ (((s[1].toNat : Nat) : Int) != 120) = false) := u8_is s[1] 120 e1 (by decide)
  have hne : ((2 : Int) == s.size) = true := by simp; omega
  have h3 : 2 ≤ s.size := by omega
  have h4 : s.size ≤ 2 := by omega
  clear e0 e1 a2 b2
  go_enter Tryd.func19, Tryd.ntmps19
  go_wp2
  go_ret2
  exact ⟨rfl, rfl⟩

set_option maxHeartbeats 8000000 in
theorem number_dec (s : ByteArray) (w : World) (hs : s.size ≤ 1000000) (h1 : 0 < s.size) (hcs : s.size = 1 ∨ (∃ _ : 1 < s.size, s[0] ≠ 48) ∨ (∃ h : 1 < s.size, s[0] = 48 ∧ s[1] ≠ 120)) (goal : Option Nat) (hg : valGo 10 0 s.data.toList = goal) :
    Calls Tryd.prog 19 #[.string s] w fun e w' => e = .returned (valV goal) ∧ w' = w := by
  have Hg := Lib.hid hg
  have hne : ((0 : Int) == s.size) = false := by simp; omega
  clear hg
  rcases hcs with h2 | ⟨h2, e0⟩ | ⟨h2, e0, e1⟩
  · have h3 : s.size ≤ 1 := by omega
    clear h2
    go_enter Tryd.func19, Tryd.ntmps19
    go_wp2
    go_loop [5, 6] (fun i n => ∃ k m : Nat, k ≤ s.size ∧ m ≤ 4294967295 ∧ i = .int .i64 k ∧ n = .int .u64 m ∧ Hid (valGo 10 m (s.data.toList.drop k) = goal)) (fun i _ => s.size - (intOf i).toNat)
    case atStart => exact ⟨0, 0, by omega, by omega, rfl, rfl, Hg.out⟩
    case round =>
      obtain ⟨k, m, hk, hm, rfl, rfl, Hv⟩ := hrel
      by_cases hlt : k < s.size
      · have hc : s.data.toList[k]'(by simpa using hlt) = s[k] := rfl
        by_cases h1 : isDigit s[k] = true
        · obtain ⟨d1, d2⟩ := digit_bd h1
          have hvs := valGo_snoc 10 s.data.toList k m (by simpa using hlt)
          rw [hc, digOf_digit 10 h1] at hvs
          have HVs := Lib.hid hvs
          clear hvs hc
          by_cases hbig : 4294967295 < m * 10 + (s[k].toNat - 48)
          · have hbig' : (4294967295 : Int) < m * 10 + (s[k].toNat - 48) := by omega
            go_wp2_with (go_at_call 18; refine (rdigit_any _ _).mono ?_; rintro e w' ⟨rfl, rfl⟩)
            go_ret2
            exact ⟨by rw [← Hv.out, HVs.out]; simp only [if_pos hbig]; rfl, rfl⟩
          · have hbig' : ¬ (4294967295 : Int) < m * 10 + (s[k].toNat - 48) := by omega
            go_wp2_with (go_at_call 18; refine (rdigit_any _ _).mono ?_; rintro e w' ⟨rfl, rfl⟩)
            go_round
            case rel => exact ⟨k + 1, m * 10 + (s[k].toNat - 48), by omega, by omega, by go_num, ret_num (by omega), by show _ = goal; rw [← Hv.out, HVs.out]; simp only [if_neg hbig]⟩
            case measure => simp [intOf]; omega
        · have h1' : isDigit s[k] = false := (Bool.not_eq_true _).mp h1
          clear h1
          by_cases h2 : (97 : Int) ≤ s[k].toNat ∧ (s[k].toNat : Int) ≤ 102
          · obtain ⟨h3, h4⟩ := h2
            have hvs := valGo_snoc 10 s.data.toList k m (by simpa using hlt)
            rw [hc, digOf_ten h1'] at hvs
            have HVs := Lib.hid hvs
            clear hvs hc
            go_wp2_with (go_at_call 18; refine (rdigit_any _ _).mono ?_; rintro e w' ⟨rfl, rfl⟩)
            go_ret2
            exact ⟨by rw [← Hv.out, HVs.out]; rfl, rfl⟩
          · have hd : decide ((97 : Int) ≤ s[k].toNat) = false ∨ (decide ((97 : Int) ≤ s[k].toNat) = true ∧ decide ((s[k].toNat : Int) ≤ 102) = false) := by
              by_cases h3 : (97 : Int) ≤ s[k].toNat
              · right; exact ⟨by simpa using h3, by simp; omega⟩
              · left; simpa using h3
            have hvs := valGo_snoc 10 s.data.toList k m (by simpa using hlt)
            rw [hc, digOf_ten h1'] at hvs
            have HVs := Lib.hid hvs
            clear hvs hc
            clear h2
            rcases hd with hd | ⟨hd, hd2⟩
            all_goals
              go_wp2_with (go_at_call 18; refine (rdigit_any _ _).mono ?_; rintro e w' ⟨rfl, rfl⟩)
              go_ret2
              exact ⟨by rw [← Hv.out, HVs.out]; rfl, rfl⟩
      · obtain rfl : k = s.size := by omega
        have hz : goal = some m := by
          rw [← Hv.out]
          have : s.data.toList.drop s.size = [] := by simp
          rw [this]
          rfl
        have Hz := Lib.hid hz
        clear hz
        go_wp2
        go_ret2
        exact ⟨by rw [Hz.out]; rfl, rfl⟩
  · obtain ⟨a1, a2⟩ : ((((s[0].toNat : Nat) : Int) == 48) = false ∧ (((s[0].toNat : Nat) : Int) != 48) = true) := u8_ne s[0] 48 e0 (by decide)
    clear e0 a2
    go_enter Tryd.func19, Tryd.ntmps19
    go_wp2
    go_loop [5, 6] (fun i n => ∃ k m : Nat, k ≤ s.size ∧ m ≤ 4294967295 ∧ i = .int .i64 k ∧ n = .int .u64 m ∧ Hid (valGo 10 m (s.data.toList.drop k) = goal)) (fun i _ => s.size - (intOf i).toNat)
    case atStart => exact ⟨0, 0, by omega, by omega, rfl, rfl, Hg.out⟩
    case round =>
      obtain ⟨k, m, hk, hm, rfl, rfl, Hv⟩ := hrel
      by_cases hlt : k < s.size
      · have hc : s.data.toList[k]'(by simpa using hlt) = s[k] := rfl
        by_cases h1 : isDigit s[k] = true
        · obtain ⟨d1, d2⟩ := digit_bd h1
          have hvs := valGo_snoc 10 s.data.toList k m (by simpa using hlt)
          rw [hc, digOf_digit 10 h1] at hvs
          have HVs := Lib.hid hvs
          clear hvs hc
          by_cases hbig : 4294967295 < m * 10 + (s[k].toNat - 48)
          · have hbig' : (4294967295 : Int) < m * 10 + (s[k].toNat - 48) := by omega
            go_wp2_with (go_at_call 18; refine (rdigit_any _ _).mono ?_; rintro e w' ⟨rfl, rfl⟩)
            go_ret2
            exact ⟨by rw [← Hv.out, HVs.out]; simp only [if_pos hbig]; rfl, rfl⟩
          · have hbig' : ¬ (4294967295 : Int) < m * 10 + (s[k].toNat - 48) := by omega
            go_wp2_with (go_at_call 18; refine (rdigit_any _ _).mono ?_; rintro e w' ⟨rfl, rfl⟩)
            go_round
            case rel => exact ⟨k + 1, m * 10 + (s[k].toNat - 48), by omega, by omega, by go_num, ret_num (by omega), by show _ = goal; rw [← Hv.out, HVs.out]; simp only [if_neg hbig]⟩
            case measure => simp [intOf]; omega
        · have h1' : isDigit s[k] = false := (Bool.not_eq_true _).mp h1
          clear h1
          by_cases h2 : (97 : Int) ≤ s[k].toNat ∧ (s[k].toNat : Int) ≤ 102
          · obtain ⟨h3, h4⟩ := h2
            have hvs := valGo_snoc 10 s.data.toList k m (by simpa using hlt)
            rw [hc, digOf_ten h1'] at hvs
            have HVs := Lib.hid hvs
            clear hvs hc
            go_wp2_with (go_at_call 18; refine (rdigit_any _ _).mono ?_; rintro e w' ⟨rfl, rfl⟩)
            go_ret2
            exact ⟨by rw [← Hv.out, HVs.out]; rfl, rfl⟩
          · have hd : decide ((97 : Int) ≤ s[k].toNat) = false ∨ (decide ((97 : Int) ≤ s[k].toNat) = true ∧ decide ((s[k].toNat : Int) ≤ 102) = false) := by
              by_cases h3 : (97 : Int) ≤ s[k].toNat
              · right; exact ⟨by simpa using h3, by simp; omega⟩
              · left; simpa using h3
            have hvs := valGo_snoc 10 s.data.toList k m (by simpa using hlt)
            rw [hc, digOf_ten h1'] at hvs
            have HVs := Lib.hid hvs
            clear hvs hc
            clear h2
            rcases hd with hd | ⟨hd, hd2⟩
            all_goals
              go_wp2_with (go_at_call 18; refine (rdigit_any _ _).mono ?_; rintro e w' ⟨rfl, rfl⟩)
              go_ret2
              exact ⟨by rw [← Hv.out, HVs.out]; rfl, rfl⟩
      · obtain rfl : k = s.size := by omega
        have hz : goal = some m := by
          rw [← Hv.out]
          have : s.data.toList.drop s.size = [] := by simp
          rw [this]
          rfl
        have Hz := Lib.hid hz
        clear hz
        go_wp2
        go_ret2
        exact ⟨by rw [Hz.out]; rfl, rfl⟩
  · obtain ⟨a1, a2⟩ : ((((s[0].toNat : Nat) : Int) == 48) = true ∧ (((s[0].toNat : Nat) : Int) != 48) = false) := u8_is s[0] 48 e0 (by decide)
    obtain ⟨b1, b2⟩ : ((((s[1].toNat : Nat) : Int) == 120) = false ∧ (((s[1].toNat : Nat) : Int) != 120) = true) := u8_ne s[1] 120 e1 (by decide)
    clear e0 e1 a2 b2
    go_enter Tryd.func19, Tryd.ntmps19
    go_wp2
    go_loop [5, 6] (fun i n => ∃ k m : Nat, k ≤ s.size ∧ m ≤ 4294967295 ∧ i = .int .i64 k ∧ n = .int .u64 m ∧ Hid (valGo 10 m (s.data.toList.drop k) = goal)) (fun i _ => s.size - (intOf i).toNat)
    case atStart => exact ⟨0, 0, by omega, by omega, rfl, rfl, Hg.out⟩
    case round =>
      obtain ⟨k, m, hk, hm, rfl, rfl, Hv⟩ := hrel
      by_cases hlt : k < s.size
      · have hc : s.data.toList[k]'(by simpa using hlt) = s[k] := rfl
        by_cases h1 : isDigit s[k] = true
        · obtain ⟨d1, d2⟩ := digit_bd h1
          have hvs := valGo_snoc 10 s.data.toList k m (by simpa using hlt)
          rw [hc, digOf_digit 10 h1] at hvs
          have HVs := Lib.hid hvs
          clear hvs hc
          by_cases hbig : 4294967295 < m * 10 + (s[k].toNat - 48)
          · have hbig' : (4294967295 : Int) < m * 10 + (s[k].toNat - 48) := by omega
            go_wp2_with (go_at_call 18; refine (rdigit_any _ _).mono ?_; rintro e w' ⟨rfl, rfl⟩)
            go_ret2
            exact ⟨by rw [← Hv.out, HVs.out]; simp only [if_pos hbig]; rfl, rfl⟩
          · have hbig' : ¬ (4294967295 : Int) < m * 10 + (s[k].toNat - 48) := by omega
            go_wp2_with (go_at_call 18; refine (rdigit_any _ _).mono ?_; rintro e w' ⟨rfl, rfl⟩)
            go_round
            case rel => exact ⟨k + 1, m * 10 + (s[k].toNat - 48), by omega, by omega, by go_num, ret_num (by omega), by show _ = goal; rw [← Hv.out, HVs.out]; simp only [if_neg hbig]⟩
            case measure => simp [intOf]; omega
        · have h1' : isDigit s[k] = false := (Bool.not_eq_true _).mp h1
          clear h1
          by_cases h2 : (97 : Int) ≤ s[k].toNat ∧ (s[k].toNat : Int) ≤ 102
          · obtain ⟨h3, h4⟩ := h2
            have hvs := valGo_snoc 10 s.data.toList k m (by simpa using hlt)
            rw [hc, digOf_ten h1'] at hvs
            have HVs := Lib.hid hvs
            clear hvs hc
            go_wp2_with (go_at_call 18; refine (rdigit_any _ _).mono ?_; rintro e w' ⟨rfl, rfl⟩)
            go_ret2
            exact ⟨by rw [← Hv.out, HVs.out]; rfl, rfl⟩
          · have hd : decide ((97 : Int) ≤ s[k].toNat) = false ∨ (decide ((97 : Int) ≤ s[k].toNat) = true ∧ decide ((s[k].toNat : Int) ≤ 102) = false) := by
              by_cases h3 : (97 : Int) ≤ s[k].toNat
              · right; exact ⟨by simpa using h3, by simp; omega⟩
              · left; simpa using h3
            have hvs := valGo_snoc 10 s.data.toList k m (by simpa using hlt)
            rw [hc, digOf_ten h1'] at hvs
            have HVs := Lib.hid hvs
            clear hvs hc
            clear h2
            rcases hd with hd | ⟨hd, hd2⟩
            all_goals
              go_wp2_with (go_at_call 18; refine (rdigit_any _ _).mono ?_; rintro e w' ⟨rfl, rfl⟩)
              go_ret2
              exact ⟨by rw [← Hv.out, HVs.out]; rfl, rfl⟩
      · obtain rfl : k = s.size := by omega
        have hz : goal = some m := by
          rw [← Hv.out]
          have : s.data.toList.drop s.size = [] := by simp
          rw [this]
          rfl
        have Hz := Lib.hid hz
        clear hz
        go_wp2
        go_ret2
        exact ⟨by rw [Hz.out]; rfl, rfl⟩

theorem number_any (s : ByteArray) (w : World) (hs : s.size ≤ 1000000) (h1 : 0 < s.size) :
    Calls Tryd.prog 19 #[.string s] w fun e w' => e = .returned (valV (valueF s.data.toList)) ∧ w' = w := by
  have hl : s.data.toList ≠ [] := by
    intro e
    rw [Lib.size_eq, e] at h1
    simp at h1
  have hd0 : s.data.toList = s[0] :: s.data.toList.drop 1 := by
    have := drop_cons s.data.toList 0 (by rw [← Lib.size_eq]; exact h1)
    rw [List.drop_zero] at this
    exact this
  by_cases hcs : s.size = 1 ∨ (∃ _ : 1 < s.size, s[0] ≠ 48) ∨ (∃ h : 1 < s.size, s[0] = 48 ∧ s[1] ≠ 120)
  · have hp : [48, 120].isPrefixOf s.data.toList = false := by
      rw [← Bool.not_eq_true]
      intro hp
      rcases hcs with h | ⟨h, e0⟩ | ⟨h, e0, e1⟩
      · have := prefix_le hp
        rw [← Lib.size_eq] at this
        simp at this
        omega
      · rw [hd0] at hp
        simp [List.isPrefixOf] at hp
        exact e0 hp.1.symm
      · have hd1 : s.data.toList.drop 1 = s[1] :: s.data.toList.drop 2 := drop_cons s.data.toList 1 (by rw [← Lib.size_eq]; exact h)
        rw [hd0, hd1] at hp
        simp [List.isPrefixOf] at hp
        exact e1 hp.2.symm
    have hv : valueF s.data.toList = valGo 10 0 s.data.toList := by
      unfold valueF
      rw [hp, if_neg (by decide), if_neg (by simpa using hl)]
    rw [hv]
    exact number_dec s w hs h1 hcs _ rfl
  · have h2 : 1 < s.size := by
      by_cases h : 1 < s.size
      · exact h
      · exact absurd (.inl (by omega)) hcs
    have e0 : s[0] = 48 := by
      by_cases h : s[0] = 48
      · exact h
      · exact absurd (.inr (.inl ⟨h2, h⟩)) hcs
    have e1 : s[1] = 120 := by
      by_cases h : s[1] = 120
      · exact h
      · exact absurd (.inr (.inr ⟨h2, e0, h⟩)) hcs
    have hd1 : s.data.toList.drop 1 = s[1] :: s.data.toList.drop 2 := drop_cons s.data.toList 1 (by rw [← Lib.size_eq]; exact h2)
    have hp : [48, 120].isPrefixOf s.data.toList = true := by
      rw [hd0, hd1, e0, e1]
      simp [List.isPrefixOf]
    have hv : valueF s.data.toList = (if s.data.toList.drop 2 = [] then none else valGo 16 0 (s.data.toList.drop 2)) := by
      unfold valueF
      rw [hp]
      simp
    rw [hv]
    by_cases h3 : s.size = 2
    · rw [if_pos (List.drop_eq_nil_of_le (by rw [← Lib.size_eq]; omega))]
      exact number_hex0 s w h3 e0 e1
    · rw [if_neg (fun e => by have := congrArg List.length e; rw [List.length_drop, ← Lib.size_eq] at this; simp at this; omega)]
      exact number_hex s w hs (by omega) e0 e1 _ rfl
end Go.Proofs.YtcolielkeomglaaDoor
