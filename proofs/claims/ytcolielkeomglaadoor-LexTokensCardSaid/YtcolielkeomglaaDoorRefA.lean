/- The document's answer of chapter 09: blanks and signLen, by contracts. -/
import Derived.Test.YtcolielkeomglaaDoorLexC
set_option maxRecDepth 100000
namespace Go.Proofs.YtcolielkeomglaaDoor
open Go.RowKit

theorem skip_true_cons {c : UInt8} {r : List UInt8} : (c = 10 → skipG true (c :: r) = skipG false (c :: r)) ∧ (c ≠ 10 → skipG true (c :: r) = 1 + skipG true r) := by
  constructor
  · rintro rfl
    simp [skipG, isBlank]
  · intro h
    have : (c != 10) = true := by simpa using h
    simp [skipG, this]

theorem blank_cases {c : UInt8} (h : isBlank c = true) : ((c.toNat : Int) == 32) = true ∨ (((c.toNat : Int) == 32) = false ∧ ((c.toNat : Int) == 9) = true) ∨
    (((c.toNat : Int) == 32) = false ∧ ((c.toNat : Int) == 9) = false ∧ ((c.toNat : Int) == 13) = true) ∨
    (((c.toNat : Int) == 32) = false ∧ ((c.toNat : Int) == 9) = false ∧ ((c.toNat : Int) == 13) = false ∧ ((c.toNat : Int) == 10) = true) := by
  rw [isBlank_int] at h
  cases h1 : ((c.toNat : Int) == 32) <;> cases h2 : ((c.toNat : Int) == 9) <;> cases h3 : ((c.toNat : Int) == 13) <;> cases h4 : ((c.toNat : Int) == 10) <;> simp_all

theorem blank_none {c : UInt8} (h : isBlank c = false) : ((c.toNat : Int) == 32) = false ∧ ((c.toNat : Int) == 9) = false ∧ ((c.toNat : Int) == 13) = false ∧ ((c.toNat : Int) == 10) = false := by
  rw [isBlank_int] at h
  cases h1 : ((c.toNat : Int) == 32) <;> cases h2 : ((c.toNat : Int) == 9) <;> cases h3 : ((c.toNat : Int) == 13) <;> cases h4 : ((c.toNat : Int) == 10) <;> simp_all

theorem u8_ne (a : UInt8) (n : Nat) (h : a ≠ UInt8.ofNat n) (_ : n < 256) : ((a.toNat : Int) == (n : Int)) = false ∧ ((a.toNat : Int) != (n : Int)) = true := by
  have : a.toNat ≠ n := fun e => h (by rw [← e]; simp)
  constructor
  · simp; omega
  · simp; omega
theorem u8_is (a : UInt8) (n : Nat) (h : a = UInt8.ofNat n) (hn : n < 256) : ((a.toNat : Int) == (n : Int)) = true ∧ ((a.toNat : Int) != (n : Int)) = false := by
  have : a.toNat = n := by rw [h]; simp; omega
  constructor
  · simp; omega
  · simp; omega

theorem rblanks_any (s : ByteArray) (k : Nat) (w : World) (hs : s.size ≤ 1000000) (hk : k ≤ s.size) :
    Calls Tryd.prog 16 #[.string s, .int .i64 k] w fun e w' => e = .returned (.int .i64 ((k + skipG false (s.data.toList.drop k) : Nat) : Int)) ∧ w' = w := by
  obtain ⟨goal, hgoal⟩ : ∃ g, g = k + skipG false (s.data.toList.drop k) := ⟨_, rfl⟩
  rw [← hgoal]
  have Hg := Lib.hid hgoal
  clear hgoal
  go_enter Tryd.func16, Tryd.ntmps16
  go_wp2
  go_loop [1] (fun i => ∃ j : Nat, j ≤ s.size ∧ i = .int .i64 j ∧ Hid (j + skipG false (s.data.toList.drop j) = goal)) (fun i => s.size - (intOf i).toNat)
  case atStart => exact ⟨k, hk, rfl, Hg.out.symm⟩
  case round =>
    obtain ⟨j, hj, rfl, Hrel⟩ := hrel
    by_cases hlt : j < s.size
    · have hd : s.data.toList.drop j = s[j] :: s.data.toList.drop (j + 1) := drop_cons s.data.toList j (by simpa using hlt)
      by_cases hb : isBlank s[j] = true
      · have hn : j + 1 + skipG false (s.data.toList.drop (j + 1)) = goal := by
          have hrel := Hrel.out
          rw [hd, skip_blank hb] at hrel
          omega
        have Hn := Lib.hid hn
        have hbc := blank_cases hb
        clear hn hd hb
        rcases hbc with h1 | ⟨h1, h2⟩ | ⟨h1, h2, h3⟩ | ⟨h1, h2, h3, h4⟩
        all_goals
          go_wp2
          go_round
          case rel => exact ⟨j + 1, by omega, by go_num, Hn.out⟩
          case measure => simp [intOf]; omega
      · have hb' : isBlank s[j] = false := (Bool.not_eq_true _).mp hb
        obtain ⟨h1, h2, h3, h4⟩ := blank_none hb'
        clear hb
        by_cases hp : [47, 47].isPrefixOf (s.data.toList.drop j) = true
        · obtain ⟨hr1, _⟩ := skip_remark hp
          obtain ⟨h5, h6, h7⟩ : ∃ h : j + 1 < s.size, s[j] = 47 ∧ s[j + 1] = 47 := by
            have h5 : j + 1 < s.size := by
              have := prefix_le hp
              rw [List.length_drop, ← Lib.size_eq] at this
              simp at this
              omega
            have hd2 : s.data.toList.drop (j + 1) = s[j + 1] :: s.data.toList.drop (j + 1 + 1) := drop_cons s.data.toList (j + 1) (by simpa using h5)
            rw [hd, hd2] at hp
            simp [List.isPrefixOf] at hp
            exact ⟨h5, hp.1.symm, hp.2.symm⟩
          obtain ⟨h8, h9⟩ : ((((s[j].toNat : Nat) : Int) == 47) = true ∧ (((s[j].toNat : Nat) : Int) != 47) = false) := u8_is s[j] 47 h6 (by decide)
          obtain ⟨h10, h11⟩ : ((((s[j + 1].toNat : Nat) : Int) == 47) = true ∧ (((s[j + 1].toNat : Nat) : Int) != 47) = false) := u8_is s[j + 1] 47 h7 (by decide)
          have hrt : j + skipG true (s.data.toList.drop j) = goal := by
            have hrel := Hrel.out
            rw [hr1] at hrel
            exact hrel
          have Hrt := Lib.hid hrt
          have H6 := Lib.hid h6
          clear hd hb' hp hr1 h6 h7 hrt Hrel
          go_wp2
          go_loop [1] (fun i => ∃ n : Nat, j ≤ n ∧ n ≤ s.size ∧ i = .int .i64 n ∧ Hid (n + skipG true (s.data.toList.drop n) = goal)) (fun i => s.size - (intOf i).toNat)
          case atStart => exact ⟨j, Nat.le_refl _, hj, rfl, Hrt⟩
          case round =>
            obtain ⟨n, hjn, hn, rfl, Hn⟩ := hrel
            by_cases hltn : n < s.size
            · have hdn : s.data.toList.drop n = s[n] :: s.data.toList.drop (n + 1) := drop_cons s.data.toList n (by simpa using hltn)
              by_cases hten : s[n] = 10
              · obtain ⟨h12, h13⟩ : ((((s[n].toNat : Nat) : Int) == 10) = true ∧ (((s[n].toNat : Nat) : Int) != 10) = false) := u8_is s[n] 10 hten (by decide)
                have hgo : n + skipG false (s.data.toList.drop n) = goal := by
                  have h := Hn.out
                  rw [hdn, skip_true_cons.1 hten] at h
                  rw [hdn]
                  exact h
                have hne : n ≠ j := by
                  intro e
                  subst e
                  have := H6.out
                  rw [hten] at this
                  simp at this
                have Hgo := Lib.hid hgo
                have hjn2 : j < n := by omega
                clear hdn hten hgo hne
                go_wp2
                go_round
                case rel => exact ⟨n, by omega, rfl, Hgo⟩
                case measure => simp [intOf]; omega
              · obtain ⟨h12, h13⟩ : ((((s[n].toNat : Nat) : Int) == 10) = false ∧ (((s[n].toNat : Nat) : Int) != 10) = true) := u8_ne s[n] 10 hten (by decide)
                have hgo : n + 1 + skipG true (s.data.toList.drop (n + 1)) = goal := by
                  have h := Hn.out
                  rw [hdn, skip_true_cons.2 hten] at h
                  omega
                have Hgo := Lib.hid hgo
                clear hdn hten hgo
                go_wp2
                go_round
                case rel => exact ⟨n + 1, by omega, by omega, by go_num, Hgo⟩
                case measure => simp [intOf]; omega
            · obtain rfl : n = s.size := by omega
              have hgo : s.size + skipG false (s.data.toList.drop s.size) = goal := by
                have h := Hn.out
                have e : s.data.toList.drop s.size = [] := by simp
                rw [e] at h ⊢
                exact h
              have Hgo := Lib.hid hgo
              clear hgo
              go_wp2
              go_round
              case rel => exact ⟨s.size, Nat.le_refl _, rfl, Hgo⟩
              case measure => simp [intOf]; omega
        · have hp' : [47, 47].isPrefixOf (s.data.toList.drop j) = false := (Bool.not_eq_true _).mp hp
          have hz : (j : Int) = goal := by
            have hrel := Hrel.out
            have hp2 := hp'
            rw [hd] at hrel hp2
            rw [skip_none hb' hp2] at hrel
            omega
          have Hz := Lib.hid hz
          have hcs : j + 1 ≥ s.size ∨ (∃ h : j + 1 < s.size, s[j] ≠ 47) ∨ (∃ h : j + 1 < s.size, s[j] = 47 ∧ s[j + 1] ≠ 47) := by
            by_cases h5 : j + 1 < s.size
            · right
              by_cases h6 : s[j] = 47
              · right
                refine ⟨h5, h6, fun h7 => ?_⟩
                have hd2 : s.data.toList.drop (j + 1) = s[j + 1] :: s.data.toList.drop (j + 1 + 1) := drop_cons s.data.toList (j + 1) (by simpa using h5)
                rw [hd, hd2, h6, h7] at hp'
                simp [List.isPrefixOf] at hp'
              · exact .inl ⟨h5, h6⟩
            · left; omega
          clear hd hb' hp hp' hz Hrel
          rcases hcs with h5 | ⟨h5, h6⟩ | ⟨h5, h6, h7⟩
          · go_wp2
            go_ret
            exact ⟨by rw [← Hz.out]; rfl, rfl⟩
          · obtain ⟨h8, h9⟩ : ((((s[j].toNat : Nat) : Int) == 47) = false ∧ (((s[j].toNat : Nat) : Int) != 47) = true) := u8_ne s[j] 47 h6 (by decide)
            clear h6
            go_wp2
            go_ret
            exact ⟨by rw [← Hz.out]; rfl, rfl⟩
          · obtain ⟨h8, h9⟩ : ((((s[j].toNat : Nat) : Int) == 47) = true ∧ (((s[j].toNat : Nat) : Int) != 47) = false) := u8_is s[j] 47 h6 (by decide)
            obtain ⟨h10, h11⟩ : ((((s[j + 1].toNat : Nat) : Int) == 47) = false ∧ (((s[j + 1].toNat : Nat) : Int) != 47) = true) := u8_ne s[j + 1] 47 h7 (by decide)
            clear h6 h7
            go_wp2
            go_ret
            exact ⟨by rw [← Hz.out]; rfl, rfl⟩
    · obtain rfl : j = s.size := by omega
      have hz : (s.size : Int) = goal := by
        have hrel := Hrel.out
        have : s.data.toList.drop s.size = [] := by simp
        rw [this] at hrel
        simp [skipG] at hrel
        omega
      have Hz := Lib.hid hz
      clear hz Hrel
      go_wp2
      go_ret
      exact ⟨by rw [← Hz.out]; rfl, rfl⟩
end Go.Proofs.YtcolielkeomglaaDoor
