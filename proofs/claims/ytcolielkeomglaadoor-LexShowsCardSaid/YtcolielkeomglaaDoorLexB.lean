/- lex: numbers, signs and what parts tokens, by contracts. -/
import Derived.Test.YtcolielkeomglaaDoorLexA
set_option maxRecDepth 100000
namespace Go.Proofs.YtcolielkeomglaaDoor
open Go.RowKit

theorem all_bytes {p : UInt8 → Bool} (h : (List.range 256).all (fun n => p (UInt8.ofNat n)) = true) (c : UInt8) : p c = true := by
  have := List.all_eq_true.1 h c.toNat (List.mem_range.2 c.toNat_lt)
  simpa using this

theorem idx10 (c : UInt8) : Lib.indexByte [48, 49, 50, 51, 52, 53, 54, 55, 56, 57] c = (match digOf 10 c with | some d => (d : Int) | none => -1) := by
  have := all_bytes (p := fun c => decide (Lib.indexByte [48, 49, 50, 51, 52, 53, 54, 55, 56, 57] c = (match digOf 10 c with | some d => (d : Int) | none => -1))) (by decide +kernel) c
  exact of_decide_eq_true this
theorem idx16 (c : UInt8) : Lib.indexByte [48, 49, 50, 51, 52, 53, 54, 55, 56, 57, 97, 98, 99, 100, 101, 102] c = (match digOf 16 c with | some d => (d : Int) | none => -1) := by
  have := all_bytes (p := fun c => decide (Lib.indexByte [48, 49, 50, 51, 52, 53, 54, 55, 56, 57, 97, 98, 99, 100, 101, 102] c = (match digOf 16 c with | some d => (d : Int) | none => -1))) (by decide +kernel) c
  exact of_decide_eq_true this

/-- The number for the table of digits. -/
def idxOf (base : Nat) (c : UInt8) : Int := match digOf base c with | some d => (d : Int) | none => -1
theorem idxOf_le (base : Nat) (c : UInt8) : -1 ≤ idxOf base c ∧ idxOf base c < 256 := by
  unfold idxOf digOf
  have := c.toNat_lt
  split
  · rename_i d h
    split at h
    · cases h; omega
    · split at h
      · cases h; omega
      · cases h
  · omega

theorem drop_cons (l : List UInt8) (k : Nat) (h : k < l.length) : l.drop k = l[k] :: l.drop (k + 1) := List.drop_eq_getElem_cons h

theorem toUInt8_self (c : UInt8) : ((c.toNat : Int)).toNat.toUInt8 = c := by
  simp

/-- What value returns. -/
def valV (o : Option Nat) : Value := .tuple #[.int .u32 (o.getD 0), .bool o.isSome]

theorem valGo_snoc (base : Nat) (l : List UInt8) (k m : Nat) (h : k < l.length) : valGo base m (l.drop k) = (match digOf base l[k] with | none => none | some d => if 4294967295 < m * base + d then none else valGo base (m * base + d) (l.drop (k + 1))) := by
  rw [drop_cons l k h]
  rfl

theorem digidx_none (c : UInt8) (w : World) (h : digOf 10 c = none) :
    Calls Tryd.prog 25 #[.string ((ByteArray.mk #[48, 49, 50, 51, 52, 53, 54, 55, 56, 57, 97, 98, 99, 100, 101, 102]).extract 0 10), .int .u8 c.toNat] w fun e w' => e = .returned (.int .i64 (-1)) ∧ w' = w := by
  have h1 := Tryd.strings_IndexByte ((ByteArray.mk #[48, 49, 50, 51, 52, 53, 54, 55, 56, 57, 97, 98, 99, 100, 101, 102]).extract 0 10) c.toNat w
  rw [toUInt8_self, Lib.extract_data, show ((ByteArray.mk #[48, 49, 50, 51, 52, 53, 54, 55, 56, 57, 97, 98, 99, 100, 101, 102]).data.toList.drop 0).take (10 - 0) = [48, 49, 50, 51, 52, 53, 54, 55, 56, 57] from rfl, idx10, h] at h1
  exact h1
theorem digidx_some (c : UInt8) (d : Nat) (w : World) (h : digOf 10 c = some d) :
    Calls Tryd.prog 25 #[.string ((ByteArray.mk #[48, 49, 50, 51, 52, 53, 54, 55, 56, 57, 97, 98, 99, 100, 101, 102]).extract 0 10), .int .u8 c.toNat] w fun e w' => e = .returned (.int .i64 d) ∧ w' = w := by
  have h1 := Tryd.strings_IndexByte ((ByteArray.mk #[48, 49, 50, 51, 52, 53, 54, 55, 56, 57, 97, 98, 99, 100, 101, 102]).extract 0 10) c.toNat w
  rw [toUInt8_self, Lib.extract_data, show ((ByteArray.mk #[48, 49, 50, 51, 52, 53, 54, 55, 56, 57, 97, 98, 99, 100, 101, 102]).data.toList.drop 0).take (10 - 0) = [48, 49, 50, 51, 52, 53, 54, 55, 56, 57] from rfl, idx10, h] at h1
  exact h1
theorem digidx_none16 (c : UInt8) (w : World) (h : digOf 16 c = none) :
    Calls Tryd.prog 25 #[.string (ByteArray.mk #[48, 49, 50, 51, 52, 53, 54, 55, 56, 57, 97, 98, 99, 100, 101, 102]), .int .u8 c.toNat] w fun e w' => e = .returned (.int .i64 (-1)) ∧ w' = w := by
  have h1 := Tryd.strings_IndexByte (ByteArray.mk #[48, 49, 50, 51, 52, 53, 54, 55, 56, 57, 97, 98, 99, 100, 101, 102]) c.toNat w
  rw [toUInt8_self, show (ByteArray.mk #[48, 49, 50, 51, 52, 53, 54, 55, 56, 57, 97, 98, 99, 100, 101, 102]).data.toList = [48, 49, 50, 51, 52, 53, 54, 55, 56, 57, 97, 98, 99, 100, 101, 102] from rfl, idx16, h] at h1
  exact h1
theorem digidx_some16 (c : UInt8) (d : Nat) (w : World) (h : digOf 16 c = some d) :
    Calls Tryd.prog 25 #[.string (ByteArray.mk #[48, 49, 50, 51, 52, 53, 54, 55, 56, 57, 97, 98, 99, 100, 101, 102]), .int .u8 c.toNat] w fun e w' => e = .returned (.int .i64 d) ∧ w' = w := by
  have h1 := Tryd.strings_IndexByte (ByteArray.mk #[48, 49, 50, 51, 52, 53, 54, 55, 56, 57, 97, 98, 99, 100, 101, 102]) c.toNat w
  rw [toUInt8_self, show (ByteArray.mk #[48, 49, 50, 51, 52, 53, 54, 55, 56, 57, 97, 98, 99, 100, 101, 102]).data.toList = [48, 49, 50, 51, 52, 53, 54, 55, 56, 57, 97, 98, 99, 100, 101, 102] from rfl, idx16, h] at h1
  exact h1
theorem digOf_lt {base : Nat} {c : UInt8} {d : Nat} (h : digOf base c = some d) : d < 256 := by
  unfold digOf at h
  have := c.toNat_lt
  split at h
  · cases h; omega
  · split at h
    · cases h; omega
    · cases h

theorem cut_no (s : ByteArray) (w : World) (hp : [48, 120].isPrefixOf s.data.toList = false) :
    Calls Tryd.prog 32 #[.string s, .string ⟨#[48, 120]⟩] w fun e w' => e = .returned (.tuple #[.string s, .bool false]) ∧ w' = w := by
  have h := Tryd.strings_CutPrefix s ⟨#[48, 120]⟩ w
  have e : Lib.hasPrefix s.data.toList (ByteArray.mk #[48, 120]).data.toList = false := hp
  rw [Lib.trimPrefix, e] at h
  exact h
theorem cut_yes (s : ByteArray) (w : World) (hp : [48, 120].isPrefixOf s.data.toList = true) :
    Calls Tryd.prog 32 #[.string s, .string ⟨#[48, 120]⟩] w fun e w' => e = .returned (.tuple #[.string ⟨(s.data.toList.drop 2).toArray⟩, .bool true]) ∧ w' = w := by
  have h := Tryd.strings_CutPrefix s ⟨#[48, 120]⟩ w
  have e : Lib.hasPrefix s.data.toList (ByteArray.mk #[48, 120]).data.toList = true := hp
  rw [Lib.trimPrefix, e] at h
  exact h

theorem notEmpty (s : ByteArray) (h : s.data.toList ≠ []) : (!s.toList.isEmpty) = true := by
  rw [ByteArray.toList_eq]
  cases hx : s.data.toList with
  | nil => exact absurd hx h
  | cons a b => rfl

theorem value_dec (s : ByteArray) (w : World) (hs : s.size ≤ 1000000) (hp : [48, 120].isPrefixOf s.data.toList = false) (hne : s.data.toList ≠ []) :
    Calls Tryd.prog 27 #[.string s] w fun e w' => e = .returned (valV (valGo 10 0 s.data.toList)) ∧ Drawn w w' := by
  have Hp := Lib.hid hp
  clear hp
  go_enter Tryd.func27, Tryd.ntmps27
  go_wp2_with fail
  refine (cut_no s w Hp.out).mono ?_
  rintro e w' ⟨rfl, rfl⟩
  go_wp2_with fail
  go_loopw [7, 19] (fun n i wr => ∃ k m : Nat, k ≤ s.size ∧ m ≤ 4294967295 ∧ i = .int .i64 k ∧ n = .int .i64 m ∧ valGo 10 m (s.data.toList.drop k) = valGo 10 0 s.data.toList ∧ Drawn w' wr) (fun _ i _ => s.size - (intOf i).toNat)
  case atStart => exact ⟨0, 0, Nat.zero_le _, Nat.zero_le _, rfl, rfl, rfl, Drawn.refl _⟩
  case round =>
    obtain ⟨k, m, hk, hm, rfl, rfl, hv, hD⟩ := hrel
    have HD := Lib.hid hD
    have HV := Lib.hid hv
    clear hD hv
    by_cases hlt : k < s.size
    · have hc : s.data.toList[k]'(by simpa using hlt) = s[k] := rfl
      have hvs := valGo_snoc 10 s.data.toList k m (by simpa using hlt)
      rw [hc] at hvs
      cases hd : digOf 10 s[k] with
      | none =>
        rw [hd] at hvs
        have HVs := Lib.hid hvs
        have HD2 := Lib.hid hd
        clear hvs hc hd
        go_wp2_with fail
        go_quiet ((go_at_call 25; exact Calls.quiet_of_same (digidx_none _ _ HD2.out)))
        go_wp2
        go_ret2
        exact ⟨by rw [← HV.out, HVs.out]; rfl, HD.out.more _⟩
      | some d =>
        have hdl := digOf_lt hd
        rw [hd] at hvs
        have HVs := Lib.hid hvs
        have HD2 := Lib.hid hd
        clear hvs hc hd
        by_cases hbig : 4294967295 < m * 10 + d
        · go_wp2_with fail
          go_quiet ((go_at_call 25; exact Calls.quiet_of_same (digidx_some _ _ _ HD2.out)))
          go_wp2
          go_ret2
          exact ⟨by rw [← HV.out, HVs.out]; simp only [if_pos hbig]; rfl, HD.out.more _⟩
        · go_wp2_with fail
          go_quiet ((go_at_call 25; exact Calls.quiet_of_same (digidx_some _ _ _ HD2.out)))
          go_wp2
          go_roundw
          case rel => exact ⟨k + 1, m * 10 + d, by omega, by omega, by go_num, by go_num, by rw [← HV.out, HVs.out]; simp only [if_neg hbig], HD.out.more _⟩
          case measure => simp [intOf]; omega
    · obtain rfl : k = s.size := by omega
      have hv0 : s.data.toList.drop s.size = [] := by simp
      have H0 := Lib.hid hv0
      have Hne := Lib.hid hne
      clear hv0 hne
      go_wp2
      go_ret2
      have hV : valGo 10 0 s.data.toList = some m := by rw [← HV.out, H0.out]; rfl
      refine ⟨?_, HD.out⟩
      rw [hV]
      exact congrArg (fun b => Ending.returned (.tuple #[.int .u32 (m : Int), .bool b])) (notEmpty s Hne.out)
theorem value_hex (s0 s : ByteArray) (w : World) (hr : s = ⟨(s0.data.toList.drop 2).toArray⟩) (hs : s.size ≤ 1000000) (hp : [48, 120].isPrefixOf s0.data.toList = true) :
    Calls Tryd.prog 27 #[.string s0] w fun e w' => e = .returned (valV (if s.data.toList = [] then none else valGo 16 0 s.data.toList)) ∧ Drawn w w' := by
  have hcut := cut_yes s0 w hp
  rw [← hr] at hcut
  have Hcut := Lib.hid hcut
  clear hcut hp hr
  by_cases hne : s.data.toList = []
  · have hz : s.size = 0 := by rw [Lib.size_eq, hne]; rfl
    have hz2 : s.toList.isEmpty = true := by rw [ByteArray.toList_eq, hne]; rfl
    rw [if_pos hne]
    clear hne
    go_enter Tryd.func27, Tryd.ntmps27
    go_wp2_with fail
    refine Hcut.out.mono ?_
    rintro e w' ⟨rfl, rfl⟩
    go_wp2_with fail
    refine wp_loop_rounds 1 ?_
    rw [rounds_succ]
    go_wp2
    go_ret2
    exact ⟨rfl, Drawn.refl _⟩
  have Hne1 := Lib.hid hne
  rw [if_neg hne]
  go_enter Tryd.func27, Tryd.ntmps27
  go_wp2_with fail
  refine Hcut.out.mono ?_
  rintro e w' ⟨rfl, rfl⟩
  go_wp2_with fail
  go_loopw [7, 19] (fun n i wr => ∃ k m : Nat, k ≤ s.size ∧ m ≤ 4294967295 ∧ i = .int .i64 k ∧ n = .int .i64 m ∧ valGo 16 m (s.data.toList.drop k) = valGo 16 0 s.data.toList ∧ Drawn w' wr) (fun _ i _ => s.size - (intOf i).toNat)
  case atStart => exact ⟨0, 0, Nat.zero_le _, Nat.zero_le _, rfl, rfl, rfl, Drawn.refl _⟩
  case round =>
    obtain ⟨k, m, hk, hm, rfl, rfl, hv, hD⟩ := hrel
    have HD := Lib.hid hD
    have HV := Lib.hid hv
    clear hD hv
    by_cases hlt : k < s.size
    · have hc : s.data.toList[k]'(by simpa using hlt) = s[k] := rfl
      have hvs := valGo_snoc 16 s.data.toList k m (by simpa using hlt)
      rw [hc] at hvs
      cases hd : digOf 16 s[k] with
      | none =>
        rw [hd] at hvs
        have HVs := Lib.hid hvs
        have HD2 := Lib.hid hd
        clear hvs hc hd
        go_wp2_with fail
        go_quiet ((go_at_call 25; exact Calls.quiet_of_same (digidx_none16 _ _ HD2.out)))
        go_wp2
        go_ret2
        exact ⟨by rw [← HV.out, HVs.out]; rfl, HD.out.more _⟩
      | some d =>
        have hdl := digOf_lt hd
        rw [hd] at hvs
        have HVs := Lib.hid hvs
        have HD2 := Lib.hid hd
        clear hvs hc hd
        by_cases hbig : 4294967295 < m * 16 + d
        · go_wp2_with fail
          go_quiet ((go_at_call 25; exact Calls.quiet_of_same (digidx_some16 _ _ _ HD2.out)))
          go_wp2
          go_ret2
          exact ⟨by rw [← HV.out, HVs.out]; simp only [if_pos hbig]; rfl, HD.out.more _⟩
        · go_wp2_with fail
          go_quiet ((go_at_call 25; exact Calls.quiet_of_same (digidx_some16 _ _ _ HD2.out)))
          go_wp2
          go_roundw
          case rel => exact ⟨k + 1, m * 16 + d, by omega, by omega, by go_num, by go_num, by rw [← HV.out, HVs.out]; simp only [if_neg hbig], HD.out.more _⟩
          case measure => simp [intOf]; omega
    · obtain rfl : k = s.size := by omega
      have hv0 : s.data.toList.drop s.size = [] := by simp
      have H0 := Lib.hid hv0
      have Hne := Lib.hid hne
      clear hv0 hne
      go_wp2
      go_ret2
      have hV : valGo 16 0 s.data.toList = some m := by rw [← HV.out, H0.out]; rfl
      refine ⟨?_, HD.out⟩
      rw [hV]
      exact congrArg (fun b => Ending.returned (.tuple #[.int .u32 (m : Int), .bool b])) (notEmpty s Hne.out)

theorem value_any (s : ByteArray) (w : World) (hs : s.size ≤ 1000000) (hne : s.data.toList ≠ []) :
    Calls Tryd.prog 27 #[.string s] w fun e w' => e = .returned (valV (valueF s.data.toList)) ∧ Drawn w w' := by
  unfold valueF
  by_cases hp : [48, 120].isPrefixOf s.data.toList = true
  · rw [if_pos hp]
    have h := value_hex s ⟨(s.data.toList.drop 2).toArray⟩ w rfl (by rw [Lib.size_eq] at *; simp at *; omega) hp
    simp only [beq_iff_eq]
    exact h
  · rw [if_neg hp, if_neg (by simpa using hne)]
    exact value_dec s w hs ((Bool.not_eq_true _).mp hp) hne
end Go.Proofs.YtcolielkeomglaaDoor
