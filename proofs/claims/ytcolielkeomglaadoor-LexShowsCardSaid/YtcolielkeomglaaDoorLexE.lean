/- lex: next, by its contract. -/
import Derived.Test.YtcolielkeomglaaDoorLexD
set_option maxRecDepth 100000
namespace Go.Proofs.YtcolielkeomglaaDoor
open Go.RowKit

theorem setCell_drewN (w : World) (n : Nat) (a : Addr) (v : Value) : (w.drewN n).setCell a v = (w.setCell a v).drewN n := rfl
attribute [local go_sem] setCell_drewN

theorem word_at (s : ByteArray) (k : Nat) (T : ByteArray) (w : World) (hs : s.size ≤ 1000000) (hT : T = ⟨((s.data.toList.drop k).take (wordN (s.data.toList.drop k))).toArray⟩) :
    Calls Tryd.prog 26 #[.string (s.extract k s.size)] w fun e w' => e = .returned (.string T) ∧ w' = w := by
  have h := word_any (s.extract k s.size) w (by rw [Lib.size_eq, extract_end, List.length_drop, ← Lib.size_eq]; omega)
  rw [extract_end, ← hT] at h
  exact h
theorem value_no (T : ByteArray) (w : World) (hs : T.size ≤ 1000000) (hne : T.data.toList ≠ []) (h : valueF T.data.toList = none) :
    Calls Tryd.prog 27 #[.string T] w fun e w' => e = .returned (.tuple #[.int .u32 0, .bool false]) ∧ Drawn w w' := by
  have h1 := value_any T w hs hne
  rw [h] at h1
  exact h1
theorem value_yes (T : ByteArray) (n : Nat) (w : World) (hs : T.size ≤ 1000000) (hne : T.data.toList ≠ []) (h : valueF T.data.toList = some n) :
    Calls Tryd.prog 27 #[.string T] w fun e w' => e = .returned (.tuple #[.int .u32 n, .bool true]) ∧ Drawn w w' := by
  have h1 := value_any T w hs hne
  rw [h] at h1
  exact h1
theorem sign_at (s : ByteArray) (k : Nat) (T : ByteArray) (w : World) (hS : HasSigns w) (hT : T = ⟨(signF (s.data.toList.drop k)).toArray⟩) :
    Calls Tryd.prog 28 #[.string (s.extract k s.size)] w fun e w' => e = .returned (.string T) ∧ w' = w := by
  have h := sign_any (s.extract k s.size) w hS
  rw [extract_end, ← hT] at h
  exact h

/-- What next returns. -/
def tokV (k : Nat) : Nat ⊕ (Nat × List UInt8 × Nat) → Value
  | .inl e => .tuple #[.agg #[.int .i64 0, .int .i64 0, .string ⟨#[]⟩, .int .u32 0], .int .i64 e]
  | .inr (kd, t, n) => .tuple #[.agg #[.int .i64 kd, .int .i64 k, .string ⟨t.toArray⟩, .int .u32 n], .int .i64 0]

set_option maxHeartbeats 2000000 in
theorem next_any (s : ByteArray) (k : Nat) (w : World) (hs : s.size ≤ 1000000) (hk : k < s.size) (hS : HasSigns w) :
    Calls Tryd.prog 15 #[.string s, .int .i64 k] w fun e w' => e = .returned (tokV k (tokF (s.data.toList.drop k))) ∧ Below w.heap.size w w' := by
  have hd : s.data.toList.drop k = s[k] :: s.data.toList.drop (k + 1) := drop_cons s.data.toList k (by simpa using hk)
  obtain ⟨T, hT⟩ : ∃ T : ByteArray, T = ⟨((s.data.toList.drop k).take (wordN (s.data.toList.drop k))).toArray⟩ := ⟨_, rfl⟩
  have hTl : T.data.toList = (s.data.toList.drop k).take (wordN (s.data.toList.drop k)) := by rw [hT]
  have hTs : T.size = wordN (s.data.toList.drop k) := by
    rw [Lib.size_eq, hTl, List.length_take]
    exact Nat.min_eq_left (wordN_le _)
  have hTb : T.size ≤ 1000000 := by
    have := wordN_le (s.data.toList.drop k)
    rw [List.length_drop, ← Lib.size_eq] at this
    omega
  have HT := Lib.hid hT
  have HTl := Lib.hid hTl
  have HTs := Lib.hid hTs
  have Hd := Lib.hid hd
  clear hT hTl hTs hd
  have hS2 : ∀ o o', HasSigns ((w.alloc o).alloc o') := fun o o' => hS.below (((Below.refl _ _).alloc (Nat.le_refl _) _).alloc (by simp) _)
  have HS2 := Lib.hid hS2
  clear hS2 hS
  by_cases h1 : isLetter s[k] = true
  · by_cases hbig : 32 < T.size
    · have hf : tokF (s.data.toList.drop k) = .inl 102 := by
        have hb := hbig
        rw [HTs.out, Hd.out] at hb
        rw [Hd.out]
        simp only [tokF, h1, if_true, if_pos hb]
      have Hf := Lib.hid hf
      clear hf
      go_enter Tryd.func15, Tryd.ntmps15
      go_wp2_with (first | (go_at_call 11; refine (letter_any _ _).mono ?_; rintro e w' ⟨rfl, rfl⟩) | (go_at_call 12; refine (digit_any _ _).mono ?_; rintro e w' ⟨rfl, rfl⟩) | (go_at_call 26; refine (word_at s k T _ hs HT.out).mono ?_; rintro e w' ⟨rfl, rfl⟩))
      refine bodyPost_ret (v := .tuple #[.agg #[.int .i64 0, .int .i64 0, .string ⟨#[]⟩, .int .u32 0], .int .i64 102]) (by simp [results, Tryd.results15, go_sem]) rfl ⟨by rw [Hf.out]; rfl, ((Below.refl _ _).alloc (Nat.le_refl _) _).alloc (by simp) _⟩
    · have hf : tokF (s.data.toList.drop k) = .inr (1, T.data.toList, 0) := by
        have hb := hbig
        rw [HTs.out, Hd.out] at hb
        rw [HTl.out, Hd.out]
        simp only [tokF, h1, if_true, if_neg hb]
      have Hf := Lib.hid hf
      clear hf
      go_enter Tryd.func15, Tryd.ntmps15
      go_wp2_with (first | (go_at_call 11; refine (letter_any _ _).mono ?_; rintro e w' ⟨rfl, rfl⟩) | (go_at_call 12; refine (digit_any _ _).mono ?_; rintro e w' ⟨rfl, rfl⟩) | (go_at_call 26; refine (word_at s k T _ hs HT.out).mono ?_; rintro e w' ⟨rfl, rfl⟩))
      refine bodyPost_ret (v := .tuple #[.agg #[.int .i64 1, .int .i64 k, .string T, .int .u32 0], .int .i64 0]) (by simp [results, Tryd.results15, go_sem]) rfl ⟨by rw [Hf.out]; rfl, ((Below.refl _ _).alloc (Nat.le_refl _) _).alloc (by simp) _⟩
  · have h1' : isLetter s[k] = false := (Bool.not_eq_true _).mp h1
    clear h1
    by_cases h2 : isDigit s[k] = true
    · have hTn : T.data.toList ≠ [] := by
        intro e
        have h3 := wordN_cons (r := s.data.toList.drop (k + 1)) (isWord_digit h2)
        have h4 : T.size = 0 := by rw [Lib.size_eq, e]; rfl
        rw [HTs.out, Hd.out, h3] at h4
        omega
      have HTn := Lib.hid hTn
      clear hTn
      cases hv : valueF T.data.toList with
      | none =>
        have HV := Lib.hid hv
        clear hv
        have hf : tokF (s.data.toList.drop k) = .inl 101 := by
          have hv := HV.out
          rw [HTl.out, Hd.out] at hv
          rw [Hd.out]
          simp only [tokF, h1', h2, if_true, Bool.false_eq_true, if_false, hv]
        have Hf := Lib.hid hf
        clear hf
        go_enter Tryd.func15, Tryd.ntmps15
        go_wp2_with (first | (go_at_call 11; refine (letter_any _ _).mono ?_; rintro e w' ⟨rfl, rfl⟩) | (go_at_call 12; refine (digit_any _ _).mono ?_; rintro e w' ⟨rfl, rfl⟩) | (go_at_call 26; refine (word_at s k T _ hs HT.out).mono ?_; rintro e w' ⟨rfl, rfl⟩) | (go_at_call 27; refine (value_no T _ hTb HTn.out HV.out).mono ?_; rintro e w' ⟨rfl, nq, rfl⟩))
        refine bodyPost_ret (v := .tuple #[.agg #[.int .i64 0, .int .i64 0, .string ⟨#[]⟩, .int .u32 0], .int .i64 101]) (by simp [results, Tryd.results15, go_sem]) rfl ⟨by rw [Hf.out]; rfl, below_drawn (((Below.refl _ _).alloc (Nat.le_refl _) _).alloc (by simp) _) ⟨_, rfl⟩⟩
      | some n =>
        have HV := Lib.hid hv
        clear hv
        have hf : tokF (s.data.toList.drop k) = .inr (2, T.data.toList, n) := by
          have hv := HV.out
          rw [HTl.out, Hd.out] at hv
          rw [HTl.out, Hd.out]
          simp only [tokF, h1', h2, if_true, Bool.false_eq_true, if_false, hv]
        have Hf := Lib.hid hf
        clear hf
        go_enter Tryd.func15, Tryd.ntmps15
        go_wp2_with (first | (go_at_call 11; refine (letter_any _ _).mono ?_; rintro e w' ⟨rfl, rfl⟩) | (go_at_call 12; refine (digit_any _ _).mono ?_; rintro e w' ⟨rfl, rfl⟩) | (go_at_call 26; refine (word_at s k T _ hs HT.out).mono ?_; rintro e w' ⟨rfl, rfl⟩) | (go_at_call 27; refine (value_yes T n _ hTb HTn.out HV.out).mono ?_; rintro e w' ⟨rfl, nq, rfl⟩))
        refine bodyPost_ret (v := .tuple #[.agg #[.int .i64 2, .int .i64 k, .string T, .int .u32 n], .int .i64 0]) (by simp [results, Tryd.results15, go_sem]) rfl ⟨by rw [Hf.out]; rfl, below_drawn (((Below.refl _ _).alloc (Nat.le_refl _) _).alloc (by simp) _) ⟨_, rfl⟩⟩
    · have h2' : isDigit s[k] = false := (Bool.not_eq_true _).mp h2
      clear h2
      obtain ⟨S, hSg⟩ : ∃ S : ByteArray, S = ⟨(signF (s.data.toList.drop k)).toArray⟩ := ⟨_, rfl⟩
      have hSl : S.data.toList = signF (s.data.toList.drop k) := by rw [hSg]
      have HSg := Lib.hid hSg
      have HSl := Lib.hid hSl
      clear hSg hSl
      by_cases he : S.data.toList = []
      · have he2 : S.toList.isEmpty = true := by rw [ByteArray.toList_eq, he]; rfl
        have He := Lib.hid he
        clear he
        have hf : tokF (s.data.toList.drop k) = .inl 100 := by
          have he := He.out
          rw [HSl.out, Hd.out] at he
          rw [Hd.out]
          simp only [tokF, h1', h2', Bool.false_eq_true, if_false, he, beq_self_eq_true, if_true]
        have Hf := Lib.hid hf
        clear hf
        go_enter Tryd.func15, Tryd.ntmps15
        go_wp2_with (first | (go_at_call 11; refine (letter_any _ _).mono ?_; rintro e w' ⟨rfl, rfl⟩) | (go_at_call 12; refine (digit_any _ _).mono ?_; rintro e w' ⟨rfl, rfl⟩) | (go_at_call 26; refine (word_at s k T _ hs HT.out).mono ?_; rintro e w' ⟨rfl, rfl⟩) | (go_at_call 28; refine (sign_at s k S _ (HS2.out _ _) HSg.out).mono ?_; rintro e w' ⟨rfl, rfl⟩))
        refine bodyPost_ret (v := .tuple #[.agg #[.int .i64 0, .int .i64 0, .string ⟨#[]⟩, .int .u32 0], .int .i64 100]) (by simp [results, Tryd.results15, go_sem]) rfl ⟨by rw [Hf.out]; rfl, ((Below.refl _ _).alloc (Nat.le_refl _) _).alloc (by simp) _⟩
      · have he2 : S.toList.isEmpty = false := by
          have := notEmpty S he
          simpa using this
        have He := Lib.hid he
        clear he
        have hf : tokF (s.data.toList.drop k) = .inr (3, S.data.toList, 0) := by
          have he := He.out
          rw [HSl.out, Hd.out] at he
          rw [HSl.out, Hd.out]
          simp only [tokF, h1', h2', Bool.false_eq_true, if_false, beq_iff_eq, if_neg he]
        have Hf := Lib.hid hf
        clear hf
        go_enter Tryd.func15, Tryd.ntmps15
        go_wp2_with (first | (go_at_call 11; refine (letter_any _ _).mono ?_; rintro e w' ⟨rfl, rfl⟩) | (go_at_call 12; refine (digit_any _ _).mono ?_; rintro e w' ⟨rfl, rfl⟩) | (go_at_call 26; refine (word_at s k T _ hs HT.out).mono ?_; rintro e w' ⟨rfl, rfl⟩) | (go_at_call 28; refine (sign_at s k S _ (HS2.out _ _) HSg.out).mono ?_; rintro e w' ⟨rfl, rfl⟩))
        refine bodyPost_ret (v := .tuple #[.agg #[.int .i64 3, .int .i64 k, .string S, .int .u32 0], .int .i64 0]) (by simp [results, Tryd.results15, go_sem]) rfl ⟨by rw [Hf.out]; rfl, ((Below.refl _ _).alloc (Nat.le_refl _) _).alloc (by simp) _⟩
end Go.Proofs.YtcolielkeomglaaDoor
