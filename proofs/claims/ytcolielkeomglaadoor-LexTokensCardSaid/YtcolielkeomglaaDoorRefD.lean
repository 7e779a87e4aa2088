/- The document's answer of chapter 09: Tokens, by its contract. -/
import Derived.Test.YtcolielkeomglaaDoorRefB
import Derived.Test.YtcolielkeomglaaDoorRefC
import Derived.Test.YtcolielkeomglaaDoorLexG
set_option maxRecDepth 100000
namespace Go.Proofs.YtcolielkeomglaaDoor
open Go.RowKit

theorem rtok_new (W : World) (b kd k n : Nat) (T : ByteArray) (hb : b = W.heap.size) : ∀ (j : Nat) (u : Value), (tokCells ⟨kd, k, T.data.toList, n⟩)[j]? = some u →
    (W.alloc (.cells #[.int .i64 kd, .int .i64 k, .string T, .int .u32 n] 34)).cell? ((⟨b, 0, none⟩ : Addr).add j) = some u := by
  subst hb
  intro j u hj
  match j, hj with
  | 0, hj => simp [tokCells] at hj; subst hj; simp [Addr.add]
  | 1, hj => simp [tokCells] at hj; subst hj; simp [Addr.add]
  | 2, hj => simp [tokCells] at hj; subst hj; simp [Addr.add]
  | 3, hj => simp [tokCells] at hj; subst hj; simp [Addr.add]

theorem Tryd.infoT : (Tryd.prog.info? 34).map (fun i => (i.zero, i.size, i.bytes)) = some (some (.agg #[.int .i64 0, .int .i64 0, .string ⟨#[]⟩, .int .u32 0]), 4, 40) := by kernel_rfl

theorem rtokens_big (a : Option Addr) (n cap : Nat) (w : World) (hn : 65536 < n) (hn2 : n ≤ 1000000) :
    Calls Tryd.prog 10 #[.slice a n cap] w fun e w' => e = .returned (.tuple #[.slice none 0 0, .int .i64 161, .int .i64 0]) ∧ w' = w := by
  go_enter Tryd.func10, Tryd.ntmps10
  go_wp2
  go_ret3
  exact ⟨rfl, rfl⟩

theorem rnum_no (T : ByteArray) (w : World) (hs : T.size ≤ 1000000) (hne : 0 < T.size) (h : valueF T.data.toList = none) :
    Calls Tryd.prog 19 #[.string T] w fun e w' => e = .returned (.tuple #[.int .u32 0, .bool false]) ∧ w' = w := by
  have h1 := number_any T w hs hne
  rw [h] at h1
  exact h1
theorem rnum_yes (T : ByteArray) (n : Nat) (w : World) (hs : T.size ≤ 1000000) (hne : 0 < T.size) (h : valueF T.data.toList = some n) :
    Calls Tryd.prog 19 #[.string T] w fun e w' => e = .returned (.tuple #[.int .u32 n, .bool true]) ∧ w' = w := by
  have h1 := number_any T w hs hne
  rw [h] at h1
  exact h1
theorem rsign_at (s : ByteArray) (k m : Nat) (w : World) (hs : s.size ≤ 1000000) (hk : k < s.size) (h : (signF (s.data.toList.drop k)).length = m) :
    Calls Tryd.prog 20 #[.string s, .int .i64 k] w fun e w' => e = .returned (.int .i64 m) ∧ Below w.heap.size w w' := by
  have h1 := signLen_any s k w hs hk
  rw [h] at h1
  exact h1
theorem rblanks_at (s : ByteArray) (k j : Nat) (z : Int) (w : World) (hz : z = (k : Int)) (hs : s.size ≤ 1000000) (hk : k ≤ s.size) (h : k + skipG false (s.data.toList.drop k) = j) :
    Calls Tryd.prog 16 #[.string s, .int .i64 z] w fun e w' => e = .returned (.int .i64 j) ∧ w' = w := by
  subst hz
  have h1 := rblanks_any s k w hs hk
  rw [h] at h1
  exact h1

theorem word_in (s : ByteArray) (k m : Nat) (hk : k ≤ m) (hm : m < s.size) (h : m ≤ k + wordN (s.data.toList.drop k)) : (isWord s[m] = true → m + 1 ≤ k + wordN (s.data.toList.drop k)) ∧ (isWord s[m] = false → k + wordN (s.data.toList.drop k) = m) := by
  have hl : m - k < (s.data.toList.drop k).length := by rw [List.length_drop, ← Lib.size_eq]; omega
  have h1 := wordN_at (s.data.toList.drop k) (m - k) hl (by omega)
  have h2 : (s.data.toList.drop k)[m - k] = s[m] := by
    rw [List.getElem_drop]
    have : k + (m - k) = m := by omega
    simp only [this]
    rfl
  rw [h2] at h1
  exact ⟨fun h => by have := h1.1 h; omega, fun h => by have := h1.2 h; omega⟩

theorem lex_fail {s : ByteArray} {k c : Nat} {ts : List Tok} {goal : (Nat × Nat) ⊕ List Tok} (Hf : ∃ f, s.size - k ≤ f ∧ lexG f (s.data.toList.drop k) k ts = goal) (hk : k < s.size) (hne : s.data.toList.drop k ≠ []) (ht : tokF (s.data.toList.drop k) = .inl c) : goal = .inl (c, k) := by
  obtain ⟨f, hf1, hf2⟩ := Hf
  obtain ⟨f', rfl⟩ : ∃ f', f = f' + 1 := ⟨f - 1, by omega⟩
  rw [lexG_err hne ht] at hf2
  exact hf2.symm
theorem lex_step {s : ByteArray} {k kd n n1 : Nat} {ts : List Tok} {goal : (Nat × Nat) ⊕ List Tok} (Hf : ∃ f, s.size - k ≤ f ∧ lexG f (s.data.toList.drop k) k ts = goal) (hk : k < s.size) (hne : s.data.toList.drop k ≠ []) (T : ByteArray) (hT : T.size = n1) (ht : tokF (s.data.toList.drop k) = .inr (kd, T.data.toList, n)) :
    ∃ j, k + n1 + skipG false (s.data.toList.drop (k + n1)) = j ∧ k + n1 ≤ s.size ∧ j ≤ s.size ∧ k + 1 ≤ j ∧ ∃ f, s.size - j ≤ f ∧ lexG f (s.data.toList.drop j) j (ts ++ [⟨kd, k, T.data.toList, n⟩]) = goal := by
  subst hT
  obtain ⟨l1, l2, _⟩ := tokF_len ht
  rw [← Lib.size_eq] at l1 l2
  rw [List.length_drop, ← Lib.size_eq] at l2
  have hsl := skipG_le false (s.data.toList.drop (k + T.size))
  rw [List.length_drop, ← Lib.size_eq] at hsl
  refine ⟨_, rfl, by omega, by omega, by omega, ?_⟩
  obtain ⟨f, hf1, hf2⟩ := Hf
  obtain ⟨f', rfl⟩ : ∃ f', f = f' + 1 := ⟨f - 1, by omega⟩
  rw [lexG_ok hne ht] at hf2
  have e1 : (s.data.toList.drop k).drop T.data.toList.length = s.data.toList.drop (k + T.size) := by rw [List.drop_drop, ← Lib.size_eq]
  rw [e1, ← Lib.size_eq, List.drop_drop] at hf2
  exact ⟨f', by omega, hf2⟩

theorem extract_mid (s : ByteArray) (k n : Nat) : (s.extract k (k + n)).data.toList = (s.data.toList.drop k).take n := by
  rw [Lib.extract_data, Nat.add_sub_cancel_left]
theorem extract_sz (s : ByteArray) (k n : Nat) (h : k + n ≤ s.size) : (s.extract k (k + n)).size = n := by
  rw [Lib.size_eq, extract_mid, List.length_take, List.length_drop, ← Lib.size_eq]
  omega

set_option maxHeartbeats 8000000 in
theorem rtokens_loop (a : Option Addr) (n cap : Nat) (s : ByteArray) (w : World) (hn : s.size = n) (hle : n ≤ 65536) (hconv : (convert 22 9 (.slice a n cap)).run Tryd.prog w = .ok (.string s) w) :
    Calls Tryd.prog 10 #[.slice a n cap] w (LexPost 34 w s.data.toList) := by
  subst hn
  obtain ⟨i0, hi, hz0, hz1, hz2⟩ := info_parts Tryd.infoT
  obtain ⟨goal, hgoal⟩ : ∃ g, g = lexG s.data.toList.length (s.data.toList.drop (skipG false s.data.toList)) (skipG false s.data.toList) [] := ⟨_, rfl⟩
  have hlex : lexF s.data.toList = goal := by
    rw [hgoal, lexF, if_neg (by rw [← Lib.size_eq]; omega)]
  obtain ⟨k0, hk0⟩ : ∃ k, k = skipG false s.data.toList := ⟨_, rfl⟩
  have hk0le : k0 ≤ s.size := by rw [hk0, Lib.size_eq]; exact skipG_le _ _
  have hsk : 0 + skipG false (s.data.toList.drop 0) = k0 := by rw [List.drop_zero, Nat.zero_add, hk0]
  rw [← hk0, ← Lib.size_eq] at hgoal
  have Hgoal := Lib.hid hgoal
  have Hlex := Lib.hid hlex
  have Hsk := Lib.hid hsk
  clear hgoal hlex hk0 hsk
  go_enter Tryd.func10, Tryd.ntmps10
  go_wp2_with (go_at_call 16; refine (rblanks_at s 0 k0 _ _ rfl (by omega) (Nat.zero_le _) Hsk.out).mono ?_; rintro e w' ⟨rfl, rfl⟩)
  clear Hsk
  go_loopw [6, 7] (fun v i wr => ∃ (k : Nat) (ts : List Tok), k ≤ s.size ∧ i = .int .i64 k ∧ wr.ownsRow w'.heap.size 34 4 v ts.length (toksCells ts) ∧ Below w'.heap.size w' wr ∧ ts.length ≤ k ∧ Hid (∃ f, s.size - k ≤ f ∧ lexG f (s.data.toList.drop k) k ts = goal)) (fun _ i _ => s.size - (intOf i).toNat)
  case atStart => exact ⟨k0, [], hk0le, rfl, World.ownsRow_nil _ _ _ _, Below.refl _ _, Nat.zero_le _, ⟨s.size, by omega, Hgoal.out.symm⟩⟩
  case round =>
    obtain ⟨k, ts, hk, rfl, hown, hB, htk, Hf⟩ := hrel
    have HB := Lib.hid hB
    have Hown := Lib.hid hown
    have Hlen := Lib.hid (toksCells_len ts)
    clear hB hown
    by_cases hlt : k < s.size
    · have hne : s.data.toList.drop k ≠ [] := by
        intro e
        have := congrArg List.length e
        rw [List.length_drop, ← Lib.size_eq] at this
        simp at this
        omega
      have hd : s.data.toList.drop k = s[k] :: s.data.toList.drop (k + 1) := drop_cons s.data.toList k (by simpa using hlt)
      obtain ⟨m, hm⟩ : ∃ m, m = wordN (s.data.toList.drop k) := ⟨_, rfl⟩
      have hml : k + m ≤ s.size := by
        have := wordN_le (s.data.toList.drop k)
        rw [List.length_drop, ← Lib.size_eq] at this
        omega
      have hwi := fun i (h1 : k ≤ i) (h2 : i < s.size) => word_in s k i h1 h2
      rw [← hm] at hwi
      have HWI := Lib.hid hwi
      have Hm := Lib.hid hm
      have Hd := Lib.hid hd
      have Hne := Lib.hid hne
      have hTl := extract_mid s k m
      have hTs := extract_sz s k m hml
      have HTl := Lib.hid hTl
      have HTs := Lib.hid hTs
      clear hwi hm hd hne hTl hTs
      by_cases h1 : isLetter s[k] = true
      · by_cases hbig : 32 < m
        · have hf : tokF (s.data.toList.drop k) = .inl 102 := by
            have hb := hbig
            rw [Hm.out, Hd.out] at hb
            rw [Hd.out]
            simp only [tokF, h1, if_true, if_pos hb]
          have Hg := Lib.hid (lex_fail Hf hlt Hne.out hf)
          clear hf Hf
          have hsz := HTs.out
          go_wp2
          go_loop [8] (fun i => ∃ x : Nat, k ≤ x ∧ x ≤ k + m ∧ i = .int .i64 x) (fun i => s.size - (intOf i).toNat)
          case atStart => exact ⟨k, Nat.le_refl _, by omega, rfl⟩
          case round =>
            obtain ⟨x, hx1, hx2, rfl⟩ := hrel
            by_cases hxs : x < s.size
            · have hwx := HWI.out x hx1 hxs hx2
              by_cases g1 : isLetter s[x] = true
              · have hx3 := hwx.1 (isWord_letter g1)
                clear hwx
                go_wp2_with (first | (go_at_call 17; refine (rletter_any _ _).mono ?_; rintro e wq ⟨rfl, rfl⟩) | (go_at_call 18; refine (rdigit_any _ _).mono ?_; rintro e wq ⟨rfl, rfl⟩))
                go_round
                case rel => exact ⟨x + 1, by omega, hx3, by go_num⟩
                case measure => simp [intOf]; omega
              · have g1' : isLetter s[x] = false := (Bool.not_eq_true _).mp g1
                clear g1
                by_cases g2 : isDigit s[x] = true
                · have hx3 := hwx.1 (isWord_digit g2)
                  clear hwx
                  go_wp2_with (first | (go_at_call 17; refine (rletter_any _ _).mono ?_; rintro e wq ⟨rfl, rfl⟩) | (go_at_call 18; refine (rdigit_any _ _).mono ?_; rintro e wq ⟨rfl, rfl⟩))
                  go_round
                  case rel => exact ⟨x + 1, by omega, hx3, by go_num⟩
                  case measure => simp [intOf]; omega
                · have g2' : isDigit s[x] = false := (Bool.not_eq_true _).mp g2
                  obtain rfl : k + m = x := hwx.2 (by simp [isWord, g1', g2'])
                  clear g2 hwx
                  go_wp2_with (first | (go_at_call 17; refine (rletter_any _ _).mono ?_; rintro e wq ⟨rfl, rfl⟩) | (go_at_call 18; refine (rdigit_any _ _).mono ?_; rintro e wq ⟨rfl, rfl⟩))
                  go_ret3
                  unfold LexPost
                  rw [Hlex.out, Hg.out]
                  exact ⟨rfl, HB.out⟩
            · obtain rfl : x = k + m := by omega
              go_wp2_with (first | (go_at_call 17; refine (rletter_any _ _).mono ?_; rintro e wq ⟨rfl, rfl⟩) | (go_at_call 18; refine (rdigit_any _ _).mono ?_; rintro e wq ⟨rfl, rfl⟩))
              go_ret3
              unfold LexPost
              rw [Hlex.out, Hg.out]
              exact ⟨rfl, HB.out⟩
        · have hf : tokF (s.data.toList.drop k) = .inr (1, (s.extract k (k + m)).data.toList, 0) := by
            have hb := hbig
            rw [Hm.out, Hd.out] at hb
            rw [HTl.out, Hm.out, Hd.out]
            simp only [tokF, h1, if_true, if_neg hb]
          obtain ⟨j, hj, hj1, hj2, hj3, hf2⟩ := lex_step (n := 0) (kd := 1) Hf hlt Hne.out (s.extract k (k + m)) HTs.out hf
          have Hj := Lib.hid hj
          have Hf2 := Lib.hid hf2
          clear hf hj hf2 Hf
          have hsz := HTs.out
          go_wp2
          go_loop [8] (fun i => ∃ x : Nat, k ≤ x ∧ x ≤ k + m ∧ i = .int .i64 x) (fun i => s.size - (intOf i).toNat)
          case atStart => exact ⟨k, Nat.le_refl _, by omega, rfl⟩
          case round =>
            obtain ⟨x, hx1, hx2, rfl⟩ := hrel
            by_cases hxs : x < s.size
            · have hwx := HWI.out x hx1 hxs hx2
              by_cases g1 : isLetter s[x] = true
              · have hx3 := hwx.1 (isWord_letter g1)
                clear hwx
                go_wp2_with (first | (go_at_call 17; refine (rletter_any _ _).mono ?_; rintro e wq ⟨rfl, rfl⟩) | (go_at_call 18; refine (rdigit_any _ _).mono ?_; rintro e wq ⟨rfl, rfl⟩))
                go_round
                case rel => exact ⟨x + 1, by omega, hx3, by go_num⟩
                case measure => simp [intOf]; omega
              · have g1' : isLetter s[x] = false := (Bool.not_eq_true _).mp g1
                clear g1
                by_cases g2 : isDigit s[x] = true
                · have hx3 := hwx.1 (isWord_digit g2)
                  clear hwx
                  go_wp2_with (first | (go_at_call 17; refine (rletter_any _ _).mono ?_; rintro e wq ⟨rfl, rfl⟩) | (go_at_call 18; refine (rdigit_any _ _).mono ?_; rintro e wq ⟨rfl, rfl⟩))
                  go_round
                  case rel => exact ⟨x + 1, by omega, hx3, by go_num⟩
                  case measure => simp [intOf]; omega
                · have g2' : isDigit s[x] = false := (Bool.not_eq_true _).mp g2
                  obtain rfl : k + m = x := hwx.2 (by simp [isWord, g1', g2'])
                  clear g2 hwx
                  go_wp2_with (first | (go_at_call 17; refine (rletter_any _ _).mono ?_; rintro e wq ⟨rfl, rfl⟩) | (go_at_call 18; refine (rdigit_any _ _).mono ?_; rintro e wq ⟨rfl, rfl⟩) | (at_builtin; refine wpList_append_own _ rfl (.tmp 54) (.tmp 58) 28 rfl w'.heap.size 34 i0 (.agg #[.int .i64 0, .int .i64 0, .string ⟨#[]⟩, .int .u32 0]) 4 40 Tryd.underlying28 hi hz0 hz1 hz2 rfl (by decide) _ _ _ rfl ((Hown.out).alloc _) _ 1 1 (tokCells ⟨1, k, (s.extract k (k + m)).data.toList, 0⟩) rfl rfl (rtok_new _ _ 1 k 0 (s.extract k (k + m)) rfl) (tok_one _) (by unfold maxLen; omega) (by omega) (Nat.le_trans (HB.out).size (by simp)) ?_; intro v' w3 hown3 hgrow3 _; have hB3 := ((HB.out).alloc (HB.out).size _).grown hgrow3 (Nat.le_trans (HB.out).size (by simp)) (fun b e => ((Hown.out).lt b e).1); have hown4 : w3.ownsRow w'.heap.size 34 4 v' (ts ++ [(⟨1, k, (s.extract k (k + m)).data.toList, 0⟩ : Tok)]).length (toksCells (ts ++ [⟨1, k, (s.extract k (k + m)).data.toList, 0⟩])) := (by rw [toksCells_snoc, List.length_append]; exact hown3); have Hown4 := Lib.hid hown4; have HB3 := Lib.hid hB3; clear hown3 hgrow3 hB3 hown4) | (go_at_call 16; refine (rblanks_at s (k + m) j _ _ (by omega) (by omega) hj1 Hj.out).mono ?_; rintro e wq ⟨rfl, rfl⟩))
                  go_roundw
                  case rel => exact ⟨j, _, hj2, rfl, Hown4.out, HB3.out, by simp; omega, Hf2⟩
                  case measure => simp [intOf]; omega
            · obtain rfl : x = k + m := by omega
              go_wp2_with (first | (go_at_call 17; refine (rletter_any _ _).mono ?_; rintro e wq ⟨rfl, rfl⟩) | (go_at_call 18; refine (rdigit_any _ _).mono ?_; rintro e wq ⟨rfl, rfl⟩) | (at_builtin; refine wpList_append_own _ rfl (.tmp 54) (.tmp 58) 28 rfl w'.heap.size 34 i0 (.agg #[.int .i64 0, .int .i64 0, .string ⟨#[]⟩, .int .u32 0]) 4 40 Tryd.underlying28 hi hz0 hz1 hz2 rfl (by decide) _ _ _ rfl ((Hown.out).alloc _) _ 1 1 (tokCells ⟨1, k, (s.extract k (k + m)).data.toList, 0⟩) rfl rfl (rtok_new _ _ 1 k 0 (s.extract k (k + m)) rfl) (tok_one _) (by unfold maxLen; omega) (by omega) (Nat.le_trans (HB.out).size (by simp)) ?_; intro v' w3 hown3 hgrow3 _; have hB3 := ((HB.out).alloc (HB.out).size _).grown hgrow3 (Nat.le_trans (HB.out).size (by simp)) (fun b e => ((Hown.out).lt b e).1); have hown4 : w3.ownsRow w'.heap.size 34 4 v' (ts ++ [(⟨1, k, (s.extract k (k + m)).data.toList, 0⟩ : Tok)]).length (toksCells (ts ++ [⟨1, k, (s.extract k (k + m)).data.toList, 0⟩])) := (by rw [toksCells_snoc, List.length_append]; exact hown3); have Hown4 := Lib.hid hown4; have HB3 := Lib.hid hB3; clear hown3 hgrow3 hB3 hown4) | (go_at_call 16; refine (rblanks_at s (k + m) j _ _ (by omega) (by omega) hj1 Hj.out).mono ?_; rintro e wq ⟨rfl, rfl⟩))
              go_roundw
              case rel => exact ⟨j, _, hj2, rfl, Hown4.out, HB3.out, by simp; omega, Hf2⟩
              case measure => simp [intOf]; omega
      · have h1' : isLetter s[k] = false := (Bool.not_eq_true _).mp h1
        clear h1
        by_cases h2 : isDigit s[k] = true
        · have hm1 : 1 ≤ m := by
            rw [Hm.out, Hd.out, wordN_cons (isWord_digit h2)]
            omega
          have hsz := HTs.out
          cases hv : valueF (s.extract k (k + m)).data.toList with
          | none =>
            have HV := Lib.hid hv
            clear hv
            have hf : tokF (s.data.toList.drop k) = .inl 101 := by
              have hv := HV.out
              rw [HTl.out, Hm.out, Hd.out] at hv
              rw [Hd.out]
              simp only [tokF, h1', h2, if_true, Bool.false_eq_true, if_false, hv]
            have Hg := Lib.hid (lex_fail Hf hlt Hne.out hf)
            clear hf Hf
            go_wp2
            go_loop [8] (fun i => ∃ x : Nat, k ≤ x ∧ x ≤ k + m ∧ i = .int .i64 x) (fun i => s.size - (intOf i).toNat)
            case atStart => exact ⟨k, Nat.le_refl _, by omega, rfl⟩
            case round =>
              obtain ⟨x, hx1, hx2, rfl⟩ := hrel
              by_cases hxs : x < s.size
              · have hwx := HWI.out x hx1 hxs hx2
                by_cases g1 : isLetter s[x] = true
                · have hx3 := hwx.1 (isWord_letter g1)
                  clear hwx
                  go_wp2_with (first | (go_at_call 17; refine (rletter_any _ _).mono ?_; rintro e wq ⟨rfl, rfl⟩) | (go_at_call 18; refine (rdigit_any _ _).mono ?_; rintro e wq ⟨rfl, rfl⟩))
                  go_round
                  case rel => exact ⟨x + 1, by omega, hx3, by go_num⟩
                  case measure => simp [intOf]; omega
                · have g1' : isLetter s[x] = false := (Bool.not_eq_true _).mp g1
                  clear g1
                  by_cases g2 : isDigit s[x] = true
                  · have hx3 := hwx.1 (isWord_digit g2)
                    clear hwx
                    go_wp2_with (first | (go_at_call 17; refine (rletter_any _ _).mono ?_; rintro e wq ⟨rfl, rfl⟩) | (go_at_call 18; refine (rdigit_any _ _).mono ?_; rintro e wq ⟨rfl, rfl⟩))
                    go_round
                    case rel => exact ⟨x + 1, by omega, hx3, by go_num⟩
                    case measure => simp [intOf]; omega
                  · have g2' : isDigit s[x] = false := (Bool.not_eq_true _).mp g2
                    obtain rfl : k + m = x := hwx.2 (by simp [isWord, g1', g2'])
                    clear g2 hwx
                    go_wp2_with (first | (go_at_call 17; refine (rletter_any _ _).mono ?_; rintro e wq ⟨rfl, rfl⟩) | (go_at_call 18; refine (rdigit_any _ _).mono ?_; rintro e wq ⟨rfl, rfl⟩) | (go_at_call 19; refine (rnum_no _ _ (by rw [HTs.out]; omega) (by rw [HTs.out]; omega) HV.out).mono ?_; rintro e wq ⟨rfl, rfl⟩))
                    go_ret3
                    unfold LexPost
                    rw [Hlex.out, Hg.out]
                    exact ⟨rfl, HB.out⟩
              · obtain rfl : x = k + m := by omega
                go_wp2_with (first | (go_at_call 17; refine (rletter_any _ _).mono ?_; rintro e wq ⟨rfl, rfl⟩) | (go_at_call 18; refine (rdigit_any _ _).mono ?_; rintro e wq ⟨rfl, rfl⟩) | (go_at_call 19; refine (rnum_no _ _ (by rw [HTs.out]; omega) (by rw [HTs.out]; omega) HV.out).mono ?_; rintro e wq ⟨rfl, rfl⟩))
                go_ret3
                unfold LexPost
                rw [Hlex.out, Hg.out]
                exact ⟨rfl, HB.out⟩
          | some nn =>
            have HV := Lib.hid hv
            clear hv
            have hf : tokF (s.data.toList.drop k) = .inr (2, (s.extract k (k + m)).data.toList, nn) := by
              have hv := HV.out
              rw [HTl.out, Hm.out, Hd.out] at hv
              rw [HTl.out, Hm.out, Hd.out]
              simp only [tokF, h1', h2, if_true, Bool.false_eq_true, if_false, hv]
            obtain ⟨j, hj, hj1, hj2, hj3, hf2⟩ := lex_step (n := nn) (kd := 2) Hf hlt Hne.out (s.extract k (k + m)) HTs.out hf
            have Hj := Lib.hid hj
            have Hf2 := Lib.hid hf2
            clear hf hj hf2 Hf
            go_wp2
            go_loop [8] (fun i => ∃ x : Nat, k ≤ x ∧ x ≤ k + m ∧ i = .int .i64 x) (fun i => s.size - (intOf i).toNat)
            case atStart => exact ⟨k, Nat.le_refl _, by omega, rfl⟩
            case round =>
              obtain ⟨x, hx1, hx2, rfl⟩ := hrel
              by_cases hxs : x < s.size
              · have hwx := HWI.out x hx1 hxs hx2
                by_cases g1 : isLetter s[x] = true
                · have hx3 := hwx.1 (isWord_letter g1)
                  clear hwx
                  go_wp2_with (first | (go_at_call 17; refine (rletter_any _ _).mono ?_; rintro e wq ⟨rfl, rfl⟩) | (go_at_call 18; refine (rdigit_any _ _).mono ?_; rintro e wq ⟨rfl, rfl⟩))
                  go_round
                  case rel => exact ⟨x + 1, by omega, hx3, by go_num⟩
                  case measure => simp [intOf]; omega
                · have g1' : isLetter s[x] = false := (Bool.not_eq_true _).mp g1
                  clear g1
                  by_cases g2 : isDigit s[x] = true
                  · have hx3 := hwx.1 (isWord_digit g2)
                    clear hwx
                    go_wp2_with (first | (go_at_call 17; refine (rletter_any _ _).mono ?_; rintro e wq ⟨rfl, rfl⟩) | (go_at_call 18; refine (rdigit_any _ _).mono ?_; rintro e wq ⟨rfl, rfl⟩))
                    go_round
                    case rel => exact ⟨x + 1, by omega, hx3, by go_num⟩
                    case measure => simp [intOf]; omega
                  · have g2' : isDigit s[x] = false := (Bool.not_eq_true _).mp g2
                    obtain rfl : k + m = x := hwx.2 (by simp [isWord, g1', g2'])
                    clear g2 hwx
                    go_wp2_with (first | (go_at_call 17; refine (rletter_any _ _).mono ?_; rintro e wq ⟨rfl, rfl⟩) | (go_at_call 18; refine (rdigit_any _ _).mono ?_; rintro e wq ⟨rfl, rfl⟩) | (go_at_call 19; refine (rnum_yes _ nn _ (by rw [HTs.out]; omega) (by rw [HTs.out]; omega) HV.out).mono ?_; rintro e wq ⟨rfl, rfl⟩) | (at_builtin; refine wpList_append_own _ rfl (.tmp 72) (.tmp 77) 28 rfl w'.heap.size 34 i0 (.agg #[.int .i64 0, .int .i64 0, .string ⟨#[]⟩, .int .u32 0]) 4 40 Tryd.underlying28 hi hz0 hz1 hz2 rfl (by decide) _ _ _ rfl ((Hown.out).alloc _) _ 1 1 (tokCells ⟨2, k, (s.extract k (k + m)).data.toList, nn⟩) rfl rfl (rtok_new _ _ 2 k nn (s.extract k (k + m)) rfl) (tok_one _) (by unfold maxLen; omega) (by omega) (Nat.le_trans (HB.out).size (by simp)) ?_; intro v' w3 hown3 hgrow3 _; have hB3 := ((HB.out).alloc (HB.out).size _).grown hgrow3 (Nat.le_trans (HB.out).size (by simp)) (fun b e => ((Hown.out).lt b e).1); have hown4 : w3.ownsRow w'.heap.size 34 4 v' (ts ++ [(⟨2, k, (s.extract k (k + m)).data.toList, nn⟩ : Tok)]).length (toksCells (ts ++ [⟨2, k, (s.extract k (k + m)).data.toList, nn⟩])) := (by rw [toksCells_snoc, List.length_append]; exact hown3); have Hown4 := Lib.hid hown4; have HB3 := Lib.hid hB3; clear hown3 hgrow3 hB3 hown4) | (go_at_call 16; refine (rblanks_at s (k + m) j _ _ (by omega) (by omega) hj1 Hj.out).mono ?_; rintro e wq ⟨rfl, rfl⟩))
                    go_roundw
                    case rel => exact ⟨j, _, hj2, rfl, Hown4.out, HB3.out, by simp; omega, Hf2⟩
                    case measure => simp [intOf]; omega
              · obtain rfl : x = k + m := by omega
                go_wp2_with (first | (go_at_call 17; refine (rletter_any _ _).mono ?_; rintro e wq ⟨rfl, rfl⟩) | (go_at_call 18; refine (rdigit_any _ _).mono ?_; rintro e wq ⟨rfl, rfl⟩) | (go_at_call 19; refine (rnum_yes _ nn _ (by rw [HTs.out]; omega) (by rw [HTs.out]; omega) HV.out).mono ?_; rintro e wq ⟨rfl, rfl⟩) | (at_builtin; refine wpList_append_own _ rfl (.tmp 72) (.tmp 77) 28 rfl w'.heap.size 34 i0 (.agg #[.int .i64 0, .int .i64 0, .string ⟨#[]⟩, .int .u32 0]) 4 40 Tryd.underlying28 hi hz0 hz1 hz2 rfl (by decide) _ _ _ rfl ((Hown.out).alloc _) _ 1 1 (tokCells ⟨2, k, (s.extract k (k + m)).data.toList, nn⟩) rfl rfl (rtok_new _ _ 2 k nn (s.extract k (k + m)) rfl) (tok_one _) (by unfold maxLen; omega) (by omega) (Nat.le_trans (HB.out).size (by simp)) ?_; intro v' w3 hown3 hgrow3 _; have hB3 := ((HB.out).alloc (HB.out).size _).grown hgrow3 (Nat.le_trans (HB.out).size (by simp)) (fun b e => ((Hown.out).lt b e).1); have hown4 : w3.ownsRow w'.heap.size 34 4 v' (ts ++ [(⟨2, k, (s.extract k (k + m)).data.toList, nn⟩ : Tok)]).length (toksCells (ts ++ [⟨2, k, (s.extract k (k + m)).data.toList, nn⟩])) := (by rw [toksCells_snoc, List.length_append]; exact hown3); have Hown4 := Lib.hid hown4; have HB3 := Lib.hid hB3; clear hown3 hgrow3 hB3 hown4) | (go_at_call 16; refine (rblanks_at s (k + m) j _ _ (by omega) (by omega) hj1 Hj.out).mono ?_; rintro e wq ⟨rfl, rfl⟩))
                go_roundw
                case rel => exact ⟨j, _, hj2, rfl, Hown4.out, HB3.out, by simp; omega, Hf2⟩
                case measure => simp [intOf]; omega
        · have h2' : isDigit s[k] = false := (Bool.not_eq_true _).mp h2
          clear h2
          have hsz := HTs.out
          obtain ⟨m2, hm2⟩ : ∃ m2, (signF (s.data.toList.drop k)).length = m2 := ⟨_, rfl⟩
          have hml2 : k + m2 ≤ s.size := by
            have := signF_le (s.data.toList.drop k)
            rw [hm2, List.length_drop, ← Lib.size_eq] at this
            omega
          by_cases hz : m2 = 0
          · subst hz
            have hf : tokF (s.data.toList.drop k) = .inl 100 := by
              have he := List.length_eq_zero_iff.1 hm2
              rw [Hd.out] at he
              rw [Hd.out]
              simp only [tokF, h1', h2', Bool.false_eq_true, if_false, he, beq_self_eq_true, if_true]
            have Hm2 := Lib.hid hm2
            clear hm2
            have Hg := Lib.hid (lex_fail Hf hlt Hne.out hf)
            clear hf Hf
            go_wp2
            go_loop [8] (fun i => ∃ x : Nat, k ≤ x ∧ x ≤ k + m ∧ i = .int .i64 x) (fun i => s.size - (intOf i).toNat)
            case atStart => exact ⟨k, Nat.le_refl _, by omega, rfl⟩
            case round =>
              obtain ⟨x, hx1, hx2, rfl⟩ := hrel
              by_cases hxs : x < s.size
              · have hwx := HWI.out x hx1 hxs hx2
                by_cases g1 : isLetter s[x] = true
                · have hx3 := hwx.1 (isWord_letter g1)
                  clear hwx
                  go_wp2_with (first | (go_at_call 17; refine (rletter_any _ _).mono ?_; rintro e wq ⟨rfl, rfl⟩) | (go_at_call 18; refine (rdigit_any _ _).mono ?_; rintro e wq ⟨rfl, rfl⟩))
                  go_round
                  case rel => exact ⟨x + 1, by omega, hx3, by go_num⟩
                  case measure => simp [intOf]; omega
                · have g1' : isLetter s[x] = false := (Bool.not_eq_true _).mp g1
                  clear g1
                  by_cases g2 : isDigit s[x] = true
                  · have hx3 := hwx.1 (isWord_digit g2)
                    clear hwx
                    go_wp2_with (first | (go_at_call 17; refine (rletter_any _ _).mono ?_; rintro e wq ⟨rfl, rfl⟩) | (go_at_call 18; refine (rdigit_any _ _).mono ?_; rintro e wq ⟨rfl, rfl⟩))
                    go_round
                    case rel => exact ⟨x + 1, by omega, hx3, by go_num⟩
                    case measure => simp [intOf]; omega
                  · have g2' : isDigit s[x] = false := (Bool.not_eq_true _).mp g2
                    obtain rfl : k + m = x := hwx.2 (by simp [isWord, g1', g2'])
                    clear g2 hwx
                    go_wp2_with (first | (go_at_call 17; refine (rletter_any _ _).mono ?_; rintro e wq ⟨rfl, rfl⟩) | (go_at_call 18; refine (rdigit_any _ _).mono ?_; rintro e wq ⟨rfl, rfl⟩) | (go_at_call 20; refine (rsign_at s k 0 _ (by omega) hlt Hm2.out).mono ?_; rintro e w2 ⟨rfl, hb2⟩; have HB2 := Lib.hid hb2; clear hb2))
                    go_ret3
                    unfold LexPost
                    rw [Hlex.out, Hg.out]
                    exact ⟨rfl, HB.out.trans (HB2.out.mono HB.out.size)⟩
              · obtain rfl : x = k + m := by omega
                go_wp2_with (first | (go_at_call 17; refine (rletter_any _ _).mono ?_; rintro e wq ⟨rfl, rfl⟩) | (go_at_call 18; refine (rdigit_any _ _).mono ?_; rintro e wq ⟨rfl, rfl⟩) | (go_at_call 20; refine (rsign_at s k 0 _ (by omega) hlt Hm2.out).mono ?_; rintro e w2 ⟨rfl, hb2⟩; have HB2 := Lib.hid hb2; clear hb2))
                go_ret3
                unfold LexPost
                rw [Hlex.out, Hg.out]
                exact ⟨rfl, HB.out.trans (HB2.out.mono HB.out.size)⟩
          · have hT2 : (s.extract k (k + m2)).data.toList = signF (s.data.toList.drop k) := by
              rw [extract_mid, ← hm2]
              unfold signF
              cases hq : signs.find? (·.isPrefixOf (s.data.toList.drop k)) with
              | none => simp
              | some x =>
                have hp : x.isPrefixOf (s.data.toList.drop k) = true := by simpa using List.find?_some hq
                simp only [Option.getD_some]
                exact (List.prefix_iff_eq_take.1 (List.isPrefixOf_iff_prefix.1 hp)).symm
            have hf : tokF (s.data.toList.drop k) = .inr (3, (s.extract k (k + m2)).data.toList, 0) := by
              have he : signF (s.data.toList.drop k) ≠ [] := by
                intro e
                rw [e] at hm2
                simp at hm2
                omega
              rw [hT2]
              rw [Hd.out] at he ⊢
              simp only [tokF, h1', h2', Bool.false_eq_true, if_false, beq_iff_eq, if_neg he]
            have hT2s := extract_sz s k m2 hml2
            obtain ⟨j, hj, hj1, hj2, hj3, hf2⟩ := lex_step (n := 0) (kd := 3) Hf hlt Hne.out (s.extract k (k + m2)) hT2s hf
            have Hj := Lib.hid hj
            have Hf2 := Lib.hid hf2
            clear hf hj hf2 Hf
            have Hm2 := Lib.hid hm2
            have hne2 : ((k : Int) + m2 == k) = false := by simp; omega
            clear hm2 hT2 hz
            go_wp2
            go_loop [8] (fun i => ∃ x : Nat, k ≤ x ∧ x ≤ k + m ∧ i = .int .i64 x) (fun i => s.size - (intOf i).toNat)
            case atStart => exact ⟨k, Nat.le_refl _, by omega, rfl⟩
            case round =>
              obtain ⟨x, hx1, hx2, rfl⟩ := hrel
              by_cases hxs : x < s.size
              · have hwx := HWI.out x hx1 hxs hx2
                by_cases g1 : isLetter s[x] = true
                · have hx3 := hwx.1 (isWord_letter g1)
                  clear hwx
                  go_wp2_with (first | (go_at_call 17; refine (rletter_any _ _).mono ?_; rintro e wq ⟨rfl, rfl⟩) | (go_at_call 18; refine (rdigit_any _ _).mono ?_; rintro e wq ⟨rfl, rfl⟩))
                  go_round
                  case rel => exact ⟨x + 1, by omega, hx3, by go_num⟩
                  case measure => simp [intOf]; omega
                · have g1' : isLetter s[x] = false := (Bool.not_eq_true _).mp g1
                  clear g1
                  by_cases g2 : isDigit s[x] = true
                  · have hx3 := hwx.1 (isWord_digit g2)
                    clear hwx
                    go_wp2_with (first | (go_at_call 17; refine (rletter_any _ _).mono ?_; rintro e wq ⟨rfl, rfl⟩) | (go_at_call 18; refine (rdigit_any _ _).mono ?_; rintro e wq ⟨rfl, rfl⟩))
                    go_round
                    case rel => exact ⟨x + 1, by omega, hx3, by go_num⟩
                    case measure => simp [intOf]; omega
                  · have g2' : isDigit s[x] = false := (Bool.not_eq_true _).mp g2
                    obtain rfl : k + m = x := hwx.2 (by simp [isWord, g1', g2'])
                    clear g2 hwx
                    go_wp2_with (first | (go_at_call 17; refine (rletter_any _ _).mono ?_; rintro e wq ⟨rfl, rfl⟩) | (go_at_call 18; refine (rdigit_any _ _).mono ?_; rintro e wq ⟨rfl, rfl⟩) | (go_at_call 20; refine (rsign_at s k m2 _ (by omega) hlt Hm2.out).mono ?_; rintro e w2 ⟨rfl, hb2⟩; have HB2 := Lib.hid hb2; clear hb2) | (at_builtin; refine wpList_append_own _ rfl (.tmp 88) (.tmp 95) 28 rfl w'.heap.size 34 i0 (.agg #[.int .i64 0, .int .i64 0, .string ⟨#[]⟩, .int .u32 0]) 4 40 Tryd.underlying28 hi hz0 hz1 hz2 rfl (by decide) _ _ _ rfl ((ownsRow_below Hown.out HB2.out).alloc _) _ 1 1 (tokCells ⟨3, k, (s.extract k (k + m2)).data.toList, 0⟩) rfl rfl (rtok_new _ _ 3 k 0 (s.extract k (k + m2)) rfl) (tok_one _) (by unfold maxLen; omega) (by omega) (Nat.le_trans (HB.out.trans (HB2.out.mono HB.out.size)).size (by simp)) ?_; intro v' w3 hown3 hgrow3 _; have hB3 := ((HB.out.trans (HB2.out.mono HB.out.size)).alloc (HB.out.trans (HB2.out.mono HB.out.size)).size _).grown hgrow3 (Nat.le_trans (HB.out.trans (HB2.out.mono HB.out.size)).size (by simp)) (fun b e => ((ownsRow_below Hown.out HB2.out).lt b e).1); have hown4 : w3.ownsRow w'.heap.size 34 4 v' (ts ++ [(⟨3, k, (s.extract k (k + m2)).data.toList, 0⟩ : Tok)]).length (toksCells (ts ++ [⟨3, k, (s.extract k (k + m2)).data.toList, 0⟩])) := (by rw [toksCells_snoc, List.length_append]; exact hown3); have Hown4 := Lib.hid hown4; have HB3 := Lib.hid hB3; clear hown3 hgrow3 hB3 hown4) | (go_at_call 16; refine (rblanks_at s (k + m2) j _ _ (by omega) (by omega) hj1 Hj.out).mono ?_; rintro e wq ⟨rfl, rfl⟩))
                    go_roundw
                    case rel => exact ⟨j, _, hj2, rfl, Hown4.out, HB3.out, by simp; omega, Hf2⟩
                    case measure => simp [intOf]; omega
              · obtain rfl : x = k + m := by omega
                go_wp2_with (first | (go_at_call 17; refine (rletter_any _ _).mono ?_; rintro e wq ⟨rfl, rfl⟩) | (go_at_call 18; refine (rdigit_any _ _).mono ?_; rintro e wq ⟨rfl, rfl⟩) | (go_at_call 20; refine (rsign_at s k m2 _ (by omega) hlt Hm2.out).mono ?_; rintro e w2 ⟨rfl, hb2⟩; have HB2 := Lib.hid hb2; clear hb2) | (at_builtin; refine wpList_append_own _ rfl (.tmp 88) (.tmp 95) 28 rfl w'.heap.size 34 i0 (.agg #[.int .i64 0, .int .i64 0, .string ⟨#[]⟩, .int .u32 0]) 4 40 Tryd.underlying28 hi hz0 hz1 hz2 rfl (by decide) _ _ _ rfl ((ownsRow_below Hown.out HB2.out).alloc _) _ 1 1 (tokCells ⟨3, k, (s.extract k (k + m2)).data.toList, 0⟩) rfl rfl (rtok_new _ _ 3 k 0 (s.extract k (k + m2)) rfl) (tok_one _) (by unfold maxLen; omega) (by omega) (Nat.le_trans (HB.out.trans (HB2.out.mono HB.out.size)).size (by simp)) ?_; intro v' w3 hown3 hgrow3 _; have hB3 := ((HB.out.trans (HB2.out.mono HB.out.size)).alloc (HB.out.trans (HB2.out.mono HB.out.size)).size _).grown hgrow3 (Nat.le_trans (HB.out.trans (HB2.out.mono HB.out.size)).size (by simp)) (fun b e => ((ownsRow_below Hown.out HB2.out).lt b e).1); have hown4 : w3.ownsRow w'.heap.size 34 4 v' (ts ++ [(⟨3, k, (s.extract k (k + m2)).data.toList, 0⟩ : Tok)]).length (toksCells (ts ++ [⟨3, k, (s.extract k (k + m2)).data.toList, 0⟩])) := (by rw [toksCells_snoc, List.length_append]; exact hown3); have Hown4 := Lib.hid hown4; have HB3 := Lib.hid hB3; clear hown3 hgrow3 hB3 hown4) | (go_at_call 16; refine (rblanks_at s (k + m2) j _ _ (by omega) (by omega) hj1 Hj.out).mono ?_; rintro e wq ⟨rfl, rfl⟩))
                go_roundw
                case rel => exact ⟨j, _, hj2, rfl, Hown4.out, HB3.out, by simp; omega, Hf2⟩
                case measure => simp [intOf]; omega
    · obtain rfl : k = s.size := by omega
      have hg : goal = .inr (ts ++ [⟨4, s.size, [], 0⟩]) := by
        obtain ⟨f, hf1, hf2⟩ := Hf
        rw [List.drop_of_length_le (by rw [← Lib.size_eq]; exact Nat.le_refl _), lexG_end] at hf2
        exact hf2.symm
      have Hg := Lib.hid hg
      clear hg Hf
      go_wp2_with (at_builtin; refine wpList_append_own _ rfl (.tmp 100) (.tmp 104) 28 rfl w'.heap.size 34 i0 (.agg #[.int .i64 0, .int .i64 0, .string ⟨#[]⟩, .int .u32 0]) 4 40 Tryd.underlying28 hi hz0 hz1 hz2 rfl (by decide) _ _ _ rfl (Hown.out.alloc _) _ 1 1 (tokCells ⟨4, s.size, [], 0⟩) rfl rfl (rtok_new _ _ 4 s.size 0 ⟨#[]⟩ rfl) (tok_one _) (by unfold maxLen; omega) (by omega) (Nat.le_trans HB.out.size (by simp)) ?_; intro v' w3 hown3 hgrow3 _; have hB3 := (HB.out.alloc HB.out.size _).grown hgrow3 (Nat.le_trans HB.out.size (by simp)) (fun b e => (Hown.out.lt b e).1); have Hown3 := Lib.hid hown3; have HB3 := Lib.hid hB3; clear hown3 hgrow3 hB3)
      go_ret3
      unfold LexPost
      rw [Hlex.out, Hg.out]
      refine ⟨_, rfl, ?_, HB3.out⟩
      rw [toksCells_snoc, List.length_append]
      exact Hown3.out

theorem rtokens_any (a : Option Addr) (n cap : Nat) (F : List Int) (w : World) (hF : ByteRow w a n F) (hcap : a = none → n = 0 ∧ cap = 0) (hn : n ≤ 1000000) :
    Calls Tryd.prog 10 #[.slice a n cap] w (LexPost 34 w (F.map fun n => UInt8.ofNat n.toNat)) := by
  by_cases hbig : 65536 < n
  · refine (rtokens_big a n cap w hbig hn).mono ?_
    rintro e w' ⟨rfl, rfl⟩
    have hl : lexF (F.map fun n => UInt8.ofNat n.toNat) = .inl (161, 0) := by rw [lexF, if_pos (by rw [List.length_map, hF.1]; exact hbig)]
    unfold LexPost
    rw [hl]
    exact ⟨rfl, Below.refl _ _⟩
  · exact rtokens_loop a n cap (strOfNums F) w (by rw [strOfNums_size, hF.1]) (by omega) (conv_row hF hcap)
end Go.Proofs.YtcolielkeomglaaDoor
