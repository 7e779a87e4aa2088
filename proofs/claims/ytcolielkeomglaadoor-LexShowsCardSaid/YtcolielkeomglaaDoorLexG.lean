/- lex: Tokens: the loop. -/
import Derived.Test.YtcolielkeomglaaDoorLexF
set_option maxRecDepth 100000
namespace Go.Proofs.YtcolielkeomglaaDoor
open Go.RowKit

theorem tokF_err {l : List UInt8} {c : Nat} (h : tokF l = .inl c) : 100 ≤ c := by
  unfold tokF at h
  repeat (split at h <;> try (cases h <;> decide))
  all_goals (simp at h; try omega)

theorem lexG_err {f : Nat} {l : List UInt8} {ad c : Nat} {ts : List Tok} (hl : l ≠ []) (ht : tokF l = .inl c) : lexG (f + 1) l ad ts = .inl (c, ad) := by
  simp only [lexG]
  rw [if_neg (by simpa using hl), ht]
theorem lexG_ok {f : Nat} {l : List UInt8} {ad kd n : Nat} {t : List UInt8} {ts : List Tok} (hl : l ≠ []) (ht : tokF l = .inr (kd, t, n)) :
    lexG (f + 1) l ad ts = lexG f ((l.drop t.length).drop (skipG false (l.drop t.length))) (ad + t.length + skipG false (l.drop t.length)) (ts ++ [⟨kd, ad, t, n⟩]) := by
  simp only [lexG]
  rw [if_neg (by simpa using hl), ht]
theorem lexG_end {f ad : Nat} {ts : List Tok} : lexG f [] ad ts = .inr (ts ++ [⟨4, ad, [], 0⟩]) := by
  cases f <;> simp [lexG]

theorem tok_new (W : World) (b kd k n : Nat) (T : ByteArray) (hb : b = W.heap.size) : ∀ (j : Nat) (u : Value), (tokCells ⟨kd, k, T.data.toList, n⟩)[j]? = some u →
    (W.alloc (.cells #[.int .i64 kd, .int .i64 k, .string T, .int .u32 n] 33)).cell? ((⟨b, 0, none⟩ : Addr).add j) = some u := by
  subst hb
  intro j u hj
  match j, hj with
  | 0, hj => simp [tokCells] at hj; subst hj; simp [Addr.add]
  | 1, hj => simp [tokCells] at hj; subst hj; simp [Addr.add]
  | 2, hj => simp [tokCells] at hj; subst hj; simp [Addr.add]
  | 3, hj => simp [tokCells] at hj; subst hj; simp [Addr.add]

theorem tok_one (t : Tok) : ∀ u ∈ tokCells t, u.oneCell' = true := by
  intro u hu
  simp [tokCells] at hu
  rcases hu with rfl | rfl | rfl | rfl <;> rfl

theorem tokens_loop (a : Option Addr) (n cap : Nat) (s : ByteArray) (w : World) (hS : HasSigns w) (hn : s.size = n) (hle : n ≤ 65536) (hconv : (convert 22 9 (.slice a n cap)).run Tryd.prog w = .ok (.string s) w) :
    Calls Tryd.prog 9 #[.slice a n cap] w (LexPost 33 w s.data.toList) := by
  subst hn
  obtain ⟨i0, hi, hz0, hz1, hz2⟩ := info_parts Tryd.infoTok
  obtain ⟨goal, hgoal⟩ : ∃ g, g = lexG s.data.toList.length (s.data.toList.drop (skipG false s.data.toList)) (skipG false s.data.toList) [] := ⟨_, rfl⟩
  have hlex : lexF s.data.toList = goal := by
    rw [hgoal, lexF, if_neg (by rw [← Lib.size_eq]; omega)]
  obtain ⟨k0, hk0⟩ : ∃ k, k = skipG false s.data.toList := ⟨_, rfl⟩
  have hk0le : k0 ≤ s.size := by rw [hk0, Lib.size_eq]; exact skipG_le _ _
  have hsk : ∀ w' : World, Calls Tryd.prog 14 #[.string s, .int .i64 0] w' fun e w'' => e = .returned (.int .i64 k0) ∧ w'' = w' := by
    intro w'
    have h := skip_any s 0 w' (by omega) (Nat.zero_le _)
    rw [List.drop_zero, Nat.zero_add, ← hk0] at h
    exact h
  rw [← hk0, ← Lib.size_eq] at hgoal
  have Hgoal := Lib.hid hgoal
  have Hlex := Lib.hid hlex
  have Hsk := Lib.hid hsk
  clear hgoal hlex hk0 hsk
  go_enter Tryd.func9, Tryd.ntmps9
  go_wp2_with (go_at_call 14; refine (Hsk.out _).mono ?_; rintro e w' ⟨rfl, rfl⟩)
  clear Hsk
  go_loopw [6, 7] (fun v i wr => ∃ (k : Nat) (ts : List Tok), k ≤ s.size ∧ i = .int .i64 k ∧ wr.ownsRow w'.heap.size 33 4 v ts.length (toksCells ts) ∧ Below w'.heap.size w' wr ∧ ts.length ≤ k ∧ Hid (∃ f, s.size - k ≤ f ∧ lexG f (s.data.toList.drop k) k ts = goal)) (fun _ i _ => s.size - (intOf i).toNat)
  case atStart => exact ⟨k0, [], hk0le, rfl, World.ownsRow_nil _ _ _ _, Below.refl _ _, Nat.zero_le _, ⟨s.size, by omega, Hgoal.out.symm⟩⟩
  case round =>
    obtain ⟨k, ts, hk, rfl, hown, hB, htk, Hf⟩ := hrel
    by_cases hlt : k < s.size
    · have hne : s.data.toList.drop k ≠ [] := by
        intro e
        have := congrArg List.length e
        rw [List.length_drop, ← Lib.size_eq] at this
        simp at this
        omega
      have hSr := hS.below hB
      cases ht : tokF (s.data.toList.drop k) with
      | inl c =>
        have hg : goal = .inl (c, k) := by
          obtain ⟨f, hf1, hf2⟩ := Hf
          obtain ⟨f', rfl⟩ : ∃ f', f = f' + 1 := ⟨f - 1, by omega⟩
          rw [lexG_err hne ht] at hf2
          exact hf2.symm
        have Hg := Lib.hid hg
        have Ht := Lib.hid ht
        have HB := Lib.hid hB
        have HSr := Lib.hid hSr
        clear hg ht hne hB hSr hown Hf hS
        have hc : ((c : Int) != 0) = true := by
          have := tokF_err Ht.out
          simp; omega
        go_wp2_with (go_at_call 15; refine (next_err s k c _ (by omega) hlt HSr.out Ht.out).mono ?_; rintro e w2 ⟨rfl, hb2⟩)
        go_ret3
        unfold LexPost
        rw [Hlex.out, Hg.out]
        have hB2 := HB.out.trans (hb2.mono HB.out.size)
        exact ⟨rfl, hB2.alloc hB2.size _⟩
      | inr x =>
        obtain ⟨kd, t, n⟩ := x
        obtain ⟨T, hT⟩ : ∃ T : ByteArray, T = ⟨t.toArray⟩ := ⟨_, rfl⟩
        obtain rfl : t = T.data.toList := by rw [hT]
        obtain ⟨l1, l2, _⟩ := tokF_len ht
        rw [← Lib.size_eq] at l1 l2
        rw [List.length_drop, ← Lib.size_eq] at l2
        have hf : ∃ f, s.size - (k + T.size + skipG false (s.data.toList.drop (k + T.size))) ≤ f ∧ lexG f (s.data.toList.drop (k + T.size + skipG false (s.data.toList.drop (k + T.size)))) (k + T.size + skipG false (s.data.toList.drop (k + T.size))) (ts ++ [⟨kd, k, T.data.toList, n⟩]) = goal := by
          obtain ⟨f, hf1, hf2⟩ := Hf
          obtain ⟨f', rfl⟩ : ∃ f', f = f' + 1 := ⟨f - 1, by omega⟩
          rw [lexG_ok hne ht] at hf2
          have e1 : (s.data.toList.drop k).drop T.data.toList.length = s.data.toList.drop (k + T.size) := by rw [List.drop_drop, ← Lib.size_eq]
          rw [e1, ← Lib.size_eq, List.drop_drop] at hf2
          exact ⟨f', by omega, hf2⟩
        have hsl := skipG_le false (s.data.toList.drop (k + T.size))
        rw [List.length_drop, ← Lib.size_eq] at hsl
        obtain ⟨j, hj⟩ : ∃ j, j = k + T.size + skipG false (s.data.toList.drop (k + T.size)) := ⟨_, rfl⟩
        have hsk : ∀ wx : World, Calls Tryd.prog 14 #[.string s, .int .i64 (k + T.size)] wx fun e w'' => e = .returned (.int .i64 j) ∧ w'' = wx := by
          intro wx
          have h := skip_any s (k + T.size) wx (by omega) (by omega)
          rw [← hj] at h
          exact h
        rw [← hj] at hf
        have hj1 : j ≤ s.size := by omega
        have hj2 : k + 1 ≤ j := by omega
        have Hf2 := Lib.hid hf
        have Hsk := Lib.hid hsk
        have Ht := Lib.hid ht
        have HB := Lib.hid hB
        have HSr := Lib.hid hSr
        have Hown := Lib.hid hown
        have hlen := toksCells_len ts
        have Hlen := Lib.hid hlen
        clear hf hsk ht hB hSr hown Hf hS hne hT hsl hj hlen
        go_wp2_with (first | (go_at_call 15; refine (next_ok s k kd n T _ (by omega) hlt HSr.out Ht.out).mono ?_; rintro e w2 ⟨rfl, hb2⟩; have HB2 := Lib.hid hb2; clear hb2) | (at_builtin; refine wpList_append_own _ rfl (.tmp 34) (.tmp 36) 24 rfl w'.heap.size 33 i0 (.agg #[.int .i64 0, .int .i64 0, .string ⟨#[]⟩, .int .u32 0]) 4 40 Tryd.underlying24 hi hz0 hz1 hz2 rfl (by decide) _ _ _ rfl (((ownsRow_below Hown.out HB2.out).alloc _).alloc _) ⟨w2.heap.size + 1, 0, none⟩ 1 1 (tokCells ⟨kd, k, T.data.toList, n⟩) rfl rfl ?c1 ?c2 ?c3 ?c4 ?c5 ?_))
        case c1 => exact tok_new _ _ kd k n T (by simp)
        case c2 => exact tok_one _
        case c3 => unfold maxLen; omega
        case c4 => omega
        case c5 =>
          have h1 := HB.out.size
          have h2 := HB2.out.size
          simp
          omega
        intro v' w3 hown3 hgrow3 _
        have hne6 := (ownsRow_below Hown.out HB2.out).lt
        have hcT : w3.cell? ⟨w2.heap.size, 2, none⟩ = some (.string T) := hgrow3.cell (by simp) (fun e => by exact Nat.lt_irrefl _ (hne6 _ e.symm).2)
        have hB2 := HB.out.trans (HB2.out.mono HB.out.size)
        have hB3 := ((hB2.alloc hB2.size _).alloc (by have := hB2.size; simp; omega) _).grown hgrow3 (by have := hB2.size; simp; omega) (fun b e => (hne6 b e).1)
        have hown4 : w3.ownsRow w'.heap.size 33 4 v' (ts ++ [(⟨kd, k, T.data.toList, n⟩ : Tok)]).length (toksCells (ts ++ [⟨kd, k, T.data.toList, n⟩])) := by
          rw [toksCells_snoc, List.length_append]
          exact hown3
        have Hown4 := Lib.hid hown4
        have HB3 := Lib.hid hB3
        clear hown3 hown4 hgrow3 hne6 hB2 hB3
        go_wp2_with (go_at_call 14; refine (Hsk.out _).mono ?_; rintro e wz ⟨rfl, rfl⟩)
        go_roundw
        case rel => exact ⟨j, _, hj1, rfl, Hown4.out, HB3.out, by simp; omega, Hf2.out⟩
        case measure => simp [intOf]; omega
    · obtain rfl : k = s.size := by omega
      have hg : goal = .inr (ts ++ [⟨4, s.size, [], 0⟩]) := by
        obtain ⟨f, hf1, hf2⟩ := Hf
        rw [List.drop_of_length_le (by rw [← Lib.size_eq]; exact Nat.le_refl _), lexG_end] at hf2
        exact hf2.symm
      have Hg := Lib.hid hg
      have HB := Lib.hid hB
      have Hown := Lib.hid hown
      clear hg hB hown Hf hS
      go_wp2_with (at_builtin; refine wpList_append_own _ rfl (.tmp 43) (.tmp 47) 24 rfl w'.heap.size 33 i0 (.agg #[.int .i64 0, .int .i64 0, .string ⟨#[]⟩, .int .u32 0]) 4 40 Tryd.underlying24 hi hz0 hz1 hz2 rfl (by decide) _ _ _ rfl (Hown.out.alloc _) ⟨wr.heap.size, 0, none⟩ 1 1 (tokCells ⟨4, s.size, [], 0⟩) rfl rfl ?d1 ?d2 ?d3 ?d4 ?d5 ?_)
      case d1 => exact tok_new wr _ 4 s.size 0 ⟨#[]⟩ rfl
      case d2 => exact tok_one _
      case d3 => unfold maxLen; omega
      case d4 => omega
      case d5 => have h1 := HB.out.size; simp; omega
      intro v' w3 hown3 hgrow3 _
      have hne6 := Hown.out.lt
      have hB3 := (HB.out.alloc HB.out.size _).grown hgrow3 (by have := HB.out.size; simp; omega) (fun b e => (hne6 b e).1)
      have Hown3 := Lib.hid hown3
      have HB3 := Lib.hid hB3
      clear hown3 hgrow3 hne6 hB3
      go_wp2
      go_ret3
      unfold LexPost
      rw [Hlex.out, Hg.out]
      refine ⟨_, rfl, ?_, HB3.out⟩
      rw [toksCells_snoc, List.length_append]
      exact Hown3.out
end Go.Proofs.YtcolielkeomglaaDoor
