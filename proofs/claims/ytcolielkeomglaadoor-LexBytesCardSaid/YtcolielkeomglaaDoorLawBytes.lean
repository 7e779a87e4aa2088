/- LexBytes: the walk. -/
import Derived.Test.YtcolielkeomglaaDoorLexH
set_option maxRecDepth 100000
namespace Go.Proofs.YtcolielkeomglaaDoor
open Go.RowKit

/-- The first token's kind. -/
def kind0 : List Tok → Nat
  | t :: _ => t.kind
  | [] => 0

theorem lex_one (c : UInt8) : (match lexF [c] with
    | .inl (e, _) => decide (100 ≤ e) && (!isLetter c && !isDigit c)
    | .inr ts => decide (1 ≤ ts.length) && ((isLetter c == (ts.length == 2 && kind0 ts == 1)) && (isDigit c == (ts.length == 2 && kind0 ts == 2)))) = true := by
  have := all_bytes (p := fun c => (match lexF [c] with
    | .inl (e, _) => decide (100 ≤ e) && (!isLetter c && !isDigit c)
    | .inr ts => decide (1 ≤ ts.length) && ((isLetter c == (ts.length == 2 && kind0 ts == 1)) && (isDigit c == (ts.length == 2 && kind0 ts == 2))))) (by decide +kernel) c
  exact this

theorem toks_kind {ts : List Tok} (h : 0 < ts.length) : (toksCells ts)[0]? = some (.int .i64 (kind0 ts)) := by
  cases ts with
  | nil => simp at h
  | cons t r => rfl

theorem lexBytes_walk (c : UInt8) (w : World) (hS : HasSigns w) :
    Calls Tryd.prog 5 #[.int .u8 c.toNat] w fun e w' => e = .returned (.bool true) ∧ Below w.heap.size w w' := by
  have h1 := lex_one c
  have HS := Lib.hid hS
  clear hS
  have hrow : ∀ w : World, ByteRow (w.alloc (.cells #[.int .u8 c.toNat] 5)) (some ⟨w.heap.size, 0, none⟩) 1 [(c.toNat : Int)] := by
    intro w
    have := c.toNat_lt
    refine ⟨rfl, fun x hx => ?_, .inr ⟨w.heap.size, 0, rfl, by simp, fun i hi => ?_⟩⟩
    · simp only [List.mem_singleton] at hx
      omega
    · obtain rfl : i = 0 := by omega
      rw [World.cell?_alloc_at _ _ _ _ rfl]
      rfl
  have hbs : bytesOf [(c.toNat : Int)] = [c] := by simp [bytesOf]
  have Hrow := Lib.hid hrow
  clear hrow
  cases hl : lexF [c] with
  | inl x =>
    obtain ⟨e, p⟩ := x
    rw [hl] at h1
    simp only [Bool.and_eq_true, decide_eq_true_eq, Bool.not_eq_true'] at h1
    obtain ⟨he, hl1, hd1⟩ := h1
    have he2 : ((e : Int) == 0) = false := by simp; omega
    have Hl := Lib.hid hl
    have Hbs := Lib.hid hbs
    clear hl hbs he
    go_enter Tryd.func5, Tryd.ntmps5
    go_wp2_with fail
    refine (anchor09 w HS.out).mono ?_
    rintro ee w1 ⟨rfl, hb1⟩
    go_wp2_with fail
    refine (tokens_any _ 1 1 _ _ (Hrow.out w1) (fun e => by cases e) (by omega) ((HS.out.below hb1).below ((Below.refl _ _).alloc (Nat.le_refl _) _))).mono ?_
    intro ee w2 h
    unfold LexPost at h
    rw [Hbs.out, Hl.out] at h
    obtain ⟨rfl, hb2⟩ := h
    have hb3 := (hb1.alloc hb1.size _).trans (hb2.mono (by have := hb1.size; simp; omega))
    have Hb := Lib.hid hb3
    clear hb1 hb2 hb3
    go_wp2_with (first | (go_at_call 11; refine (letter_any c _).mono ?_; rintro e w' ⟨rfl, rfl⟩) | (go_at_call 12; refine (digit_any c _).mono ?_; rintro e w' ⟨rfl, rfl⟩))
    go_ret
    exact ⟨rfl, Hb.out⟩
  | inr ts =>
    rw [hl] at h1
    simp only [Bool.and_eq_true, decide_eq_true_eq, beq_iff_eq] at h1
    obtain ⟨hn, hl1, hd1⟩ := h1
    have Hl := Lib.hid hl
    have Hbs := Lib.hid hbs
    have Hk := Lib.hid (toks_kind hn)
    obtain ⟨n, hnn⟩ : ∃ n, n = ts.length := ⟨_, rfl⟩
    obtain ⟨k, hkk⟩ : ∃ k, k = kind0 ts := ⟨_, rfl⟩
    rw [← hnn] at hn hl1 hd1
    rw [← hkk] at hl1 hd1
    have Hn := Lib.hid hnn
    have Hkk := Lib.hid hkk
    clear hl hbs hnn hkk
    go_enter Tryd.func5, Tryd.ntmps5
    go_wp2_with fail
    refine (anchor09 w HS.out).mono ?_
    rintro ee w1 ⟨rfl, hb1⟩
    go_wp2_with fail
    refine (tokens_any _ 1 1 _ _ (Hrow.out w1) (fun e => by cases e) (by omega) ((HS.out.below hb1).below ((Below.refl _ _).alloc (Nat.le_refl _) _))).mono ?_
    intro ee w2 h
    unfold LexPost at h
    rw [Hbs.out, Hl.out] at h
    obtain ⟨v, rfl, hown, hb2⟩ := h
    have hb3 := (hb1.alloc hb1.size _).trans (hb2.mono (by have := hb1.size; simp; omega))
    have Hb := Lib.hid hb3
    obtain ⟨g, cp, rfl, _, _, _, hc⟩ := toks_at hown (by rw [← Hn.out]; omega)
    have c0 := hc 0 (by rw [← Hn.out]; omega)
    rw [Hk.out, ← Hkk.out] at c0
    rw [← Hn.out]
    clear hb1 hb2 hb3 hown hc
    by_cases h2 : n = 2
    · subst h2
      by_cases h3 : k = 1
      · subst h3
        simp at hl1 hd1
        go_wp2_with (first | (go_at_call 11; refine (letter_any c _).mono ?_; rintro e w' ⟨rfl, rfl⟩) | (go_at_call 12; refine (digit_any c _).mono ?_; rintro e w' ⟨rfl, rfl⟩))
        go_ret
        exact ⟨rfl, Hb.out⟩
      · have h3' : ((k : Int) == 1) = false := by simp; omega
        by_cases h4 : k = 2
        · subst h4
          simp at hl1 hd1
          go_wp2_with (first | (go_at_call 11; refine (letter_any c _).mono ?_; rintro e w' ⟨rfl, rfl⟩) | (go_at_call 12; refine (digit_any c _).mono ?_; rintro e w' ⟨rfl, rfl⟩))
          go_ret
          exact ⟨rfl, Hb.out⟩
        · have h4' : ((k : Int) == 2) = false := by simp; omega
          have hl2 : isLetter c = false := by rw [hl1]; simp [h3]
          have hd2 : isDigit c = false := by rw [hd1]; simp [h4]
          clear h3 h4 hl1 hd1
          go_wp2_with (first | (go_at_call 11; refine (letter_any c _).mono ?_; rintro e w' ⟨rfl, rfl⟩) | (go_at_call 12; refine (digit_any c _).mono ?_; rintro e w' ⟨rfl, rfl⟩))
          go_ret
          exact ⟨rfl, Hb.out⟩
    · have h2' : ((n : Int) == 2) = false := by simp; omega
      have hl2 : isLetter c = false := by rw [hl1]; simp [h2]
      have hd2 : isDigit c = false := by rw [hd1]; simp [h2]
      clear h2 hl1 hd1
      go_wp2_with (first | (go_at_call 11; refine (letter_any c _).mono ?_; rintro e w' ⟨rfl, rfl⟩) | (go_at_call 12; refine (digit_any c _).mono ?_; rintro e w' ⟨rfl, rfl⟩))
      go_ret
      exact ⟨rfl, Hb.out⟩
end Go.Proofs.YtcolielkeomglaaDoor
