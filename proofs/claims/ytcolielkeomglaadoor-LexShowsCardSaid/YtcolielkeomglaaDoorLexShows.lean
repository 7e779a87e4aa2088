/- Tokens that are shown are read again: plain law. -/
import Derived.Test.YtcolielkeomglaaDoorTokAt
set_option linter.unusedVariables false
namespace Go.Proofs.YtcolielkeomglaaDoor

/-- What is shown of tokens. -/
def showF : List Tok → List UInt8
  | [] => []
  | t :: r => (if t.kind == 4 then [] else t.text ++ [32]) ++ showF r

theorem showF_append : ∀ (a b : List Tok), showF (a ++ b) = showF a ++ showF b
  | [], b => rfl
  | t :: a, b => by rw [List.cons_append, showF, showF, showF_append a b, List.append_assoc]

/-- A text, a blank, and another text. -/
abbrev K (b l : List UInt8) : List UInt8 := l ++ 32 :: b

theorem wordN_K (b : List UInt8) : ∀ (l : List UInt8), wordN (K b l) = wordN l
  | [] => by simp [wordN, K, isWord, isLetter, isDigit]
  | c :: r => by
    have ih := wordN_K b r
    by_cases hc : isWord c = true
    · show wordN (c :: (K b r)) = wordN (c :: r)
      rw [wordN_cons hc, wordN_cons hc, ih]
    · show wordN (c :: (K b r)) = wordN (c :: r)
      simp [wordN, hc]

theorem prefix_K (b : List UInt8) : ∀ (x l : List UInt8), (∀ y ∈ x, y ≠ 32) → x.isPrefixOf (K b l) = x.isPrefixOf l
  | [], l, _ => by simp
  | y :: x, [], h => by
    have : y ≠ 32 := h y (by simp)
    simp [K, List.isPrefixOf, this]
  | y :: x, c :: l, h => by
    have ih := prefix_K b x l (fun z hz => h z (by simp [hz]))
    show (y == c && x.isPrefixOf (K b l)) = (y == c && x.isPrefixOf l)
    rw [ih]

theorem find_same {α : Type} (p q : α → Bool) : ∀ (l : List α), (∀ x ∈ l, p x = q x) → l.find? p = l.find? q
  | [], _ => rfl
  | x :: l, h => by
    rw [List.find?_cons, List.find?_cons, h x (by simp), find_same p q l (fun y hy => h y (by simp [hy]))]

theorem sign_no_blank : ∀ x ∈ signs, ∀ y ∈ x, y ≠ 32 := by decide
theorem sign_self : ∀ x ∈ signs, signF x = x := by decide
theorem sign_skip : ∀ x ∈ signs, skipG false (x ++ [32]) = 0 := by decide

theorem signF_K (b l : List UInt8) : signF (K b l) = signF l := by
  unfold signF
  rw [find_same _ (·.isPrefixOf l) signs (fun x hx => prefix_K b x l (sign_no_blank x hx))]

theorem tokF_K (b l : List UInt8) (h : l ≠ []) : tokF (K b l) = tokF l := by
  cases l with
  | nil => exact absurd rfl h
  | cons c r =>
    have h1 := wordN_K b (c :: r)
    have h2 := signF_K b (c :: r)
    have h3 : (K b (c :: r)).take (wordN (c :: r)) = (c :: r).take (wordN (c :: r)) := List.take_append_of_le_length (wordN_le _)
    show tokF (c :: (K b r)) = tokF (c :: r)
    have e : (c :: (K b r)) = K b (c :: r) := rfl
    unfold tokF
    simp only [e, h1, h2, h3]

theorem wordN_take : ∀ (l : List UInt8), wordN (l.take (wordN l)) = wordN l
  | [] => by simp [wordN]
  | c :: r => by
    have ih := wordN_take r
    by_cases hc : isWord c = true
    · rw [wordN_cons hc, Nat.add_comm, List.take_succ_cons, wordN_cons hc, ih, Nat.add_comm]
    · have : wordN (c :: r) = 0 := by simp [wordN, hc]
      rw [this]; simp [wordN]

theorem word_no_blank {c : UInt8} (h : isWord c = true) : isBlank c = false ∧ (c == 47) = false := by
  refine ⟨?_, ?_⟩
  · rw [Bool.eq_false_iff]
    intro h2
    simp only [isBlank, Bool.or_eq_true, beq_iff_eq] at h2
    rcases h2 with ((rfl | rfl) | rfl) | rfl <;> exact absurd h (by decide)
  · rw [Bool.eq_false_iff]
    intro h2
    simp only [beq_iff_eq] at h2
    subst h2
    exact absurd h (by decide)

theorem word_skip {c : UInt8} (h : isWord c = true) (u : List UInt8) : skipG false (c :: u) = 0 := by
  obtain ⟨h1, h2⟩ := word_no_blank h
  simp [skipG, h1, h2]

theorem skip_head (c : UInt8) (t r : List UInt8) (h : skipG false (c :: (t ++ [32])) = 0) : skipG false (c :: (t ++ 32 :: r)) = 0 := by
  have e : (t ++ 32 :: r).head? = (t ++ [32]).head? := by cases t <;> rfl
  simp only [skipG] at h ⊢
  rw [e]
  split at h
  · omega
  · split at h
    · omega
    · rename_i h1 h2
      rw [if_neg h1, if_neg h2]

/-- A token that is read again wherever it stands ahead of a blank. -/
def Again (t : Tok) : Prop := (t.kind == 4) = false ∧ 1 ≤ t.text.length ∧ ∀ r, tokF (K r t.text) = .inr (t.kind, t.text, t.num) ∧ skipG false (K r t.text) = 0

theorem tok_self {l : List UInt8} {k n : Nat} {t : List UInt8} (h : tokF l = .inr (k, t, n)) : (k == 4) = false ∧ tokF t = .inr (k, t, n) ∧ ∀ r, skipG false (K r t) = 0 := by
  obtain ⟨l1, l2, l3⟩ := tokF_len h
  cases l with
  | nil => simp only [List.length_nil] at l2; omega
  | cons c r =>
    obtain ⟨u, rfl⟩ : ∃ u, t = c :: u := by
      cases t with
      | nil => simp at l1
      | cons d u =>
        rw [List.length_cons, List.take_succ_cons] at l3
        exact ⟨u, by rw [(List.cons.inj l3).1]⟩
    unfold tokF at h
    simp only at h
    by_cases hc : isLetter c = true
    · rw [if_pos hc] at h
      split at h
      · cases h
      · rename_i hw
        simp only [Sum.inr.injEq, Prod.mk.injEq] at h
        obtain ⟨rfl, ht, rfl⟩ := h
        refine ⟨rfl, ?_, fun r => word_skip (isWord_letter hc) _⟩
        have e := wordN_take (c :: r)
        rw [ht] at e
        have el : (c :: u).length = wordN (c :: r) := by rw [← ht, List.length_take, Nat.min_eq_left (wordN_le _)]
        unfold tokF
        simp only [hc, if_true]
        rw [e, if_neg hw, ← el, List.take_length]
    · rw [if_neg hc] at h
      by_cases hd : isDigit c = true
      · rw [if_pos hd] at h
        split at h
        · cases h
        · rename_i v hv
          simp only [Sum.inr.injEq, Prod.mk.injEq] at h
          obtain ⟨rfl, ht, rfl⟩ := h
          refine ⟨rfl, ?_, fun r => word_skip (isWord_digit hd) _⟩
          have e := wordN_take (c :: r)
          rw [ht] at e hv
          have el : (c :: u).length = wordN (c :: r) := by rw [← ht, List.length_take, Nat.min_eq_left (wordN_le _)]
          unfold tokF
          simp only
          rw [if_neg hc, if_pos hd, e, ← el, List.take_length, hv]
      · rw [if_neg hd] at h
        split at h
        · cases h
        · rename_i hs
          simp only [Sum.inr.injEq, Prod.mk.injEq] at h
          obtain ⟨rfl, ht, rfl⟩ := h
          have hm : (c :: u) ∈ signs := by
            unfold signF at ht
            cases hf : signs.find? (·.isPrefixOf (c :: r)) with
            | none => rw [hf] at ht; cases ht
            | some x =>
              rw [hf] at ht
              have := List.mem_of_find?_eq_some hf
              simp only [Option.getD_some] at ht
              rw [← ht]; exact this
          refine ⟨rfl, ?_, fun r => skip_head c u r (sign_skip _ hm)⟩
          have e := sign_self _ hm
          unfold tokF
          simp only
          rw [if_neg hc, if_neg hd, e, if_neg (by simp)]

theorem tok_again {l : List UInt8} {k n ad : Nat} {t : List UInt8} (h : tokF l = .inr (k, t, n)) : Again ⟨k, ad, t, n⟩ := by
  obtain ⟨h1, h2, h3⟩ := tok_self h
  obtain ⟨l1, _, _⟩ := tokF_len h
  refine ⟨h1, l1, fun r => ⟨?_, h3 r⟩⟩
  rw [tokF_K r t (by intro e; rw [e] at l1; simp at l1)]
  exact h2

/-- A token but for its place. -/
def Tok.bare (t : Tok) : Nat × List UInt8 × Nat := (t.kind, t.text, t.num)

theorem showF_cons {t : Tok} {r : List Tok} (h : Again t) : showF (t :: r) = K (showF r) t.text := by
  rw [showF, h.1]
  simp [K]

theorem skip_show {ts : List Tok} (h : ∀ t ∈ ts, Again t) : skipG false (showF ts) = 0 := by
  cases ts with
  | nil => rfl
  | cons t r =>
    rw [showF_cons (h t (by simp))]
    exact ((h t (by simp)).2.2 _).2

theorem lexG_show : ∀ (ts : List Tok) (f ad : Nat) (out : List Tok), (∀ t ∈ ts, Again t) → (showF ts).length ≤ f → ∃ us e, lexG f (showF ts) ad out = .inr (out ++ us ++ [⟨4, e, [], 0⟩]) ∧ us.map Tok.bare = ts.map Tok.bare
  | [], f, ad, out, _, _ => by
    refine ⟨[], ad, ?_, rfl⟩
    cases f <;> simp [lexG, showF]
  | t :: r, 0, ad, out, h, hf => by
    rw [showF_cons (h t (by simp))] at hf
    simp [K] at hf
  | t :: r, f + 1, ad, out, h, hf => by
    have ht := h t (by simp)
    rw [showF_cons ht] at hf ⊢
    have e1 : (K (showF r) t.text).drop t.text.length = 32 :: showF r := by simp [K]
    have e2 : skipG false (32 :: showF r) = 1 := by
      rw [skipG, if_pos (by decide), skip_show (fun x hx => h x (by simp [hx]))]
    have e3 : (32 :: showF r).drop 1 = showF r := rfl
    unfold lexG
    rw [if_neg (by simp [K]), (ht.2.2 _).1]
    simp only
    rw [e1, e2, e3]
    obtain ⟨us, e, h1, h2⟩ := lexG_show r f (ad + t.text.length + 1) (out ++ [⟨t.kind, ad, t.text, t.num⟩]) (fun x hx => h x (by simp [hx])) (by simp [K] at hf; omega)
    refine ⟨⟨t.kind, ad, t.text, t.num⟩ :: us, e, ?_, ?_⟩
    · rw [h1]; simp
    · simp only [List.map_cons, h2]; rfl

theorem lexG_again : ∀ (f : Nat) (l : List UInt8) (ad : Nat) (out ts : List Tok), lexG f l ad out = .inr ts → ∃ r e, ts = out ++ r ++ [⟨4, e, [], 0⟩] ∧ (∀ t ∈ r, Again t) ∧ (showF r).length ≤ 2 * l.length
  | 0, l, ad, out, ts, h => by
    simp only [lexG, Sum.inr.injEq] at h
    exact ⟨[], ad, by simp [h], by simp, by simp [showF]⟩
  | f + 1, l, ad, out, ts, h => by
    unfold lexG at h
    split at h
    · simp only [Sum.inr.injEq] at h
      exact ⟨[], ad, by simp [h], by simp, by simp [showF]⟩
    · split at h
      · cases h
      · rename_i k t n ht
        obtain ⟨l1, l2, _⟩ := tokF_len ht
        obtain ⟨r, e, h1, h2, h3⟩ := lexG_again f _ _ _ _ h
        have ha : Again ⟨k, ad, t, n⟩ := tok_again ht
        refine ⟨⟨k, ad, t, n⟩ :: r, e, by rw [h1]; simp, ?_, ?_⟩
        · intro x hx
          rcases List.mem_cons.1 hx with rfl | hx
          · exact ha
          · exact h2 x hx
        · rw [showF_cons ha]
          simp only [K, List.length_append, List.length_cons, List.length_drop] at h3 ⊢
          omega

theorem lexF_show {s : List UInt8} {ts : List Tok} (h : lexF s = .inr ts) (hs : s.length ≤ 20000) : ∃ us, lexF (showF ts) = .inr us ∧ us.map Tok.bare = ts.map Tok.bare ∧ (showF ts).length ≤ 40000 := by
  unfold lexF at h
  split at h
  · cases h
  · obtain ⟨r, e, h1, h2, h3⟩ := lexG_again _ _ _ _ _ h
    rw [List.nil_append] at h1
    have h4 : showF ts = showF r := by rw [h1, showF_append]; simp [showF]
    have h5 : (showF r).length ≤ 40000 := by
      rw [List.length_drop] at h3
      omega
    obtain ⟨us, e2, h6, h7⟩ := lexG_show r (showF r).length 0 [] h2 (Nat.le_refl _)
    refine ⟨us ++ [⟨4, e2, [], 0⟩], ?_, ?_, by rw [h4]; exact h5⟩
    · rw [h4, lexF, if_neg (by omega), skip_show h2, List.drop_zero, h6, List.nil_append]
    · rw [h1, List.map_append, List.map_append, h7]; rfl
end Go.Proofs.YtcolielkeomglaaDoor
