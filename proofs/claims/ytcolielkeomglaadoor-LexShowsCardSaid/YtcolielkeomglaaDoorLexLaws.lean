/- Laws of tokens, in plain Lean: places that are shifted, fuel, two texts with a line end between, gaps. -/
import Derived.Test.YtcolielkeomglaaDoorLexSpec
set_option linter.unusedVariables false
namespace Go.Proofs.YtcolielkeomglaaDoor

/-- A text, a line end, and another text. -/
abbrev J (b l : List UInt8) : List UInt8 := l ++ 10 :: b

theorem skipJ (b : List UInt8) : ∀ (m : Bool) (l : List UInt8), (skipG m l < l.length ∧ skipG m (J b l) = skipG m l) ∨ (skipG m l = l.length ∧ skipG m (J b l) = l.length + 1 + skipG false b)
  | true, [] => .inr ⟨rfl, by simp [J, skipG]⟩
  | false, [] => .inr ⟨rfl, by simp [J, skipG, isBlank]⟩
  | true, c :: r => by
    have ih := skipJ b (c != 10) r
    simp only [J, List.cons_append, skipG, List.length_cons] at *
    omega
  | false, c :: r => by
    have ih1 := skipJ b false r
    have ih2 := skipJ b true r
    simp only [J, List.cons_append, skipG, List.length_cons] at *
    by_cases hb : isBlank c = true
    · simp only [hb, if_true]
      omega
    · have hb' : isBlank c = false := (Bool.not_eq_true _).mp hb
      simp only [hb', Bool.false_eq_true, if_false]
      by_cases hr : (c == 47 && r.head? == some 47) = true
      · have hr2 : (c == 47 && (r ++ 10 :: b).head? == some 47) = true := by
          cases r with
          | nil => simp at hr
          | cons d r => simpa using hr
        simp only [hr, hr2, if_true]
        omega
      · have hr2 : (c == 47 && (r ++ 10 :: b).head? == some 47) = false := by
          cases r with
          | nil => simp
          | cons d r => simpa using hr
        have hr3 : (c == 47 && r.head? == some 47) = false := (Bool.not_eq_true _).mp hr
        rw [hr2, hr3]
        exact .inl ⟨by simp, rfl⟩

theorem wordN_J (b : List UInt8) : ∀ (l : List UInt8), wordN (J b l) = wordN l
  | [] => by simp [wordN, J, isWord, isLetter, isDigit]
  | c :: r => by
    have ih := wordN_J b r
    by_cases hc : isWord c = true
    · show wordN (c :: (J b r)) = wordN (c :: r)
      rw [wordN_cons hc, wordN_cons hc, ih]
    · show wordN (c :: (J b r)) = wordN (c :: r)
      simp [wordN, hc]

theorem prefix_J (b : List UInt8) : ∀ (x l : List UInt8), (∀ y ∈ x, y ≠ 10) → x.isPrefixOf (J b l) = x.isPrefixOf l
  | [], l, _ => by simp
  | y :: x, [], h => by
    have : y ≠ 10 := h y (by simp)
    simp [J, List.isPrefixOf, this]
  | y :: x, c :: l, h => by
    have ih := prefix_J b x l (fun z hz => h z (by simp [hz]))
    show (y == c && x.isPrefixOf (J b l)) = (y == c && x.isPrefixOf l)
    rw [ih]

theorem find_congr {α : Type} (p q : α → Bool) : ∀ (l : List α), (∀ x ∈ l, p x = q x) → l.find? p = l.find? q
  | [], _ => rfl
  | x :: l, h => by
    rw [List.find?_cons, List.find?_cons, h x (by simp), find_congr p q l (fun y hy => h y (by simp [hy]))]

theorem sign_no_line : ∀ x ∈ signs, ∀ y ∈ x, y ≠ 10 := by decide

theorem signF_J (b l : List UInt8) : signF (J b l) = signF l := by
  unfold signF
  rw [find_congr _ (·.isPrefixOf l) signs (fun x hx => prefix_J b x l (sign_no_line x hx))]

theorem tokF_J (b l : List UInt8) (h : l ≠ []) : tokF (J b l) = tokF l := by
  cases l with
  | nil => exact absurd rfl h
  | cons c r =>
    have h1 := wordN_J b (c :: r)
    have h2 := signF_J b (c :: r)
    have h3 : (J b (c :: r)).take (wordN (c :: r)) = (c :: r).take (wordN (c :: r)) := List.take_append_of_le_length (wordN_le _)
    show tokF (c :: (J b r)) = tokF (c :: r)
    have e : (c :: (J b r)) = J b (c :: r) := rfl
    unfold tokF
    simp only [e, h1, h2, h3]

/-- A token further on. -/
def Tok.later (d : Nat) (t : Tok) : Tok := ⟨t.kind, t.ad + d, t.text, t.num⟩
/-- An outcome further on, behind other tokens. -/
def later (d : Nat) (pre : List Tok) : (Nat × Nat) ⊕ List Tok → (Nat × Nat) ⊕ List Tok
  | .inl (e, p) => .inl (e, p + d)
  | .inr ts => .inr (pre ++ ts.map (Tok.later d))

theorem lexG_later (d : Nat) (pre : List Tok) : ∀ (f : Nat) (l : List UInt8) (ad : Nat) (out : List Tok), lexG f l (ad + d) (pre ++ out.map (Tok.later d)) = later d pre (lexG f l ad out)
  | 0, l, ad, out => by simp [lexG, later, Tok.later]
  | f + 1, l, ad, out => by
    unfold lexG
    split
    · simp [later, Tok.later]
    · split
      · simp [later]
      · rename_i k t n _
        have ih := lexG_later d pre f ((l.drop t.length).drop (skipG false (l.drop t.length))) (ad + t.length + skipG false (l.drop t.length)) (out ++ [⟨k, ad, t, n⟩])
        rw [← ih]
        have e1 : ad + d + t.length + skipG false (l.drop t.length) = ad + t.length + skipG false (l.drop t.length) + d := by omega
        rw [e1]
        simp [Tok.later]

theorem lexG_fuel : ∀ (f g : Nat) (l : List UInt8) (ad : Nat) (out : List Tok), l.length ≤ f → l.length ≤ g → lexG f l ad out = lexG g l ad out
  | 0, 0, l, ad, out, _, _ => rfl
  | 0, g + 1, l, ad, out, h, _ => by
    obtain rfl : l = [] := List.length_eq_zero_iff.1 (by omega)
    simp [lexG]
  | f + 1, 0, l, ad, out, _, h => by
    obtain rfl : l = [] := List.length_eq_zero_iff.1 (by omega)
    simp [lexG]
  | f + 1, g + 1, l, ad, out, h1, h2 => by
    unfold lexG
    split
    · rfl
    · split
      · rfl
      · rename_i k t n ht
        obtain ⟨l1, l2, _⟩ := tokF_len ht
        exact lexG_fuel f g _ _ _ (by simp only [List.length_drop]; omega) (by simp only [List.length_drop]; omega)

/-- What the joined text's tokens are, out of those of both. -/
def joinF (d : Nat) (x y : (Nat × Nat) ⊕ List Tok) : (Nat × Nat) ⊕ List Tok :=
  match x with
  | .inl e => .inl e
  | .inr ts => later d ts.dropLast y

theorem lexG_join (b : List UInt8) (d : Nat) : ∀ (f g : Nat) (l : List UInt8) (ad : Nat) (out : List Tok), l ≠ [] → l.length ≤ f → l.length + 1 + b.length ≤ g → ad + l.length + 1 = d →
    lexG g (J b l) ad out = joinF d (lexG f l ad out) (lexG b.length (b.drop (skipG false b)) (skipG false b) [])
  | 0, g, l, ad, out, hne, hf, _, _ => by
    exact absurd (List.length_eq_zero_iff.1 (by omega)) hne
  | f + 1, 0, l, ad, out, _, _, hg, _ => by omega
  | f + 1, g + 1, l, ad, out, hne, hf, hg, had => by
    obtain ⟨R, hR⟩ : ∃ R, R = lexG b.length (b.drop (skipG false b)) (skipG false b) [] := ⟨_, rfl⟩
    rw [← hR]
    unfold lexG
    rw [if_neg (by simp), if_neg (by simpa using hne), tokF_J b l hne]
    cases ht : tokF l with
    | inl e => rfl
    | inr x =>
      obtain ⟨k, t, n⟩ := x
      obtain ⟨l1, l2, _⟩ := tokF_len ht
      have e1 : (J b l).drop t.length = J b (l.drop t.length) := List.drop_append_of_le_length l2
      have hle := skipG_le false (l.drop t.length)
      simp only [e1]
      rcases skipJ b false (l.drop t.length) with ⟨h1, h2⟩ | ⟨h1, h2⟩
      · rw [h2]
        have e2 : (J b (l.drop t.length)).drop (skipG false (l.drop t.length)) = J b ((l.drop t.length).drop (skipG false (l.drop t.length))) := List.drop_append_of_le_length hle
        rw [e2]
        rw [hR]
        refine lexG_join b d f g _ _ _ ?_ ?_ ?_ ?_
        · intro e
          have := congrArg List.length e
          simp only [List.length_drop, List.length_nil] at this h1
          omega
        · simp only [List.length_drop]; omega
        · simp only [List.length_drop] at h1 hle ⊢; omega
        · simp only [List.length_drop] at h1 hle ⊢; omega
      · rw [h2, h1]
        have e3 : (l.drop t.length).drop (l.drop t.length).length = [] := List.drop_of_length_le (Nat.le_refl _)
        have e4 : (J b (l.drop t.length)).drop ((l.drop t.length).length + 1 + skipG false b) = b.drop (skipG false b) := by
          unfold J
          rw [List.drop_append, List.drop_of_length_le (by simp only [List.length_drop]; omega), List.nil_append]
          have : (l.drop t.length).length + 1 + skipG false b - (l.drop t.length).length = skipG false b + 1 := by omega
          rw [this, List.drop_succ_cons]
        rw [e3, e4]
        have hsb := skipG_le false b
        have e5 : ad + t.length + ((l.drop t.length).length + 1 + skipG false b) = skipG false b + d := by
          simp only [List.length_drop]; omega
        rw [e5]
        have e6 : lexG f [] (ad + t.length + (l.drop t.length).length) (out ++ [⟨k, ad, t, n⟩]) = .inr ((out ++ [⟨k, ad, t, n⟩]) ++ [⟨4, ad + t.length + (l.drop t.length).length, [], 0⟩]) := by cases f <;> simp [lexG]
        rw [e6]
        simp only [joinF, List.dropLast_concat]
        have e7 := lexG_later d (out ++ [⟨k, ad, t, n⟩]) g (b.drop (skipG false b)) (skipG false b) []
        simp only [List.map_nil, List.append_nil] at e7
        rw [e7, hR, lexG_fuel g b.length _ _ _ (by simp only [List.length_drop]; omega) (by simp only [List.length_drop]; omega)]

/-- Two sources with a line end between. -/
theorem lexF_join (a b : List UInt8) (h : a.length + 1 + b.length ≤ 65536) : lexF (a ++ 10 :: b) = joinF (a.length + 1) (lexF a) (lexF b) := by
  have hla : ¬ 65536 < a.length := by omega
  have hlb : ¬ 65536 < b.length := by omega
  have hlj : ¬ 65536 < (a ++ 10 :: b).length := by simp; omega
  unfold lexF
  rw [if_neg hla, if_neg hlb, if_neg hlj]
  have hle := skipG_le false a
  rcases skipJ b false a with ⟨h1, h2⟩ | ⟨h1, h2⟩
  · have e0 : skipG false (a ++ 10 :: b) = skipG false a := h2
    have e2 : (a ++ 10 :: b).drop (skipG false a) = J b (a.drop (skipG false a)) := List.drop_append_of_le_length hle
    rw [e0, e2]
    refine lexG_join b (a.length + 1) a.length _ _ _ _ ?_ ?_ ?_ ?_
    · intro e
      have := congrArg List.length e
      simp only [List.length_drop, List.length_nil] at this
      omega
    · simp only [List.length_drop]; omega
    · simp only [List.length_drop, List.length_append, List.length_cons]; omega
    · simp only [List.length_drop]; omega
  · have e0 : skipG false (a ++ 10 :: b) = a.length + 1 + skipG false b := h2
    have e4 : (a ++ 10 :: b).drop (a.length + 1 + skipG false b) = b.drop (skipG false b) := by
      rw [List.drop_append, List.drop_of_length_le (by omega), List.nil_append]
      have : a.length + 1 + skipG false b - a.length = skipG false b + 1 := by omega
      rw [this, List.drop_succ_cons]
    rw [e0, e4, h1]
    have e3 : a.drop a.length = [] := by simp
    have e6 : lexG a.length [] a.length [] = .inr [⟨4, a.length, [], 0⟩] := by cases a.length <;> simp [lexG]
    rw [e3, e6]
    have e7 := lexG_later (a.length + 1) [] (a ++ 10 :: b).length (b.drop (skipG false b)) (skipG false b) []
    simp only [List.map_nil, List.append_nil] at e7
    rw [show a.length + 1 + skipG false b = skipG false b + (a.length + 1) from by omega, e7]
    rw [lexG_fuel (a ++ 10 :: b).length b.length _ _ _ (by simp only [List.length_drop, List.length_append, List.length_cons]; omega) (by simp only [List.length_drop]; omega)]
    rfl
end Go.Proofs.YtcolielkeomglaaDoor
