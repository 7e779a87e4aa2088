/- What a source's tokens are, in plain Lean: lists of bytes; no program. -/
namespace Go.Proofs.YtcolielkeomglaaDoor

def isLetter (c : UInt8) : Bool := (97 ≤ c && c ≤ 122) || c == 95
def isDigit (c : UInt8) : Bool := 48 ≤ c && c ≤ 57
def isBlank (c : UInt8) : Bool := c == 32 || c == 9 || c == 13 || c == 10
def isWord (c : UInt8) : Bool := isLetter c || isDigit c

/-- How many bytes of a text are blanks and remarks; true: in a remark. -/
def skipG : Bool → List UInt8 → Nat
  | _, [] => 0
  | true, c :: r => 1 + skipG (c != 10) r
  | false, c :: r => if isBlank c then 1 + skipG false r else if c == 47 && r.head? == some 47 then 1 + skipG true r else 0

/-- How many bytes of a text are of a word. -/
def wordN (l : List UInt8) : Nat := (l.takeWhile isWord).length

def digOf (base : Nat) (c : UInt8) : Option Nat :=
  if 48 ≤ c && c ≤ 57 then some (c.toNat - 48) else if base == 16 && (97 ≤ c && c ≤ 102) then some (c.toNat - 87) else none

/-- What digits say, behind a number. -/
def valGo (base : Nat) : Nat → List UInt8 → Option Nat
  | n, [] => some n
  | n, c :: r => match digOf base c with
    | none => none
    | some d => if 4294967295 < n * base + d then none else valGo base (n * base + d) r

/-- What a word says, as a number. -/
def valueF (l : List UInt8) : Option Nat :=
  if [48, 120].isPrefixOf l then (if l.drop 2 == [] then none else valGo 16 0 (l.drop 2)) else if l == [] then none else valGo 10 0 l

/-- All signs. -/
def signs : List (List UInt8) := [[45, 62], [46, 46], [61, 61], [60, 60, 60], [60, 60], [62, 62], [60], [40], [41], [123], [125], [91], [93], [44], [59], [58], [61], [43], [45], [42], [47], [37], [38], [124], [94], [126]]

/-- The sign that a text begins with; none: empty. -/
def signF (l : List UInt8) : List UInt8 := (signs.find? (·.isPrefixOf l)).getD []

/-- A token. -/
structure Tok where
  kind : Nat
  ad : Nat
  text : List UInt8
  num : Nat

/-- The token that a text begins with (kind, text, number), or an error. -/
def tokF (l : List UInt8) : Nat ⊕ (Nat × List UInt8 × Nat) :=
  match l with
  | [] => .inl 100
  | c :: _ =>
    if isLetter c then (if 32 < wordN l then .inl 102 else .inr (1, l.take (wordN l), 0))
    else if isDigit c then (match valueF (l.take (wordN l)) with | none => .inl 101 | some n => .inr (2, l.take (wordN l), n))
    else (if signF l == [] then .inl 100 else .inr (3, signF l, 0))

/-- Tokens of a text that begins at ad: tokens, or an error and its place. The first number is fuel. -/
def lexG : Nat → List UInt8 → Nat → List Tok → (Nat × Nat) ⊕ List Tok
  | 0, _, ad, out => .inr (out ++ [⟨4, ad, [], 0⟩])
  | f + 1, l, ad, out =>
    if l == [] then .inr (out ++ [⟨4, ad, [], 0⟩])
    else match tokF l with
      | .inl e => .inl (e, ad)
      | .inr (k, t, n) => lexG f ((l.drop t.length).drop (skipG false (l.drop t.length))) (ad + t.length + skipG false (l.drop t.length)) (out ++ [⟨k, ad, t, n⟩])

/-- A source's tokens. -/
def lexF (s : List UInt8) : (Nat × Nat) ⊕ List Tok :=
  if 65536 < s.length then .inl (161, 0) else lexG s.length (s.drop (skipG false s)) (skipG false s) []

theorem skipG_le : ∀ (b : Bool) (l : List UInt8), skipG b l ≤ l.length
  | _, [] => by cases ‹Bool› <;> simp [skipG]
  | true, c :: r => by have := skipG_le (c != 10) r; simp [skipG]; omega
  | false, c :: r => by
    have h1 := skipG_le false r
    have h2 := skipG_le true r
    simp only [skipG, List.length_cons]
    split
    · omega
    · split <;> omega

theorem wordN_le (l : List UInt8) : wordN l ≤ l.length := by
  unfold wordN
  exact (List.takeWhile_sublist _).length_le

theorem isWord_letter {c : UInt8} (h : isLetter c = true) : isWord c = true := by simp [isWord, h]
theorem isWord_digit {c : UInt8} (h : isDigit c = true) : isWord c = true := by simp [isWord, h]

theorem wordN_cons {c : UInt8} {r : List UInt8} (h : isWord c = true) : wordN (c :: r) = 1 + wordN r := by
  simp [wordN, h]; omega

theorem prefix_le {a b : List UInt8} (h : a.isPrefixOf b = true) : a.length ≤ b.length := by
  have := List.isPrefixOf_iff_prefix.1 h
  exact this.length_le

theorem signF_le (l : List UInt8) : (signF l).length ≤ l.length := by
  unfold signF
  cases h : signs.find? (·.isPrefixOf l) with
  | none => simp
  | some x =>
    have : x.isPrefixOf l = true := by simpa using List.find?_some h
    exact prefix_le this

/-- A token's text is where it says, and not empty. -/
theorem tokF_len {l : List UInt8} {k n : Nat} {t : List UInt8} (h : tokF l = .inr (k, t, n)) : 1 ≤ t.length ∧ t.length ≤ l.length ∧ l.take t.length = t := by
  unfold tokF at h
  split at h
  · cases h
  · rename_i c r
    split at h
    · rename_i hc
      split at h
      · cases h
      · simp only [Sum.inr.injEq, Prod.mk.injEq] at h
        obtain ⟨_, rfl, _⟩ := h
        have h1 := wordN_le (c :: r)
        have h2 := wordN_cons (r := r) (isWord_letter hc)
        rw [List.length_take, Nat.min_eq_left h1]
        exact ⟨by omega, h1, rfl⟩
    · split at h
      · rename_i hc
        split at h
        · cases h
        · simp only [Sum.inr.injEq, Prod.mk.injEq] at h
          obtain ⟨_, rfl, _⟩ := h
          have h1 := wordN_le (c :: r)
          have h2 := wordN_cons (r := r) (isWord_digit hc)
          rw [List.length_take, Nat.min_eq_left h1]
          exact ⟨by omega, h1, rfl⟩
      · split at h
        · cases h
        · rename_i hs
          simp only [Sum.inr.injEq, Prod.mk.injEq] at h
          obtain ⟨_, rfl, _⟩ := h
          refine ⟨?_, signF_le _, ?_⟩
          · cases hx : signF (c :: r) with
            | nil => rw [hx] at hs; simp at hs
            | cons a b => simp
          · unfold signF at *
            cases hf : signs.find? (·.isPrefixOf (c :: r)) with
            | none => simp
            | some x =>
              have hp : x.isPrefixOf (c :: r) = true := by simpa using List.find?_some hf
              have := List.isPrefixOf_iff_prefix.1 hp
              simp only [Option.getD_some]
              exact (List.prefix_iff_eq_take.1 this).symm
end Go.Proofs.YtcolielkeomglaaDoor
