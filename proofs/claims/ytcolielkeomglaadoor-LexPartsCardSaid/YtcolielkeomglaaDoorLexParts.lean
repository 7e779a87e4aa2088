/- Each token's text stands where it says; between tokens there are blanks and remarks: plain law. -/
import Derived.Test.YtcolielkeomglaaDoorTokAt
set_option linter.unusedVariables false
namespace Go.Proofs.YtcolielkeomglaaDoor

theorem skip_take : ∀ (m : Bool) (l : List UInt8), skipG m (l.take (skipG m l)) = skipG m l
  | m, [] => by cases m <;> simp [skipG]
  | true, c :: r => by
    have h := skip_take (c != 10) r
    simp only [skipG]
    rw [Nat.add_comm, List.take_succ_cons, skipG, h, Nat.add_comm]
  | false, c :: r => by
    have h1 := skip_take false r
    have h2 := skip_take true r
    by_cases hb : isBlank c = true
    · have e : skipG false (c :: r) = skipG false r + 1 := by simp [skipG, hb]; omega
      rw [e, List.take_succ_cons]
      simp only [skipG]
      rw [if_pos hb, h1]; omega
    · by_cases hc : (c == 47 && r.head? == some 47) = true
      · have e : skipG false (c :: r) = skipG true r + 1 := by simp only [skipG]; rw [if_neg hb, if_pos hc]; omega
        have hh : (r.take (skipG true r)).head? = r.head? := by
          cases r with
          | nil => simp at hc
          | cons x y =>
            have : skipG true (x :: y) = skipG (x != 10) y + 1 := by simp only [skipG]; omega
            rw [this, List.take_succ_cons]; rfl
        rw [e, List.take_succ_cons]
        simp only [skipG]
        rw [if_neg hb, hh, if_pos hc, h2]; omega
      · have e : skipG false (c :: r) = 0 := by simp only [skipG]; rw [if_neg hb, if_neg hc]
        rw [e]
        simp [skipG]

/-- Tokens as they stand in a source, from a place on. -/
def Parts (s : List UInt8) : Nat → List Tok → Prop
  | p, [] => p = s.length
  | p, t :: r => p ≤ t.ad ∧ t.ad + t.text.length ≤ s.length ∧ (s.drop t.ad).take t.text.length = t.text ∧ (t.kind == 4) = r.isEmpty ∧ skipG false ((s.drop p).take (t.ad - p)) = t.ad - p ∧ Parts s (t.ad + t.text.length) r

theorem tokF_kind {l : List UInt8} {k n : Nat} {t : List UInt8} (h : tokF l = .inr (k, t, n)) : (k == 4) = false := by
  unfold tokF at h
  repeat' split at h
  all_goals (first | (cases h; done) | (simp only [Sum.inr.injEq, Prod.mk.injEq] at h; obtain ⟨rfl, _, _⟩ := h; rfl))

theorem lexG_parts (s : List UInt8) : ∀ (f ad p : Nat) (out ts : List Tok), ad ≤ s.length → p ≤ ad → skipG false ((s.drop p).take (ad - p)) = ad - p → (s.drop ad).length ≤ f → lexG f (s.drop ad) ad out = .inr ts →
    ∃ r, ts = out ++ r ∧ r ≠ [] ∧ Parts s p r := by
  intro f
  induction f with
  | zero =>
    intro ad p out ts ha hp hg hf h
    simp only [lexG, Sum.inr.injEq] at h
    simp only [List.length_drop] at hf
    refine ⟨[⟨4, ad, [], 0⟩], h.symm, by simp, ?_⟩
    simp only [Parts]
    exact ⟨hp, by simpa using ha, by simp, rfl, hg, by simp; omega⟩
  | succ f ih =>
    intro ad p out ts ha hp hg hf h
    unfold lexG at h
    split at h
    · rename_i hl
      simp only [Sum.inr.injEq] at h
      have hl0 := congrArg List.length (eq_of_beq hl)
      simp only [List.length_drop, List.length_nil] at hl0
      refine ⟨[⟨4, ad, [], 0⟩], h.symm, by simp, ?_⟩
      simp only [Parts]
      exact ⟨hp, by simpa using ha, by simp, rfl, hg, by simp; omega⟩
    · split at h
      · cases h
      · rename_i k t n ht
        obtain ⟨l1, l2, l3⟩ := tokF_len ht
        have hk := tokF_kind ht
        have h3 := skipG_le false ((s.drop ad).drop t.length)
        obtain ⟨q, hq⟩ : ∃ q, q = skipG false ((s.drop ad).drop t.length) := ⟨_, rfl⟩
        have hst := skip_take false ((s.drop ad).drop t.length)
        rw [← hq] at h h3 hst
        simp only [List.length_drop] at l2 h3 hf
        rw [List.drop_drop, List.drop_drop, ← Nat.add_assoc] at h
        rw [List.drop_drop] at hst
        obtain ⟨r, rfl, hr, hP⟩ := ih (ad + t.length + q) (ad + t.length) _ _ (by omega) (by omega) (by rw [show ad + t.length + q - (ad + t.length) = q from by omega]; exact hst) (by simp only [List.length_drop]; omega) h
        refine ⟨⟨k, ad, t, n⟩ :: r, by simp, by simp, ?_⟩
        simp only [Parts]
        refine ⟨hp, by omega, l3, ?_, hg, hP⟩
        rw [hk]
        cases r with
        | nil => exact absurd rfl hr
        | cons x y => rfl

theorem lexF_parts {s : List UInt8} {ts : List Tok} (h : lexF s = .inr ts) : Parts s 0 ts := by
  unfold lexF at h
  split at h
  · cases h
  · have h1 := skipG_le false s
    obtain ⟨r, e, _, hP⟩ := lexG_parts s s.length (skipG false s) 0 [] ts h1 (Nat.zero_le _) (by rw [List.drop_zero, Nat.sub_zero]; exact skip_take false s) (by simp) h
    rw [List.nil_append] at e
    subst e
    exact hP

/-- Blanks and remarks alone are one token: the end. -/
theorem lexF_gap {g : List UInt8} (h : skipG false g = g.length) (hl : g.length ≤ 65536) : lexF g = .inr [⟨4, g.length, [], 0⟩] := by
  rw [lexF, if_neg (by omega), h, List.drop_length]
  cases g.length <;> simp [lexG]
end Go.Proofs.YtcolielkeomglaaDoor
