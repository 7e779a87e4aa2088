/- The cells of tokens in memory; tokens are never none. -/
import Derived.Test.YtcolielkeomglaaDoorLexH
set_option maxRecDepth 100000
namespace Go.Proofs.YtcolielkeomglaaDoor
open Go.RowKit

theorem toks_get (ts : List Tok) (k j : Nat) (hk : k < ts.length) (hj : j < 4) : (toksCells ts)[k * 4 + j]? = (tokCells ts[k])[j]? := by
  induction ts generalizing k with
  | nil => simp at hk
  | cons t r ih =>
    have e : toksCells (t :: r) = tokCells t ++ toksCells r := rfl
    rw [e]
    cases k with
    | zero =>
      rw [List.getElem?_append_left (by simp [tokCells]; omega), Nat.zero_mul, Nat.zero_add]
      rfl
    | succ k =>
      have hl : (tokCells t).length = 4 := rfl
      rw [List.getElem?_append_right (by rw [hl]; omega), hl, show (k + 1) * 4 + j - 4 = k * 4 + j from by omega]
      exact ih k (by simpa using hk)

/-- The cells of one token. -/
def TokAt (w : World) (g k : Nat) (t : Tok) : Prop :=
  w.cell? ⟨g, k * 4, none⟩ = some (.int .i64 t.kind) ∧ w.cell? ⟨g, k * 4 + 1, none⟩ = some (.int .i64 t.ad) ∧ w.cell? ⟨g, k * 4 + 2, none⟩ = some (.string ⟨t.text.toArray⟩) ∧ w.cell? ⟨g, k * 4 + 3, none⟩ = some (.int .u32 t.num)

theorem tok_at {w : World} {g n : Nat} {ts : List Tok} (hn : n = ts.length) (h : ∀ j, j < n * 4 → w.cell? ⟨g, j, none⟩ = (toksCells ts)[j]?) (k : Nat) (hk : k < ts.length) : TokAt w g k ts[k] := by
  subst hn
  refine ⟨?_, ?_, ?_, ?_⟩
  · have := toks_get ts k 0 hk (by decide)
    rw [Nat.add_zero] at this
    rw [h _ (by omega), this]; rfl
  · rw [h _ (by omega), toks_get ts k 1 hk (by decide)]; rfl
  · rw [h _ (by omega), toks_get ts k 2 hk (by decide)]; rfl
  · rw [h _ (by omega), toks_get ts k 3 hk (by decide)]; rfl

theorem TokAt.below {w w' : World} {B g k : Nat} {t : Tok} (h : TokAt w g k t) (hb : Below B w w') (hg : g < B) : TokAt w' g k t := by
  obtain ⟨h1, h2, h3, h4⟩ := h
  exact ⟨(hb.cell (p := ⟨g, k * 4, none⟩) hg).trans h1, (hb.cell (p := ⟨g, k * 4 + 1, none⟩) hg).trans h2, (hb.cell (p := ⟨g, k * 4 + 2, none⟩) hg).trans h3, (hb.cell (p := ⟨g, k * 4 + 3, none⟩) hg).trans h4⟩

theorem own_len {w : World} {B E size n : Nat} {v : Value} {xs : List Value} (h : w.ownsRow B E size v n xs) : n ≤ 9223372036854775807 := by
  rcases h.2 with ⟨_, h0⟩ | ⟨g, cap, cur, _, _, _, h1, h2, _⟩
  · omega
  · unfold maxLen at h2
    omega

theorem lexG_pos : ∀ (f : Nat) (l : List UInt8) (ad : Nat) (out ts : List Tok), lexG f l ad out = .inr ts → out.length < ts.length
  | 0, l, ad, out, ts, h => by
    simp only [lexG, Sum.inr.injEq] at h
    subst h
    simp
  | f + 1, l, ad, out, ts, h => by
    unfold lexG at h
    split at h
    · simp only [Sum.inr.injEq] at h
      subst h
      simp
    · split at h
      · cases h
      · have := lexG_pos f _ _ _ _ h
        simp at this
        omega
theorem lexF_pos {s : List UInt8} {ts : List Tok} (h : lexF s = .inr ts) : 0 < ts.length := by
  unfold lexF at h
  split at h
  · cases h
  · have := lexG_pos _ _ _ _ _ h
    simpa using this

end Go.Proofs.YtcolielkeomglaaDoor
