/- LexTokens: the walk. -/
import Derived.Test.YtcolielkeomglaaDoorLexH
import Derived.Test.YtcolielkeomglaaDoorRefD
set_option maxRecDepth 100000
namespace Go.Proofs.YtcolielkeomglaaDoor
open Go.RowKit

theorem toks_get (ts : List Tok) (k j : Nat) (hk : k < ts.length) (hj : j < 4) : (toksCells ts)[k * 4 + j]? = (tokCells ts[k])[j]? := by
  induction ts generalizing k with
  | nil => simp at hk
  | cons t r ih =>
    have e : toksCells (t :: r) = tokCells t ++ toksCells r := rfl
    rw [e]
    cases k with
    | zero =>
      rw [List.getElem?_append_left (by simp [tokCells]; omega), Nat.zero_mul, Nat.zero_add]
      rfl
    | succ k =>
      have hl : (tokCells t).length = 4 := rfl
      rw [List.getElem?_append_right (by rw [hl]; omega), hl, show (k + 1) * 4 + j - 4 = k * 4 + j from by omega]
      exact ih k (by simpa using hk)

/-- The cells of one token. -/
def TokAt (w : World) (g k : Nat) (t : Tok) : Prop :=
  w.cell? ⟨g, k * 4, none⟩ = some (.int .i64 t.kind) ∧ w.cell? ⟨g, k * 4 + 1, none⟩ = some (.int .i64 t.ad) ∧ w.cell? ⟨g, k * 4 + 2, none⟩ = some (.string ⟨t.text.toArray⟩) ∧ w.cell? ⟨g, k * 4 + 3, none⟩ = some (.int .u32 t.num)

theorem tok_at {w : World} {g n : Nat} {ts : List Tok} (hn : n = ts.length) (h : ∀ j, j < n * 4 → w.cell? ⟨g, j, none⟩ = (toksCells ts)[j]?) (k : Nat) (hk : k < ts.length) : TokAt w g k ts[k] := by
  subst hn
  refine ⟨?_, ?_, ?_, ?_⟩
  · have := toks_get ts k 0 hk (by decide)
    rw [Nat.add_zero] at this
    rw [h _ (by omega), this]; rfl
  · rw [h _ (by omega), toks_get ts k 1 hk (by decide)]; rfl
  · rw [h _ (by omega), toks_get ts k 2 hk (by decide)]; rfl
  · rw [h _ (by omega), toks_get ts k 3 hk (by decide)]; rfl

theorem TokAt.below {w w' : World} {B g k : Nat} {t : Tok} (h : TokAt w g k t) (hb : Below B w w') (hg : g < B) : TokAt w' g k t := by
  obtain ⟨h1, h2, h3, h4⟩ := h
  exact ⟨(hb.cell (p := ⟨g, k * 4, none⟩) hg).trans h1, (hb.cell (p := ⟨g, k * 4 + 1, none⟩) hg).trans h2, (hb.cell (p := ⟨g, k * 4 + 2, none⟩) hg).trans h3, (hb.cell (p := ⟨g, k * 4 + 3, none⟩) hg).trans h4⟩

theorem own_len {w : World} {B E size n : Nat} {v : Value} {xs : List Value} (h : w.ownsRow B E size v n xs) : n ≤ 9223372036854775807 := by
  rcases h.2 with ⟨_, h0⟩ | ⟨g, cap, cur, _, _, _, h1, h2, _⟩
  · omega
  · unfold maxLen at h2
    omega

theorem lexG_pos : ∀ (f : Nat) (l : List UInt8) (ad : Nat) (out ts : List Tok), lexG f l ad out = .inr ts → out.length < ts.length
  | 0, l, ad, out, ts, h => by
    simp only [lexG, Sum.inr.injEq] at h
    subst h
    simp
  | f + 1, l, ad, out, ts, h => by
    unfold lexG at h
    split at h
    · simp only [Sum.inr.injEq] at h
      subst h
      simp
    · split at h
      · cases h
      · have := lexG_pos f _ _ _ _ h
        simp at this
        omega
theorem lexF_pos {s : List UInt8} {ts : List Tok} (h : lexF s = .inr ts) : 0 < ts.length := by
  unfold lexF at h
  split at h
  · cases h
  · have := lexG_pos _ _ _ _ _ h
    simpa using this

set_option maxHeartbeats 2000000 in
theorem lexTokens_walk (a : Option Addr) (n cap : Nat) (F : List Int) (w : World) (hF : ByteRow w a n F) (hcap : a = none → n = 0 ∧ cap = 0) (hmax : n ≤ maxLen) (hS : HasSigns w) :
    Calls Tryd.prog 3 #[.slice a n cap] w fun e w' => e = .returned (.bool true) ∧ Below w.heap.size w w' := by
  unfold maxLen at hmax
  have HF := Lib.hid hF
  have Hcap := Lib.hid hcap
  have HS := Lib.hid hS
  clear hF hcap hS
  by_cases hbig : 70000 < n
  · go_enter Tryd.func3, Tryd.ntmps3
    go_wp2_with fail
    refine (anchor09 w HS.out).mono ?_
    rintro ee w1 ⟨rfl, hb1⟩
    go_wp2
    go_ret
    exact ⟨rfl, hb1⟩
  · go_enter Tryd.func3, Tryd.ntmps3
    go_wp2_with fail
    refine (anchor09 w HS.out).mono ?_
    rintro ee w1 ⟨rfl, hb1⟩
    have HB1 := Lib.hid hb1
    clear hb1
    go_wp2_with fail
    refine (tokens_any a n cap F w1 (HF.out.below HB1.out) Hcap.out (by omega) (HS.out.below HB1.out)).mono ?_
    intro ee w2 h1
    unfold LexPost at h1
    cases hl : lexF (bytesOf F) with
    | inl x =>
      obtain ⟨c, p⟩ := x
      rw [hl] at h1
      obtain ⟨rfl, hb2⟩ := h1
      have HB2 := Lib.hid (HB1.out.trans (hb2.mono HB1.out.size))
      have Hl := Lib.hid hl
      clear hb2 hl
      go_wp2_with fail
      refine (rtokens_any a n cap F w2 (HF.out.below HB2.out) Hcap.out (by omega)).mono ?_
      intro ee w3 h2
      unfold LexPost at h2
      rw [show lexF (F.map fun n => UInt8.ofNat n.toNat) = .inl (c, p) from Hl.out] at h2
      obtain ⟨rfl, hb3⟩ := h2
      have HB3 := Lib.hid (HB2.out.trans (hb3.mono HB2.out.size))
      clear hb3
      go_wp2_with fail
      refine wp_loop_rounds 1 ?_
      rw [rounds_succ]
      go_wp2
      go_ret
      exact ⟨rfl, HB3.out⟩
    | inr ts =>
      rw [hl] at h1
      obtain ⟨v, rfl, hown2, hb2⟩ := h1
      have HB2 := Lib.hid (HB1.out.trans (hb2.mono HB1.out.size))
      have Hl := Lib.hid hl
      have Hown2 := Lib.hid hown2
      clear hb2 hl hown2
      go_wp2_with fail
      refine (rtokens_any a n cap F w2 (HF.out.below HB2.out) Hcap.out (by omega)).mono ?_
      intro ee w3 h2
      unfold LexPost at h2
      rw [show lexF (F.map fun n => UInt8.ofNat n.toNat) = .inr ts from Hl.out] at h2
      obtain ⟨u, rfl, hown3, hb3⟩ := h2
      have HB3 := Lib.hid (HB2.out.trans (hb3.mono HB2.out.size))
      have hn0 : 0 < ts.length := by
        exact lexF_pos Hl.out
      have hqm := own_len hown3
      obtain ⟨g1, c1, rfl, hc1, hg1, hB1, hcl1⟩ := toks_at (ownsRow_below Hown2.out hb3) hn0
      obtain ⟨g2, c2, rfl, hc2, hg2, hB2, hcl2⟩ := toks_at hown3 hn0
      have ht1 := tok_at rfl hcl1
      have ht2 := tok_at rfl hcl2
      have HT1 := Lib.hid ht1
      have HT2 := Lib.hid ht2
      clear hb3 hown3 hcl1 hcl2 ht1 ht2 hB1 hB2 Hown2
      obtain ⟨q, hq⟩ : ∃ q, q = ts.length := ⟨_, rfl⟩
      have Hq := Lib.hid hq
      rw [← hq] at hc1 hc2 hn0 hqm ⊢
      clear hq
      go_wp2_with fail
      go_loopw [45] (fun i wr => ∃ k : Nat, k ≤ q ∧ i = .int .i64 k ∧ Below w3.heap.size w3 wr) (fun i _ => q - (intOf i).toNat)
      case atStart => exact ⟨0, Nat.zero_le _, rfl, Below.refl _ _⟩
      case round =>
        obtain ⟨k, hk, rfl, hB⟩ := hrel
        have HB := Lib.hid hB
        clear hB
        by_cases hlt : k < q
        · obtain ⟨a1, a2, a3, a4⟩ := (HT1.out k (by rw [← Hq.out]; exact hlt)).below HB.out hg1
          obtain ⟨b1, b2, b3, b4⟩ := (HT2.out k (by rw [← Hq.out]; exact hlt)).below HB.out hg2
          generalize ts[k]'(by rw [← Hq.out]; exact hlt) = t at *
          have hgw2 : g2 < wr.heap.size := Nat.lt_of_lt_of_le hg2 HB.out.size
          go_wp2_with fail
          go_quiet (fail)
          go_wp2
          go_roundw
          case rel => exact ⟨k + 1, by omega, by go_num, below_drawn (HB.out.alloc HB.out.size _) ⟨_, rfl⟩⟩
          case measure => simp [intOf]; omega
        · go_wp2
          go_ret
          exact ⟨rfl, HB3.out.trans (HB.out.mono HB3.out.size)⟩
end Go.Proofs.YtcolielkeomglaaDoor
