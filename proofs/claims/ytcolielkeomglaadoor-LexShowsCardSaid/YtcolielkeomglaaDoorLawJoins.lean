/- LexJoins: the walk. -/
import Derived.Test.YtcolielkeomglaaDoorLexH
import Derived.Test.YtcolielkeomglaaDoorLexLaws
import Derived.Test.YtcolielkeomglaaDoorTokAt
import Derived.Laws.AppendOwnNone
set_option maxRecDepth 100000
set_option linter.unusedVariables false
namespace Go.Proofs.YtcolielkeomglaaDoor
open Go.RowKit

theorem Tryd.infoU8 : (Tryd.prog.info? 5).map (fun i => (i.zero, i.size, i.bytes)) = some (some (.int .u8 0), 1, 1) := by kernel_rfl

theorem u8_oneCell (F : List Int) : ∀ u ∈ F.map (Value.int .u8), u.oneCell' = true := by
  intro u hu
  obtain ⟨x, _, rfl⟩ := List.mem_map.1 hu
  rfl

theorem byteRow_news {w : World} {ad : Addr} {n : Nat} {F : List Int} (h : ByteRow w (some ad) n F) : ∀ j u, (F.map (Value.int .u8))[j]? = some u → w.cell? (ad.add j) = some u := by
  intro j u hj
  obtain ⟨hl, _, hc⟩ := h
  obtain ⟨hlt, hget⟩ := List.getElem?_eq_some_iff.1 hj
  simp only [List.length_map] at hlt
  rcases hc with h0 | ⟨b, o, he, _, hc⟩
  · omega
  · cases he
    rw [show (⟨b, o, none⟩ : Addr).add j = ⟨b, o + j, none⟩ from by simp [Addr.add], hc j (by omega)]
    simp only [List.getElem_map] at hget
    rw [← hget]
    simp [hlt]

/-- append of bytes that came in, nil or not, to a row of the call's own. -/
theorem append_bytes {w : World} {ops : Array Oper} {rest : List Oper} {o : Oper} {a : Act} {Q : Exit → Act → World → Prop} (hgd : o.guard = none) (s x : Operand)
    (ho : o.op = .call { callee := .builtin .append, args := #[s, x], argTypes := #[22, 22] }) (base : Nat) (v : Value) (n : Nat) (xs : List Int) (hs : a.eval s = v)
    (hown : w.ownsRow base 5 1 v n (xs.map (Value.int .u8))) (ad : Option Addr) (m c : Nat) (F : List Int) (hx : a.eval x = .slice ad m c) (hF : ByteRow w ad m F) (hcap : ad = none → m = 0 ∧ c = 0)
    (h63 : n + m ≤ 1000000) (hbase : base ≤ w.heap.size)
    (h : ∀ v' w', w'.ownsRow base 5 1 v' (n + m) ((xs ++ F).map (Value.int .u8)) → w.grownBy w' v.ownBlock → wpList Tryd.prog ops Q rest (a.put o.dst v') w') : wpList Tryd.prog ops Q (o :: rest) a w := by
  obtain ⟨i0, hi, hz0, hz1, hz2⟩ := info_parts Tryd.infoU8
  cases ad with
  | none =>
    obtain ⟨rfl, rfl⟩ := hcap rfl
    obtain rfl : F = [] := List.length_eq_zero_iff.1 hF.1
    rw [List.append_nil, Nat.add_zero] at h
    exact wpList_append_own_none hgd s x 22 ho base 5 i0 1 Tryd.underlying22 hi v n _ hs hown hx (h v w hown ⟨rfl, rfl, rfl, Nat.le_refl _, fun _ _ _ => rfl⟩)
  | some ad =>
    refine wpList_append_own w hgd s x 22 ho base 5 i0 (.int .u8 0) 1 1 Tryd.underlying22 hi hz0 hz1 hz2 rfl (by decide) v n _ hs hown ad m c (F.map (.int .u8)) hx (by rw [List.length_map, hF.1]; omega) (byteRow_news hF) (u8_oneCell F) (by unfold maxLen; omega) (by omega) hbase ?_
    intro v' w' h1 h2 _
    rw [List.map_append] at h
    exact h v' w' h1 h2

theorem own_shape {w : World} {B n : Nat} {v : Value} {F : List Int} (h : w.ownsRow B 5 1 v n (F.map (Value.int .u8))) (hb : ∀ y ∈ F, 0 ≤ y ∧ y < 256) :
    ∃ x c, v = .slice x n c ∧ ByteRow w x n F ∧ (x = none → n = 0 ∧ c = 0) := by
  have hl := h.1
  simp only [List.length_map, Nat.mul_one] at hl
  rcases h.2 with ⟨rfl, rfl⟩ | ⟨g, cap, cur, rfl, _, hg, hcap, _⟩
  · exact ⟨none, 0, rfl, ⟨hl, hb, .inl rfl⟩, fun _ => ⟨rfl, rfl⟩⟩
  · refine ⟨some ⟨g, 0, none⟩, cap, rfl, ⟨hl, hb, .inr ⟨g, 0, rfl, lt_of_block hg, fun i hi => ?_⟩⟩, (fun e => by cases e)⟩
    rw [Nat.zero_add, h.cellAt i (by omega)]
    simp [show i < F.length from by omega]

theorem bytesOf_join (A B : List Int) : bytesOf ((A ++ [10]) ++ B) = bytesOf A ++ 10 :: bytesOf B := by
  simp [bytesOf]

/-- The joined bytes' tokens, behind all that went before. -/
theorem join_row {A B : List Int} (hA : ∀ y ∈ A, 0 ≤ y ∧ y < 256) (hB : ∀ y ∈ B, 0 ≤ y ∧ y < 256) : ∀ y ∈ (A ++ [10]) ++ B, 0 ≤ y ∧ y < 256 := by
  intro y hy
  simp only [List.mem_append, List.mem_singleton] at hy
  rcases hy with (hy | rfl) | hy
  · exact hA y hy
  · omega
  · exact hB y hy

/-- An outcome's numbers: the error, its place, how many tokens. -/
def errOf : (Nat × Nat) ⊕ List Tok → Nat
  | .inl (c, _) => c
  | .inr _ => 0
def placeOf : (Nat × Nat) ⊕ List Tok → Nat
  | .inl (_, p) => p
  | .inr _ => 0
def manyOf : (Nat × Nat) ⊕ List Tok → Nat
  | .inl _ => 0
  | .inr ts => ts.length
def toksOf : (Nat × Nat) ⊕ List Tok → List Tok
  | .inl _ => []
  | .inr ts => ts

/-- What Tokens returns, whatever comes of it. -/
theorem lexPost_open {w w' : World} {s : List UInt8} {e : Ending} (l : (Nat × Nat) ⊕ List Tok) (hl : lexF s = l) (h : LexPost 33 w s e w') :
    ∃ x cp g, e = .returned (.tuple #[.slice x (manyOf l) cp, .int .i64 (errOf l), .int .i64 (placeOf l)]) ∧ Below w.heap.size w w' ∧ manyOf l ≤ cp ∧ manyOf l ≤ 9223372036854775807 ∧
      (0 < manyOf l → x = some ⟨g, 0, none⟩ ∧ g < w'.heap.size ∧ ∀ k t, (toksOf l)[k]? = some t → TokAt w' g k t) := by
  unfold LexPost at h
  rw [hl] at h
  cases l with
  | inl x =>
    obtain ⟨c, p⟩ := x
    exact ⟨none, 0, 0, h.1, h.2, Nat.le_refl _, by simp [manyOf], fun h0 => by simp [manyOf] at h0⟩
  | inr ts =>
    obtain ⟨v, rfl, hown, hb⟩ := h
    have hn0 : 0 < ts.length := lexF_pos hl
    have hm := own_len hown
    obtain ⟨g, cp, rfl, hc, hg, _, hcl⟩ := toks_at hown hn0
    exact ⟨_, cp, g, rfl, hb, hc, hm, fun _ => ⟨rfl, hg, fun k t hk => by obtain ⟨h1, rfl⟩ := List.getElem?_eq_some_iff.1 hk; exact tok_at rfl hcl k h1⟩⟩

theorem lexG_bad : ∀ (f : Nat) (l : List UInt8) (ad : Nat) (out : List Tok) (c p : Nat), lexG f l ad out = .inl (c, p) → 100 ≤ c ∧ p ≤ ad + l.length
  | 0, l, ad, out, c, p, h => by simp [lexG] at h
  | f + 1, l, ad, out, c, p, h => by
    unfold lexG at h
    split at h
    · cases h
    · split at h
      · rename_i e ht
        simp only [Sum.inl.injEq, Prod.mk.injEq] at h
        obtain ⟨rfl, rfl⟩ := h
        exact ⟨tokF_err ht, by omega⟩
      · rename_i k t n ht
        obtain ⟨l1, l2, _⟩ := tokF_len ht
        have h3 := skipG_le false (l.drop t.length)
        obtain ⟨h1, h2⟩ := lexG_bad f _ _ _ _ _ h
        simp only [List.length_drop] at h2 h3
        exact ⟨h1, by omega⟩

theorem lexF_bad {s : List UInt8} {c p : Nat} (h : lexF s = .inl (c, p)) : 100 ≤ c ∧ p ≤ s.length := by
  unfold lexF at h
  split at h
  · simp only [Sum.inl.injEq, Prod.mk.injEq] at h
    omega
  · obtain ⟨h1, h2⟩ := lexG_bad _ _ _ _ _ _ h
    have := skipG_le false s
    simp only [List.length_drop] at h2
    exact ⟨h1, by omega⟩

theorem lexG_ad (B : Nat) : ∀ (f : Nat) (l : List UInt8) (ad : Nat) (out ts : List Tok), (∀ t ∈ out, t.ad ≤ B) → ad + l.length ≤ B → lexG f l ad out = .inr ts → ∀ t ∈ ts, t.ad ≤ B
  | 0, l, ad, out, ts, ho, hb, h => by
    simp only [lexG, Sum.inr.injEq] at h
    subst h
    intro t ht
    simp only [List.mem_append, List.mem_singleton] at ht
    rcases ht with ht | rfl
    · exact ho t ht
    · show ad ≤ B; omega
  | f + 1, l, ad, out, ts, ho, hb, h => by
    unfold lexG at h
    split at h
    · simp only [Sum.inr.injEq] at h
      subst h
      intro t ht
      simp only [List.mem_append, List.mem_singleton] at ht
      rcases ht with ht | rfl
      · exact ho t ht
      · show ad ≤ B; omega
    · split at h
      · cases h
      · rename_i k t n ht
        obtain ⟨l1, l2, _⟩ := tokF_len ht
        have h3 := skipG_le false (l.drop t.length)
        simp only [List.length_drop] at h3
        refine lexG_ad B f _ _ _ _ ?_ ?_ h
        · intro u hu
          simp only [List.mem_append, List.mem_singleton] at hu
          rcases hu with hu | rfl
          · exact ho u hu
          · show ad ≤ B; omega
        · simp only [List.length_drop]
          omega

theorem lexF_ad {s : List UInt8} {ts : List Tok} (h : lexF s = .inr ts) : ∀ t ∈ ts, t.ad ≤ s.length := by
  unfold lexF at h
  split at h
  · cases h
  · have := skipG_le false s
    exact lexG_ad s.length _ _ _ _ _ (by simp) (by simp only [List.length_drop]; omega) h

set_option maxHeartbeats 4000000 in
theorem lexJoins_walk (a : Option Addr) (n cap : Nat) (F : List Int) (b : Option Addr) (m bcap : Nat) (G : List Int) (w : World) (hF : ByteRow w a n F) (hcap : a = none → n = 0 ∧ cap = 0) (hG : ByteRow w b m G) (hbcap : b = none → m = 0 ∧ bcap = 0)
    (hmax : n ≤ maxLen) (hmax2 : m ≤ maxLen) (hS : HasSigns w) :
    Calls Tryd.prog 6 #[.slice a n cap, .slice b m bcap] w fun e w' => e = .returned (.bool true) ∧ Below w.heap.size w w' := by
  unfold maxLen at hmax hmax2
  have HF := Lib.hid hF
  have Hcap := Lib.hid hcap
  have HG := Lib.hid hG
  have Hbcap := Lib.hid hbcap
  have HS := Lib.hid hS
  clear hF hcap hG hbcap hS
  by_cases hbig : 5000 < n ∨ 5000 < m
  · have hd : decide ((5000 : Int) < n) = true ∨ (decide ((5000 : Int) < n) = false ∧ decide ((5000 : Int) < m) = true) := by
      by_cases h : 5000 < n
      · left; simp; omega
      · right; constructor <;> simp <;> omega
    clear hbig
    rcases hd with hd | ⟨hd, hd2⟩
    all_goals
      go_enter Tryd.func6, Tryd.ntmps6
      go_wp2_with fail
      refine (anchor09 w HS.out).mono ?_
      rintro ee w1 ⟨rfl, hb1⟩
      go_wp2
      go_ret
      exact ⟨rfl, hb1⟩
  · have hn5 : n ≤ 5000 := by omega
    have hm5 : m ≤ 5000 := by omega
    clear hbig
    go_enter Tryd.func6, Tryd.ntmps6
    go_wp2_with fail
    refine (anchor09 w HS.out).mono ?_
    rintro ee w1 ⟨rfl, hb1⟩
    have HB1 := Lib.hid hb1
    clear hb1
    go_wp2_with fail
    refine (tokens_any a n cap F w1 (HF.out.below HB1.out) Hcap.out (by omega) (HS.out.below HB1.out)).mono ?_
    intro ee w2 h1
    obtain ⟨la, hla⟩ : ∃ la, lexF (bytesOf F) = la := ⟨_, rfl⟩
    obtain ⟨lb, hlb⟩ : ∃ lb, lexF (bytesOf G) = lb := ⟨_, rfl⟩
    have hlj := lexF_join (bytesOf F) (bytesOf G) (by rw [bytesOf_len, bytesOf_len, HF.out.1, HG.out.1]; omega)
    rw [bytesOf_len, HF.out.1, hla, hlb, ← bytesOf_join] at hlj
    have Hla := Lib.hid hla
    have Hlb := Lib.hid hlb
    have Hlj := Lib.hid hlj
    clear hla hlb hlj
    obtain ⟨xa, ca, ga, rfl, hb2, hca, hqa, hka⟩ := lexPost_open la Hla.out h1
    have HB2 := Lib.hid (HB1.out.trans (hb2.mono HB1.out.size))
    have HKA := Lib.hid hka
    clear hb2 h1 hka
    go_wp2_with fail
    refine (tokens_any b m bcap G w2 (HG.out.below HB2.out) Hbcap.out (by omega) (HS.out.below HB2.out)).mono ?_
    intro ee w3 h2
    obtain ⟨xb, cb, gb, rfl, hb3, hcb, hqb, hkb⟩ := lexPost_open lb Hlb.out h2
    have HB3a := Lib.hid hb3
    have HB3 := Lib.hid (HB2.out.trans (hb3.mono HB2.out.size))
    have HKB := Lib.hid hkb
    clear hb3 h2 hkb
    have hown0 : (w3.alloc (.cells #[] 5)).ownsRow w3.heap.size 5 1 (.slice (some ⟨w3.heap.size, 0, none⟩) 0 0) 0 (([] : List Int).map (Value.int .u8)) := World.ownsRow_lit w3 #[] 0 (Nat.le_refl _) (by unfold maxLen; omega) rfl
    have HO0 := Lib.hid hown0
    clear hown0
    go_wp2_with (first
      | (at_builtin; refine append_bytes rfl (.tmp 40) (.tmp 41) rfl w3.heap.size _ 0 [] rfl HO0.out a n cap F rfl ((HF.out.below HB3.out).below ((Below.refl _ _).alloc (Nat.le_refl _) _)) Hcap.out (by omega) (by simp) ?_; intro v1 w4 hown1 hgrow1; rw [Nat.zero_add, List.nil_append] at hown1; have HO1 := Lib.hid hown1; have HG1 := Lib.hid ((((Below.refl w3.heap.size w3).alloc (Nat.le_refl _) _).grown hgrow1 (by simp) (fun k e => by cases e; exact Nat.le_refl _))); clear hown1 hgrow1; obtain ⟨x1, c1, rfl, -, -⟩ := own_shape HO1.out HF.out.2.1)
      | (at_builtin; refine append_bytes rfl (.tmp 42) (.tmp 43) rfl w3.heap.size _ n F rfl (HO1.out.alloc _) (some ⟨w4.heap.size, 0, none⟩) 1 1 [10] rfl ⟨rfl, by decide, .inr ⟨w4.heap.size, 0, rfl, by simp, fun i hi => by obtain rfl : i = 0 := (by omega); rw [World.cell?_alloc_at _ _ _ _ rfl]; rfl⟩⟩ (fun e => by cases e) (by omega) (by have := HG1.out.size; simp; omega) ?_; intro v2 w5 hown2 hgrow2; have HO2 := Lib.hid hown2; have HG2 := Lib.hid ((HG1.out.alloc HG1.out.size _).grown hgrow2 (by have := HG1.out.size; simp; omega) (fun k e => (HO1.out.lt k e).1)); clear hown2 hgrow2; obtain ⟨x2, c2, rfl, -, -⟩ := own_shape HO2.out (by intro y hy; simp only [List.mem_append, List.mem_singleton] at hy; rcases hy with hy | rfl; exact HF.out.2.1 y hy; omega))
      | (at_builtin; refine append_bytes rfl (.tmp 44) (.tmp 45) rfl w3.heap.size _ (n + 1) (F ++ [10]) rfl HO2.out b m bcap G rfl ((HG.out.below HB3.out).below HG2.out) Hbcap.out (by omega) HG2.out.size ?_; intro v3 w6 hown3 hgrow3; have HO3 := Lib.hid hown3; have HG3 := Lib.hid (HG2.out.grown hgrow3 HG2.out.size (fun k e => (HO2.out.lt k e).1)); clear hown3 hgrow3; obtain ⟨x3, c3, rfl, hr3, hx3⟩ := own_shape HO3.out (join_row HF.out.2.1 HG.out.2.1); have HR3 := Lib.hid hr3; have HX3 := Lib.hid hx3; clear hr3 hx3))
    refine (tokens_any x3 (n + 1 + m) c3 _ w6 HR3.out HX3.out (by omega) ((HS.out.below HB3.out).below HG3.out)).mono ?_
    intro ee w7 h3
    obtain ⟨lj, hlj⟩ : ∃ lj, lj = joinF (n + 1) la lb := ⟨_, rfl⟩
    obtain ⟨xj, cj, gj, rfl, hb7, hcj, hqj, hkj⟩ := lexPost_open lj (Hlj.out.trans hlj.symm) h3
    have HB7a := Lib.hid (HG3.out.trans (hb7.mono HG3.out.size))
    have HB7 := Lib.hid (HB3.out.trans (HB7a.out.mono HB3.out.size))
    have HKJ := Lib.hid hkj
    clear hb7 h3 hkj
    cases la with
    | inl x =>
      obtain ⟨c, p⟩ := x
      obtain rfl : lj = .inl (c, p) := hlj
      obtain ⟨hc1, hp1⟩ := lexF_bad Hla.out
      have hc0 : ((c : Int) != 0) = true := by simp; omega
      have hz : ((0 : Int) == 0) = true := rfl
      generalize errOf lb = eb at *
      generalize placeOf lb = pb at *
      generalize manyOf lb = nb at *
      clear hc1 hp1
      simp only [manyOf, errOf, placeOf] at *
      go_wp2
      go_ret
      exact ⟨rfl, HB7.out⟩
    | inr ts =>
      cases lb with
      | inl x =>
        obtain ⟨c, p⟩ := x
        obtain rfl : lj = .inl (c, p + (n + 1)) := hlj
        obtain ⟨hc1, hp1⟩ := lexF_bad Hlb.out
        rw [bytesOf_len, HG.out.1] at hp1
        have hc0 : ((c : Int) != 0) = true := by simp; omega
        have hpp : ((((p + (n + 1) : Nat) : Int)) == (n : Int) + 1 + (p : Int)) = true := by simp; omega
        simp only [manyOf, errOf, placeOf] at *
        clear hc1
        go_wp2
        go_ret
        exact ⟨rfl, HB7.out⟩
      | inr us =>
        obtain rfl : lj = .inr (ts.dropLast ++ us.map (Tok.later (n + 1))) := hlj
        have hqa0 := lexF_pos Hla.out
        have hqb0 := lexF_pos Hlb.out
        have hua := lexF_ad Hlb.out
        rw [bytesOf_len, HG.out.1] at hua
        have Hua := Lib.hid hua
        clear hua
        obtain ⟨qa, hqa'⟩ : ∃ q, q = ts.length := ⟨_, rfl⟩
        obtain ⟨qb, hqb'⟩ : ∃ q, q = us.length := ⟨_, rfl⟩
        have hjl : (ts.dropLast ++ us.map (Tok.later (n + 1))).length = qa - 1 + qb := by simp [hqa', hqb']
        obtain ⟨js, hjs⟩ : ∃ js, js = ts.dropLast ++ us.map (Tok.later (n + 1)) := ⟨_, rfl⟩
        rw [← hjs] at hjl HKJ hcj hqj ⊢
        obtain ⟨qj, hqj'⟩ : ∃ q, q = js.length := ⟨_, rfl⟩
        have Hja : Hid (∀ k (hk : k < qa - 1), (js[k]? = ts[k]?)) := by
          intro k hk
          rw [hjs, List.getElem?_append_left (by simp; omega), List.getElem?_dropLast, if_pos (by omega)]
        have Hjb : Hid (∀ k (hk : qa - 1 ≤ k), (js[k]? = (us[k - (qa - 1)]?).map (Tok.later (n + 1)))) := by
          intro k hk
          rw [hjs, List.getElem?_append_right (by simp; omega), List.getElem?_map]
          simp [hqa']
        simp only [manyOf, errOf, placeOf, toksOf] at *
        rw [← hqj'] at hjl hcj hqj HKJ ⊢
        rw [← hqa'] at hca hqa hqa0 HKA ⊢
        rw [← hqb'] at hcb hqb hqb0 HKB ⊢
        obtain ⟨rfl, hga, hka⟩ := HKA.out hqa0
        obtain ⟨rfl, hgb, hkb⟩ := HKB.out hqb0
        obtain ⟨rfl, hgj, hkj⟩ := HKJ.out (by omega)
        have Ka := Lib.hid hka
        have Kb := Lib.hid hkb
        have Kj := Lib.hid hkj
        have Hqa := Lib.hid hqa'
        have Hqb := Lib.hid hqb'
        have Hqj := Lib.hid hqj'
        clear hka hkb hkj hqa' hqb' hqj' hjs
        subst hjl
        have hz0 : (((0 : Nat) : Int) != 0) = false := rfl
        have hne : (((qa - 1 + qb : Nat) : Int) != (qa : Int) - 1 + (qb : Int)) = false := by simp; omega
        go_wp2_with fail
        go_loopw [100] (fun i wr => ∃ k : Nat, k ≤ qa - 1 + qb ∧ i = .int .i64 k ∧ Below w7.heap.size w7 wr) (fun i _ => qa - 1 + qb - (intOf i).toNat)
        case atStart => exact ⟨0, Nat.zero_le _, rfl, Below.refl _ _⟩
        case round =>
          obtain ⟨k, hk, rfl, hB⟩ := hrel
          have HB := Lib.hid hB
          clear hB
          by_cases hlt : k < qa - 1 + qb
          · have hgaw : ga < wr.heap.size := by have := HB.out.size; have := HB7a.out.size; have := HB3a.out.size; omega
            have hgbw : gb < wr.heap.size := by have := HB.out.size; have := HB7a.out.size; omega
            have hgjw : gj < wr.heap.size := by have := HB.out.size; omega
            by_cases hka : k < qa - 1
            · obtain ⟨t, ht⟩ : ∃ t, ts[k]? = some t := ⟨_, List.getElem?_eq_getElem (by rw [← Hqa.out]; omega)⟩
              obtain ⟨a1, a2, a3, a4⟩ := (((Ka.out k t ht).below HB3a.out hga).below HB7a.out (by have := HB3a.out.size; omega)).below HB.out (by have := HB7a.out.size; have := HB3a.out.size; omega)
              obtain ⟨j1, j2, j3, j4⟩ := (Kj.out k t ((Hja.out k hka).trans ht)).below HB.out hgj
              clear ht
              have hd : decide ((k : Int) < (qa : Int) - 1) = true := by simp; omega
              go_wp2_with fail
              exact ⟨⟨k + 1, by omega, by go_num, (HB.out.alloc HB.out.size _).alloc (by have := HB.out.size; simp; omega) _⟩, by simp [intOf]; omega⟩
            · obtain ⟨i, rfl⟩ : ∃ i, k = i + (qa - 1) := ⟨k - (qa - 1), by omega⟩
              obtain ⟨u, hu⟩ : ∃ u, us[i]? = some u := ⟨_, List.getElem?_eq_getElem (by rw [← Hqb.out]; omega)⟩
              have hju : js[i + (qa - 1)]? = some (Tok.later (n + 1) u) := by
                rw [Hjb.out _ (by omega), Nat.add_sub_cancel, hu]; rfl
              have had := Hua.out u (List.mem_of_getElem? hu)
              obtain ⟨b1, b2, b3, b4⟩ := ((Kb.out i u hu).below HB7a.out hgb).below HB.out (by have := HB7a.out.size; omega)
              obtain ⟨j1, j2, j3, j4⟩ := (Kj.out _ _ hju).below HB.out hgj
              simp only [Tok.later] at j1 j2 j3 j4
              clear hju hu
              obtain ⟨k, hkk⟩ : ∃ k, k = i + (qa - 1) := ⟨_, rfl⟩
              rw [← hkk] at j1 j2 j3 j4 hka hlt hk ⊢
              have hd : decide ((k : Int) < (qa : Int) - 1) = false := by simp; omega
              have hi : (k : Int) - (qa : Int) + 1 = (i : Int) := by omega
              have hib : i < qb := by omega
              have Hkk := Lib.hid hkk
              clear hkk
              go_wp2_with fail
              exact ⟨⟨k + 1, by omega, by go_num, (HB.out.alloc HB.out.size _).alloc (by have := HB.out.size; simp; omega) _⟩, by simp [intOf]; omega⟩
          · go_wp2
            go_ret
            exact ⟨rfl, HB7.out.trans (HB.out.mono HB7.out.size)⟩
end Go.Proofs.YtcolielkeomglaaDoor
