/- alloc: only eight registers are named, in plain terms. -/
import Derived.Test.YtmkencdkglbpbaaDoorAlQ
set_option maxRecDepth 100000
set_option linter.unusedVariables false
namespace Go.Proofs.YtmkencdkglbpbaaDoor
open Go.RowKit Go.Maps

/-- An operation over eight registers. -/
structure Eight (o : Op8) : Prop where
  ok : rightV o.K o.t0 o.t1 o.f0 o.f1 o.f2 o.f3 o.N = true
  regs : ∀ x ∈ regsOf [o.f0, o.f1, o.f2, o.f3] ++ regsOf [o.t0, o.t1], 0 ≤ x ∧ x ≤ 7
  dis : ∀ t ∈ regsOf [o.t0, o.t1], ∀ f ∈ regsOf [o.f0, o.f1, o.f2, o.f3], t ≠ f
theorem regsOf_one {r : Int} (h : 0 ≤ r) : regsOf [r, -1, -1, -1] = [r] ∧ regsOf [r, -1] = [r] ∧ regsOf [(-1 : Int), -1] = [] ∧ regsOf [(-1 : Int), -1, -1, -1] = [] := by
  have : (r != -1) = true := by simp; omega
  refine ⟨?_, ?_, rfl, rfl⟩ <;> simp [regsOf, this]
theorem eight_put {r N : Int} (hr : 0 ≤ r ∧ r ≤ 7) (hN : N % 4 = 0 ∧ N ≤ 1020) : Eight ⟨3, -1, -1, r, -1, -1, -1, N⟩ := by
  obtain ⟨e1, e2, e3, e4⟩ := regsOf_one hr.1
  refine ⟨?_, ?_, ?_⟩
  · show rightV 3 (-1) (-1) r (-1) (-1) (-1) N = true
    simp [rightV, placedV, okAt, toL, fromL, numberV, hN.1]
    omega
  · show ∀ x ∈ regsOf [r, -1, -1, -1] ++ regsOf [(-1 : Int), -1], 0 ≤ x ∧ x ≤ 7
    rw [e1, e3]; simp; omega
  · show ∀ t ∈ regsOf [(-1 : Int), -1], _
    rw [e3]; simp
theorem eight_get {r N : Int} (hr : 0 ≤ r ∧ r ≤ 7) (hN : N % 4 = 0 ∧ N ≤ 1020) : Eight ⟨2, r, -1, -1, -1, -1, -1, N⟩ := by
  obtain ⟨e1, e2, e3, e4⟩ := regsOf_one hr.1
  refine ⟨?_, ?_, ?_⟩
  · show rightV 2 r (-1) (-1) (-1) (-1) (-1) N = true
    simp [rightV, placedV, okAt, toL, fromL, numberV, hN.1]
    omega
  · show ∀ x ∈ regsOf [(-1 : Int), -1, -1, -1] ++ regsOf [r, -1], 0 ≤ x ∧ x ≤ 7
    rw [e2, e4]; simp; omega
  · show ∀ t ∈ regsOf [r, -1], ∀ f ∈ regsOf [(-1 : Int), -1, -1, -1], _
    rw [e4]; simp
theorem okAt_pad {n : Int} {F : List Int} (hn : (F.length : Int) = n) (hF : ∀ x ∈ F, 0 ≤ x ∧ x ≤ 7) (j : Nat) : okAt n j (padV F j) = true := by
  rw [okAt_iff]
  unfold padV
  by_cases h : j < F.length
  · have e : F.getD j (-1) = F[j] := by rw [List.getD_eq_getElem?_getD, List.getElem?_eq_getElem h]; rfl
    have := hF _ (List.getElem_mem h)
    rw [e]; omega
  · have e : F.getD j (-1) = -1 := by rw [List.getD_eq_getElem?_getD, List.getElem?_eq_none (by omega)]; rfl
    rw [e]; omega
theorem regs_four' {n f0 f1 f2 f3 : Int} (h0 : okAt n 0 f0 = true) (h1 : okAt n 1 f1 = true) (h2 : okAt n 2 f2 = true) (h3 : okAt n 3 f3 = true) (hn : 0 ≤ n ∧ n ≤ 4) : ((regsOf [f0, f1, f2, f3]).length : Int) = n := by
  rw [okAt_iff] at h0 h1 h2 h3
  have e : ∀ x : Int, 0 ≤ x → (x != -1) = true := fun x hx => by simp; omega
  have hn' : n = 0 ∨ n = 1 ∨ n = 2 ∨ n = 3 ∨ n = 4 := by omega
  rcases hn' with rfl | rfl | rfl | rfl | rfl
  · obtain rfl : f0 = -1 := by omega
    obtain rfl : f1 = -1 := by omega
    obtain rfl : f2 = -1 := by omega
    obtain rfl : f3 = -1 := by omega
    rfl
  · obtain rfl : f1 = -1 := by omega
    obtain rfl : f2 = -1 := by omega
    obtain rfl : f3 = -1 := by omega
    simp [regsOf, e f0 (by omega)]
  · obtain rfl : f2 = -1 := by omega
    obtain rfl : f3 = -1 := by omega
    simp [regsOf, e f0 (by omega), e f1 (by omega)]
  · obtain rfl : f3 = -1 := by omega
    simp [regsOf, e f0 (by omega), e f1 (by omega), e f2 (by omega)]
  · simp [regsOf, e f0 (by omega), e f1 (by omega), e f2 (by omega), e f3 (by omega)]
theorem regsOf_pad2 {F : List Int} (h : F.length ≤ 2) (h0 : ∀ x ∈ F, x ≠ -1) : regsOf [padV F 0, padV F 1] = F := by
  match F, h with
  | [], _ => rfl
  | [a], _ => simp [padV, regsOf, h0 a]
  | [a, b], _ => simp [padV, regsOf, h0 a, h0 b]
theorem eight_list {o : Op8} {T F : List Int} (ho : rightV o.K o.t0 o.t1 o.f0 o.f1 o.f2 o.f3 o.N = true) (hT : T.length = (regsOf [o.t0, o.t1]).length) (hF : F.length = (regsOf [o.f0, o.f1, o.f2, o.f3]).length) (h1 : ∀ x ∈ T, 0 ≤ x ∧ x ≤ 7) (h2 : ∀ x ∈ F, 0 ≤ x ∧ x ≤ 7) (hn : T.Nodup) (hd : ∀ t ∈ T, ∀ f ∈ F, t ≠ f) :
    Eight ⟨o.K, padV T 0, padV T 1, padV F 0, padV F 1, padV F 2, padV F 3, o.N⟩ := by
  obtain ⟨k, hk, R⟩ := rightOp_of ho
  have l4 := regsOf_le4 o.f0 o.f1 o.f2 o.f3
  have l2 := regsOf_le2 o.t0 o.t1
  have eT : regsOf [padV T 0, padV T 1] = T := regsOf_pad2 (by omega) (fun x hx => by have := h1 x hx; omega)
  have eF : regsOf [padV F 0, padV F 1, padV F 2, padV F 3] = F := regsOf_pad (by omega) (fun x hx => by have := h2 x hx; omega)
  have nT := (regs_two R.pt0 R.pt1 (toL_bd k)).1
  have nF := regs_four' R.pf0 R.pf1 R.pf2 R.pf3 (fromL_bd4 k)
  rw [← hT] at nT
  rw [← hF] at nF
  refine ⟨?_, ?_, ?_⟩
  · show rightV o.K (padV T 0) (padV T 1) (padV F 0) (padV F 1) (padV F 2) (padV F 3) o.N = true
    unfold rightV
    rw [hk, Int.toNat_natCast]
    have a0 := okAt_pad nT h1 0
    have a1 := okAt_pad nT h1 1
    have b0 := okAt_pad nF h2 0
    have b1 := okAt_pad nF h2 1
    have b2 := okAt_pad nF h2 2
    have b3 := okAt_pad nF h2 3
    have hnum : numberV (k : Int) o.N = true := R.num
    have htwo : (decide (toL.getD k 0 < 2) || padV T 0 != padV T 1) = true := by
      rw [Bool.or_eq_true]
      by_cases h : toL.getD k 0 < 2
      · exact .inl (by simpa using h)
      · refine .inr ?_
        have hb := (toL_bd k).2
        have hl : T.length = 2 := by omega
        match T, hl with
        | [a, b], _ =>
          have := List.nodup_cons.1 hn
          simp at this
          simp [padV, this]
    have hr1 := R.h1
    have hr2 := R.h2
    simp only [placedV, a0, a1, b0, b1, b2, b3, hnum, htwo, Bool.and_true]
    simp
    omega
  · show ∀ x ∈ regsOf [padV F 0, padV F 1, padV F 2, padV F 3] ++ regsOf [padV T 0, padV T 1], 0 ≤ x ∧ x ≤ 7
    rw [eT, eF]
    intro x hx
    rcases List.mem_append.1 hx with hx | hx
    · exact h2 x hx
    · exact h1 x hx
  · show ∀ t ∈ regsOf [padV T 0, padV T 1], ∀ f ∈ regsOf [padV F 0, padV F 1, padV F 2, padV F 3], t ≠ f
    rw [eT, eF]; exact hd

/-- While nothing is wrong what was put out is over eight. -/
def InvE (s : AS) : Prop := s.e = 0 → ∀ o ∈ s.out, Eight o
theorem idx_reg {s : AS} {v : Int} (h : Fine s) (hv : v ∈ s.G) : 0 ≤ idxV s.G v 0 ∧ idxV s.G v 0 ≤ 7 := by
  have h1 := (idxV_mem s.G v 0).2 hv
  have h2 := idxV_bd s.G v 0
  rw [h.g8] at h2
  omega
theorem spillF_eight {base : Int} {s : AS} {v : Int} (hf : Fine s) (hb : base % 4 = 0) (hv : v ∈ s.G) (h : InvE s) : InvE (spillF base s v) := by
  unfold spillF
  split
  · exact h
  · intro he x hx
    have he' : (if base + 4 * slotOf s > 1020 then (160 : Int) else s.e) = 0 := he
    have hx' : x ∈ s.out ++ [⟨3, -1, -1, idxV s.G v 0, -1, -1, -1, base + 4 * slotOf s⟩] := hx
    split at he'
    · omega
    · rcases List.mem_append.1 hx' with hx' | hx'
      · exact h he' x hx'
      · simp only [List.mem_singleton] at hx'
        subst hx'
        exact eight_put (idx_reg hf hv) ⟨by omega, by omega⟩
theorem takeF_eight {nx : Int → Int} {base : Int} {pins : List Int} {s : AS} {v : Int} (hf : Fine s) (hp : pins.length ≤ 6) (hb : base % 4 = 0) (h : InvE s) : InvE (takeF nx base pins s v) := by
  obtain ⟨hr, _⟩ := pick_at (nx := nx) hf hp
  unfold takeF
  simp only
  split
  · refine spillF_eight hf hb ?_ h
    rw [List.getD_eq_getElem?_getD, List.getElem?_eq_getElem hr]
    exact List.getElem_mem hr
  · exact h
theorem readF_eight {nx : Int → Int} {base : Int} {pins : List Int} {last : Int → List Int} {n : Int} {S : List Int} {L : List Op8} (hp : pins.length ≤ 6) (hb : base % 4 = 0) : ∀ (U : List Int) {s : AS}, Fine s → InvO last n base S L s → (∀ v ∈ U, v ∈ S ∧ v ∈ pins ∧ nextF n s.pos (last v) < n ∧ 0 ≤ v ∧ v ≤ 65535) → InvE s → InvE (readF nx base pins U s)
  | [], s, hf, h, _, he => he
  | v :: U, s, hf, h, hU, he => by
    obtain ⟨a1, a2, a3, a4, a5⟩ := hU v (by simp)
    unfold readF
    split
    · rename_i hJ
      have hm : v ∉ s.G := fun e => by have := (idxV_mem s.G v 0).2 e; omega
      have hT : v ∈ s.T := (h.live v a1 (by omega) a3).resolve_left hm
      have f1 := takeF_fine (nx := nx) (base := base) (pins := pins) hf ⟨by omega, a5⟩ hm
      have i1 := takeF_inv (nx := nx) (v := v) (S' := S) hf hp h (fun x hx => .inl hx)
      have hT1 := takeF_T (nx := nx) (base := base) (pins := pins) (v := v) hT (by omega)
      have hp1 := takeF_pos nx base pins s v
      have e1 := takeF_eight (nx := nx) (v := v) hf hp hb he
      have hk := pick_ok (nx := nx) hf hp
      generalize takeF nx base pins s v = s1 at f1 i1 hT1 hp1 e1 ⊢
      have hi := (idxV_mem s1.T v 0).2 hT1
      have hbd := idxV_bd s1.T v 0
      have htn := i1.tn
      simp only
      refine readF_eight (last := last) (n := n) (S := S) (L := L) hp hb U (s := { s1 with out := s1.out ++ [⟨2, pickF nx pins s, -1, -1, -1, -1, -1, base + 4 * max (idxV s1.T v 0) 0⟩] }) ⟨f1.g8, f1.gO, f1.tO, f1.gb, f1.tb⟩
        ⟨i1.tn, i1.low, .slot ⟨.inl rfl, idxV s1.T v 0, hi, by show idxV s1.T v 0 < s1.slots; omega, by rw [Int.max_eq_left hi]⟩ i1.wv, i1.live⟩
        (fun x hx => by obtain ⟨b1, b2, b3, b4, b5⟩ := hU x (by simp [hx]); exact ⟨b1, b2, by rw [show ({ s1 with out := s1.out ++ [⟨2, pickF nx pins s, -1, -1, -1, -1, -1, base + 4 * max (idxV s1.T v 0) 0⟩] } : AS).pos = s.pos from hp1]; exact b3, b4, b5⟩) ?_
      intro h0 x hx
      have hl := i1.low h0
      rcases List.mem_append.1 hx with hx | hx
      · exact e1 h0 x hx
      · simp only [List.mem_singleton] at hx
        subst hx
        refine eight_get ⟨hk.1, by omega⟩ ⟨?_, ?_⟩
        · rw [Int.max_eq_left hi]; omega
        · rw [Int.max_eq_left hi]; omega
    · exact readF_eight (last := last) (n := n) (S := S) (L := L) hp hb U hf h (fun x hx => hU x (by simp [hx])) he
/-- It stands there, and is pinned. -/
def Held (pins : List Int) (s : AS) (i : Nat) (x : Int) : Prop := s.G[i]? = some x ∧ x ∈ pins ∧ x ≠ -1
theorem takeF_held {nx : Int → Int} {base : Int} {pins : List Int} {s : AS} {v : Int} (hf : Fine s) (hp : pins.length ≤ 6) {i : Nat} {x : Int} (h : Held pins s i x) : Held pins (takeF nx base pins s v) i x ∧ pickF nx pins s ≠ i := by
  obtain ⟨h1, h2, h3⟩ := h
  obtain ⟨hr, hc⟩ := pick_at (nx := nx) hf hp
  have hk := pick_ok (nx := nx) hf hp
  have hne : (pickF nx pins s).toNat ≠ i := fun e => by
    rw [← e, List.getElem?_eq_getElem hr] at h1
    injection h1 with h1
    rcases hc with ⟨_, h4⟩ | ⟨_, h4⟩
    · exact h4 (h1 ▸ h2)
    · exact h3 (h1 ▸ h4)
  refine ⟨⟨?_, h2, h3⟩, by omega⟩
  rw [takeF_G, List.getElem?_set_ne hne]
  exact h1
theorem setF_held {nx : Int → Int} {base : Int} {pins : List Int} (hp : pins.length ≤ 6) (hb : base % 4 = 0) : ∀ (W : List Int) {S : List Int} {s : AS} (tt : List Int), Fine s → InG S s → (∀ x ∈ W, 0 ≤ x ∧ x ≤ 65535) → W.Nodup → (∀ x ∈ W, x ∉ S) → (∀ x ∈ W, x ∈ pins) → InvE s →
    InvE (setF nx base pins W s tt).1 ∧ ∃ rs, (setF nx base pins W s tt).2 = tt ++ rs ∧ rs.length = W.length ∧ (∀ r ∈ rs, 0 ≤ r ∧ r ≤ 7) ∧ rs.Nodup ∧ ∀ i x, Held pins s i x → (i : Int) ∉ rs
  | [], S, s, tt, hf, hg, _, _, _, _, he => ⟨he, [], by simp [setF], rfl, by simp, .nil, by simp⟩
  | v :: W, S, s, tt, hf, hg, hbd, hn, hS, hP, he => by
    have hv := hS v (by simp)
    have hv0 := hbd v (by simp)
    have hng : v ∉ s.G := fun e => by
      rcases hg v e with e | e
      · omega
      · exact hv e
    have h1 := List.nodup_cons.1 hn
    have hk := pick_ok (nx := nx) hf hp
    obtain ⟨hr, _⟩ := pick_at (nx := nx) hf hp
    have f1 := takeF_fine (nx := nx) (base := base) (pins := pins) hf ⟨by omega, hv0.2⟩ hng
    obtain ⟨a, rs, b1, b2, b3, b4, b5⟩ := setF_held (nx := nx) hp hb W (S := S ++ [v]) (s := takeF nx base pins s v) (tt ++ [pickF nx pins s]) f1 (hg.take (fun x hx => by simp [hx]) (by simp)) (fun x hx => hbd x (by simp [hx])) h1.2 (fun x hx => by
      have := hS x (by simp [hx])
      simp only [List.mem_append, List.mem_singleton, not_or]
      exact ⟨this, fun e => h1.1 (e ▸ hx)⟩) (fun x hx => hP x (by simp [hx])) (takeF_eight hf hp hb he)
    unfold setF
    refine ⟨a, pickF nx pins s :: rs, by rw [b1]; simp, by simp [b2], ?_, ?_, ?_⟩
    · intro r hr'
      rcases List.mem_cons.1 hr' with rfl | hr'
      · omega
      · exact b3 r hr'
    · refine List.nodup_cons.2 ⟨fun hm => ?_, b4⟩
      have hh : Held pins (takeF nx base pins s v) (pickF nx pins s).toNat v := by
        refine ⟨?_, hP v (by simp), by omega⟩
        rw [takeF_G, List.getElem?_set_self hr]
      have := b5 _ _ hh
      rw [show (((pickF nx pins s).toNat : Nat) : Int) = pickF nx pins s from by omega] at this
      exact this hm
    · intro i x hx hm
      obtain ⟨h2, h3⟩ := takeF_held (nx := nx) (base := base) (v := v) hf hp hx
      rcases List.mem_cons.1 hm with e | e
      · exact h3 e.symm
      · exact b5 i x h2 e
theorem stepF_eight {last : Int → List Int} {n base : Int} {S : List Int} {L : List Op8} {s : AS} {o : Op8} (hb : base % 4 = 0) (hf : Fine s) (hg : InG S s) (ho : OpIn S o) (h : InvO last n base S L s) (hnow : ∀ v ∈ regsOf [o.f0, o.f1, o.f2, o.f3], nextF n s.pos (last v) < n) (he : InvE s) : InvE (stepF last n base s o) := by
  obtain ⟨r1, r2⟩ := Tryd.opOk_regs ho.ok
  have l4 := regsOf_le4 o.f0 o.f1 o.f2 o.f3
  have l2 := regsOf_le2 o.t0 o.t1
  have f1 := readF_fine (nx := fun v => nextF n s.pos (last v)) (base := base) (pins := regsOf [o.f0, o.f1, o.f2, o.f3]) _ hf r1
  have g1 := InG.read (nx := fun v => nextF n s.pos (last v)) (base := base) (pins := regsOf [o.f0, o.f1, o.f2, o.f3]) _ hg ho.u
  obtain ⟨i1, m1, _⟩ := readF_inv (nx := fun v => nextF n s.pos (last v)) (pins := regsOf [o.f0, o.f1, o.f2, o.f3]) (by omega) _ hf h (fun v hv => ⟨ho.u v hv, hv, hnow v hv, r1 v hv⟩)
  have e1 := readF_eight (nx := fun v => nextF n s.pos (last v)) (pins := regsOf [o.f0, o.f1, o.f2, o.f3]) (by omega) hb _ hf h (fun v hv => ⟨ho.u v hv, hv, hnow v hv, r1 v hv⟩) he
  obtain ⟨e2, rs, b1, b2, b3, b4, b5⟩ := setF_held (nx := fun v => nextF n s.pos (last v)) (pins := regsOf [o.f0, o.f1, o.f2, o.f3] ++ regsOf [o.t0, o.t1]) (by simp; omega) hb (regsOf [o.t0, o.t1]) [] f1 g1 r2 ho.n ho.w (fun x hx => by simp [hx]) e1
  unfold stepF
  simp only
  intro h0 x hx
  have hx' : x ∈ _ ++ [_] := hx
  rcases List.mem_append.1 hx' with hx' | hx'
  · exact e2 h0 x hx'
  · simp only [List.mem_singleton] at hx'
    subst hx'
    rw [b1, List.nil_append]
    refine eight_list ho.ok b2 (by rw [List.length_map]) b3 ?_ b4 ?_
    · intro y hy
      obtain ⟨v, hv, rfl⟩ := List.mem_map.1 hy
      exact idx_reg f1 (m1 v hv)
    · intro t ht f hfm
      obtain ⟨v, hv, rfl⟩ := List.mem_map.1 hfm
      have hi := idx_reg f1 (m1 v hv)
      have hlt : (idxV (readF (fun v => nextF n s.pos (last v)) base (regsOf [o.f0, o.f1, o.f2, o.f3]) (regsOf [o.f0, o.f1, o.f2, o.f3]) s).G v 0).toNat < (readF (fun v => nextF n s.pos (last v)) base (regsOf [o.f0, o.f1, o.f2, o.f3]) (regsOf [o.f0, o.f1, o.f2, o.f3]) s).G.length := by rw [f1.g8]; omega
      have hat := idxV_at _ v 0 _ hlt (by omega)
      have := b5 _ v ⟨by rw [List.getElem?_eq_getElem hlt, hat], by simp [hv], by have := r1 v hv; omega⟩
      intro e
      exact this (by rw [Int.toNat_of_nonneg hi.1, ← e]; exact ht)
theorem runF_eight {L : List Op8} {base : Int} (hb : base % 4 = 0) : ∀ (l Pr : List Op8) (S : List Int) (s : AS), L = Pr ++ l → listV S l = true → RunI L Pr base S s → InvE s → InvE (runF (lastF L 0) L.length base l s)
  | [], Pr, S, s, hL, hv, h, he => he
  | o :: l, Pr, S, s, hL, hv, h, he => by
    obtain ⟨ho, hv'⟩ := listV_cons hv
    rw [runF]
    by_cases hs : s.e = 0
    · rw [if_pos hs]
      have hlast : ∀ v, ∀ i ∈ lastF L 0 v, i < (L.length : Int) := fun v i hi => by have := lastF_lt L 0 v i hi; omega
      refine runF_eight hb l (Pr ++ [o]) _ _ (by simp [hL]) hv' (h.step hL ho) (stepF_eight hb h.fine h.inG ho h.inv (fun v hv => ?_) he)
      refine (nextF_lt (hlast v)).2 ⟨Pr.length, ?_, by rw [h.pos]; omega⟩
      have hj : Pr.length < L.length := by rw [hL]; simp
      have hat : L[Pr.length] = o := by simp [hL]
      have := lastF_mem L 0 v Pr.length hj (by rw [hat]; exact hv)
      simpa using this
    · rw [if_neg hs, runF_stuck l s hs]; exact he
/-- Only eight. -/
theorem allocF_eight {L : List Op8} {base : Int} (h : (allocF L base).2.2 = 0) : ∀ o ∈ (allocF L base).1, Eight o := by
  obtain ⟨hv, _, hb1, hb4, s, S, hs, _, he, hr⟩ := allocF_ok h
  have := runF_eight (L := L) hb4 L [] [] AS0 rfl hv (runI0 (L := L) (base := base) hb1) (by intro _ o ho; simp [AS0] at ho)
  rw [← hs] at this
  rw [hr]
  exact this he
end Go.Proofs.YtmkencdkglbpbaaDoor
