/- alloc: another base, in plain terms. -/
import Derived.Test.YtmkencdkglbpbaaDoorAlQ
set_option maxRecDepth 100000
set_option linter.unusedVariables false
namespace Go.Proofs.YtmkencdkglbpbaaDoor
open Go.RowKit Go.Maps

/-- The same operation, or a slot's over the other base. -/
def RelO (a b : Int) (o p : Op8) : Prop := o = p ∨ ((o.K = 2 ∨ o.K = 3) ∧ ∃ t, 0 ≤ t ∧ o.N = a + t ∧ p = { o with N := b + t })
def RelL (a b : Int) (A B : List Op8) : Prop := A.length = B.length ∧ ∀ (i : Nat) (o p : Op8), A[i]? = some o → B[i]? = some p → RelO a b o p
theorem RelL.snoc {a b : Int} {A B : List Op8} {o p : Op8} (h : RelL a b A B) (ho : RelO a b o p) : RelL a b (A ++ [o]) (B ++ [p]) := by
  refine ⟨by simp [h.1], fun i x y hx hy => ?_⟩
  by_cases hi : i < A.length
  · rw [List.getElem?_append_left hi] at hx
    rw [List.getElem?_append_left (by rw [← h.1]; exact hi)] at hy
    exact h.2 i x y hx hy
  · have hi' : i = A.length := by
      have := (List.getElem?_eq_some_iff.1 hx).1
      simp at this; omega
    subst hi'
    rw [List.getElem?_append_right (Nat.le_refl _)] at hx
    rw [h.1, List.getElem?_append_right (Nat.le_refl _)] at hy
    simp at hx hy
    subst hx; subst hy; exact ho
/-- The same books, but for the base. -/
structure SimB (a b : Int) (s u : AS) : Prop where
  pos : s.pos = u.pos
  G : s.G = u.G
  T : s.T = u.T
  slots : s.slots = u.slots
  out : RelL a b s.out u.out
section
variable {a b : Int} {s u : AS}
theorem SimB.spill (h : SimB a b s u) (v : Int) : SimB a b (spillF a s v) (spillF b u v) := by
  have hs : slotOf s = slotOf u := by unfold slotOf; rw [h.T]
  unfold spillF
  rw [← h.T]
  by_cases hc : s.T.contains v = true
  · rw [if_pos hc, if_pos hc]; exact h
  · rw [if_neg hc, if_neg hc]
    refine ⟨h.pos, h.G, ?_, ?_, h.out.snoc (.inr ⟨.inr rfl, 4 * slotOf s, by have := slotOf_ge s; omega, rfl, ?_⟩)⟩
    · show List.set _ _ _ = List.set _ _ _; rw [hs]
    · show max _ _ = max _ _; rw [h.slots, hs]
    · rw [← hs, h.G]
theorem SimB.pick (h : SimB a b s u) (nx : Int → Int) (pins : List Int) : pickF nx pins s = pickF nx pins u := by
  unfold pickF; rw [h.G]
theorem SimB.take (h : SimB a b s u) (nx : Int → Int) (pins : List Int) (v : Int) : SimB a b (takeF nx a pins s v) (takeF nx b pins u v) := by
  unfold takeF
  rw [← h.pick, ← h.G]
  simp only
  by_cases hc : idxV s.G (-1) 0 < 0
  · rw [if_pos hc, if_pos hc]
    have h1 := h.spill (s.G.getD (pickF nx pins s).toNat 0)
    exact ⟨h1.pos, by show List.set _ _ _ = List.set _ _ _; rw [h1.G], h1.T, h1.slots, h1.out⟩
  · rw [if_neg hc, if_neg hc]
    exact ⟨h.pos, by show List.set _ _ _ = List.set _ _ _; rw [h.G], h.T, h.slots, h.out⟩
end
theorem SimB.read {a b : Int} {nx : Int → Int} {pins : List Int} : ∀ (U : List Int) {s u : AS}, SimB a b s u → SimB a b (readF nx a pins U s) (readF nx b pins U u)
  | [], s, u, h => h
  | v :: U, s, u, h => by
    unfold readF
    rw [← h.G]
    by_cases hc : idxV s.G v 0 < 0
    · rw [if_pos hc, if_pos hc]
      have h1 := h.take nx pins v
      rw [← h.pick]
      exact SimB.read U ⟨h1.pos, h1.G, h1.T, h1.slots, h1.out.snoc (.inr ⟨.inl rfl, 4 * max (idxV (takeF nx a pins s v).T v 0) 0, by omega, rfl, by rw [h1.T]⟩)⟩
    · rw [if_neg hc, if_neg hc]
      exact SimB.read U h
theorem SimB.sets {a b : Int} {nx : Int → Int} {pins : List Int} : ∀ (W : List Int) {s u : AS} (tt : List Int), SimB a b s u → SimB a b (setF nx a pins W s tt).1 (setF nx b pins W u tt).1 ∧ (setF nx a pins W s tt).2 = (setF nx b pins W u tt).2
  | [], s, u, tt, h => ⟨h, rfl⟩
  | v :: W, s, u, tt, h => by
    unfold setF
    rw [← h.pick]
    exact SimB.sets W _ (h.take nx pins v)
theorem SimB.step {a b : Int} {last : Int → List Int} {n : Int} {s u : AS} (h : SimB a b s u) (o : Op8) : SimB a b (stepF last n a s o) (stepF last n b u o) := by
  unfold stepF
  simp only
  rw [← h.pos]
  have h1 := SimB.read (nx := fun v => nextF n s.pos (last v)) (pins := regsOf [o.f0, o.f1, o.f2, o.f3]) (regsOf [o.f0, o.f1, o.f2, o.f3]) h
  obtain ⟨h2, h3⟩ := SimB.sets (nx := fun v => nextF n s.pos (last v)) (pins := regsOf [o.f0, o.f1, o.f2, o.f3] ++ regsOf [o.t0, o.t1]) (regsOf [o.t0, o.t1]) [] h1
  have h4 := h2.out.snoc (o := ⟨o.K, padV (setF (fun v => nextF n s.pos (last v)) a (regsOf [o.f0, o.f1, o.f2, o.f3] ++ regsOf [o.t0, o.t1]) (regsOf [o.t0, o.t1]) (readF (fun v => nextF n s.pos (last v)) a (regsOf [o.f0, o.f1, o.f2, o.f3]) (regsOf [o.f0, o.f1, o.f2, o.f3]) s) []).2 0,
    padV (setF (fun v => nextF n s.pos (last v)) a (regsOf [o.f0, o.f1, o.f2, o.f3] ++ regsOf [o.t0, o.t1]) (regsOf [o.t0, o.t1]) (readF (fun v => nextF n s.pos (last v)) a (regsOf [o.f0, o.f1, o.f2, o.f3]) (regsOf [o.f0, o.f1, o.f2, o.f3]) s) []).2 1,
    padV ((regsOf [o.f0, o.f1, o.f2, o.f3]).map fun v => idxV (readF (fun v => nextF n s.pos (last v)) a (regsOf [o.f0, o.f1, o.f2, o.f3]) (regsOf [o.f0, o.f1, o.f2, o.f3]) s).G v 0) 0, padV ((regsOf [o.f0, o.f1, o.f2, o.f3]).map fun v => idxV (readF (fun v => nextF n s.pos (last v)) a (regsOf [o.f0, o.f1, o.f2, o.f3]) (regsOf [o.f0, o.f1, o.f2, o.f3]) s).G v 0) 1,
    padV ((regsOf [o.f0, o.f1, o.f2, o.f3]).map fun v => idxV (readF (fun v => nextF n s.pos (last v)) a (regsOf [o.f0, o.f1, o.f2, o.f3]) (regsOf [o.f0, o.f1, o.f2, o.f3]) s).G v 0) 2, padV ((regsOf [o.f0, o.f1, o.f2, o.f3]).map fun v => idxV (readF (fun v => nextF n s.pos (last v)) a (regsOf [o.f0, o.f1, o.f2, o.f3]) (regsOf [o.f0, o.f1, o.f2, o.f3]) s).G v 0) 3, o.N⟩) (.inl rfl)
  refine ⟨?_, ?_, ?_, h2.slots, ?_⟩
  · show (setF _ _ _ _ _ _).1.pos + 1 = (setF _ _ _ _ _ _).1.pos + 1; rw [h2.pos]
  · show freeF _ _ _ = freeF _ _ _; simp only; rw [h2.G, h2.pos]
  · show freeF _ _ _ = freeF _ _ _; simp only; rw [h2.T, h2.pos]
  · show RelL a b (_ ++ [_]) (_ ++ [_])
    rw [← h3, ← h1.G]
    exact h4
theorem runF_sim {a b : Int} {last : Int → List Int} {n : Int} : ∀ (l : List Op8) {s u : AS}, SimB a b s u → (runF last n a l s).e = 0 → (runF last n b l u).e = 0 → SimB a b (runF last n a l s) (runF last n b l u)
  | [], s, u, h, _, _ => h
  | o :: l, s, u, h, h1, h2 => by
    rw [runF] at h1 h2 ⊢
    rw [runF]
    by_cases hs : s.e = 0
    · by_cases hu : u.e = 0
      · rw [if_pos hs] at h1 ⊢
        rw [if_pos hu] at h2 ⊢
        exact runF_sim l (h.step o) h1 h2
      · rw [if_neg hu, runF_stuck l u hu] at h2; exact absurd h2 hu
    · rw [if_neg hs, runF_stuck l s hs] at h1; exact absurd h1 hs
/-- The law of bases. -/
theorem allocF_bases {L : List Op8} {a b : Int} (ha : (allocF L a).2.2 = 0) (hb : (allocF L b).2.2 = 0) : (allocF L a).2.1 = (allocF L b).2.1 ∧ RelL a b (allocF L a).1 (allocF L b).1 := by
  obtain ⟨_, _, _, _, s, S, hs, hR, he, h1⟩ := allocF_ok ha
  obtain ⟨_, _, _, _, u, S', hu, hR', he', h2⟩ := allocF_ok hb
  rw [h1, h2]
  have := runF_sim (a := a) (b := b) (last := lastF L 0) (n := L.length) L (s := AS0) (u := AS0) ⟨rfl, rfl, rfl, rfl, rfl, by simp [AS0]⟩ (by rw [← hs]; exact he) (by rw [← hu]; exact he')
  rw [← hs, ← hu] at this
  exact ⟨this.slots, this.out⟩
end Go.Proofs.YtmkencdkglbpbaaDoor
