/- alloc: where at most eight are needed nothing is added, in plain terms. -/
import Derived.Test.YtmkencdkglbpbaaDoorAlE8
set_option maxRecDepth 100000
set_option linter.unusedVariables false
namespace Go.Proofs.YtmkencdkglbpbaaDoor
open Go.RowKit Go.Maps

/-- What a list sets. -/
def setsF (L : List Op8) : List Int := L.flatMap fun o => regsOf [o.t0, o.t1]
/-- Is it read from there on? -/
def readsF (L : List Op8) (i : Nat) (v : Int) : Bool := (lastF L 0 v).any fun j => decide ((i : Int) ≤ j)
/-- How many are needed at an operation. -/
def pressAt (L : List Op8) (i : Nat) (o : Op8) : Nat := (regsOf [o.t0, o.t1]).length + ((setsF (L.take i)).filter (fun v => readsF L i v)).length
/-- The most, from an operation on. -/
def pressF (L : List Op8) : List Op8 → Nat → Nat → Nat
  | [], _, m => m
  | o :: l, i, m => pressF L l (i + 1) (max m (pressAt L i o))
theorem pressF_ge (L : List Op8) : ∀ (l : List Op8) (i m : Nat), m ≤ pressF L l i m
  | [], _, m => Nat.le_refl _
  | o :: l, i, m => Nat.le_trans (Nat.le_max_left _ _) (pressF_ge L l (i + 1) _)
theorem pressF_at (L : List Op8) : ∀ (l : List Op8) (i m j : Nat) (hj : j < l.length), pressAt L (i + j) l[j] ≤ pressF L l i m
  | o :: l, i, m, 0, _ => Nat.le_trans (Nat.le_max_right _ _) (pressF_ge L l (i + 1) _)
  | o :: l, i, m, j + 1, hj => by
    have := pressF_at L l (i + 1) (max m (pressAt L i o)) j (by simpa using hj)
    rw [show i + (j + 1) = i + 1 + j from by omega]
    exact this
theorem readsF_iff {L : List Op8} {i : Nat} {v : Int} : readsF L i v = true ↔ nextF L.length i (lastF L 0 v) < L.length := by
  have hlast : ∀ j ∈ lastF L 0 v, j < (L.length : Int) := fun j hj => by have := lastF_lt L 0 v j hj; omega
  rw [nextF_lt hlast]
  unfold readsF
  rw [List.any_eq_true]
  simp

theorem readF_id {nx : Int → Int} {base : Int} {pins : List Int} {s : AS} : ∀ U : List Int, (∀ v ∈ U, v ∈ s.G) → readF nx base pins U s = s
  | [], _ => rfl
  | v :: U, h => by
    unfold readF
    have := (idxV_mem s.G v 0).2 (h v (by simp))
    rw [if_neg (by omega)]
    exact readF_id U (fun x hx => h x (by simp [hx]))
def freeN (G : List Int) : Nat := (G.filter fun x => x == -1).length
theorem freeN_set : ∀ (G : List Int) (i : Nat) (hi : i < G.length) (v : Int), G[i] = -1 → v ≠ -1 → freeN (G.set i v) + 1 = freeN G
  | x :: G, 0, _, v, h, hv => by
    simp only [List.getElem_cons_zero] at h
    subst h
    have : (v == -1) = false := by simpa using hv
    simp [freeN, this]
  | x :: G, i + 1, hi, v, h, hv => by
    have ih := freeN_set G i (by simpa using hi) v (by simpa using h) hv
    unfold freeN at ih ⊢
    rw [List.set_cons_succ, List.filter_cons, List.filter_cons]
    split
    · simp only [List.length_cons]; omega
    · exact ih
theorem freeN_pos {G : List Int} (h : 0 < freeN G) : ¬idxV G (-1) 0 < 0 := by
  unfold freeN at h
  obtain ⟨x, hx⟩ := List.exists_mem_of_length_pos h
  have := List.mem_filter.1 hx
  have e : x = -1 := by simpa using this.2
  have := (idxV_mem G (-1) 0).2 (e ▸ this.1)
  omega
/-- The same but for the registers. -/
structure SameB (s u : AS) : Prop where
  pos : u.pos = s.pos
  T : u.T = s.T
  out : u.out = s.out
  slots : u.slots = s.slots
theorem setF_free {nx : Int → Int} {base : Int} {pins : List Int} : ∀ (W : List Int) (s : AS) (tt : List Int), W.length ≤ freeN s.G → (∀ x ∈ W, x ≠ -1) → SameB s (setF nx base pins W s tt).1 ∧ ∀ x ∈ (setF nx base pins W s tt).1.G, x ∈ s.G ∨ x ∈ W
  | [], s, tt, _, _ => ⟨⟨rfl, rfl, rfl, rfl⟩, fun x hx => .inl hx⟩
  | v :: W, s, tt, h, hW => by
    have hf : ¬idxV s.G (-1) 0 < 0 := freeN_pos (by simp at h; omega)
    have hv := hW v (by simp)
    have ht : takeF nx base pins s v = { s with G := s.G.set (idxV s.G (-1) 0).toNat v } := by
      unfold takeF pickF
      rw [if_neg hf, if_neg hf]
    have hb := idxV_bd s.G (-1) 0
    have hi : (idxV s.G (-1) 0).toNat < s.G.length := by omega
    have hat := idxV_at s.G (-1) 0 _ hi (by omega)
    have hn := freeN_set s.G _ hi v hat hv
    unfold setF
    rw [ht]
    obtain ⟨a, b⟩ := setF_free (nx := nx) (base := base) (pins := pins) W { s with G := s.G.set (idxV s.G (-1) 0).toNat v } (tt ++ [pickF nx pins s]) (by show W.length ≤ freeN (s.G.set _ v); simp at h; omega) (fun x hx => hW x (by simp [hx]))
    refine ⟨⟨a.pos, a.T, a.out, a.slots⟩, fun x hx => ?_⟩
    rcases b x hx with hx | hx
    · rcases List.mem_or_eq_of_mem_set hx with hx | rfl
      · exact .inl hx
      · exact .inr (by simp)
    · exact .inr (by simp [hx])
theorem free_occ (G : List Int) : freeN G + (G.filter fun x => x != -1).length = G.length := by
  unfold freeN
  induction G with
  | nil => rfl
  | cons x G ih =>
    rw [List.filter_cons, List.filter_cons]
    by_cases h : x = -1
    · subst h; simp; omega
    · have h1 : (x == -1) = false := by simpa using h
      have h2 : (x != -1) = true := by simpa using h
      rw [h1, h2]; simp; omega
theorem once_nodup {G : List Int} (h : Once G) : (G.filter fun x => x != -1).Nodup := by
  unfold Once at h
  have h2 := h.filter (fun x => x != -1)
  unfold List.Nodup
  rw [List.pairwise_iff_getElem] at h2 ⊢
  intro i j hi hj hij
  rcases h2 i j hi hj hij with e | e
  · have := (List.mem_filter.1 (List.getElem_mem hi)).2
    rw [e] at this; simp at this
  · exact e
/-- Nothing was spilled. -/
structure CleanS (L Pr : List Op8) (S : List Int) (s : AS) : Prop where
  T : s.T = []
  slots : s.slots = 0
  out : s.out.length = Pr.length
  G : ∀ x ∈ s.G, x ≠ -1 → nextF L.length s.pos (lastF L 0 x) < L.length
  sE : S = setsF Pr
  nd : S.Nodup
theorem stepF_clean {L Pr l : List Op8} {o : Op8} {base : Int} {S : List Int} {s : AS} (hR : RunI L Pr base S s) (hL : L = Pr ++ o :: l) (ho : OpIn S o) (h : CleanS L Pr S s) (hp : pressAt L Pr.length o ≤ 8) : CleanS L (Pr ++ [o]) (S ++ regsOf [o.t0, o.t1]) (stepF (lastF L 0) L.length base s o) := by
  obtain ⟨r1, r2⟩ := Tryd.opOk_regs ho.ok
  have hlast : ∀ v, ∀ i ∈ lastF L 0 v, i < (L.length : Int) := fun v i hi => by have := lastF_lt L 0 v i hi; omega
  have hU : ∀ v ∈ regsOf [o.f0, o.f1, o.f2, o.f3], v ∈ s.G := fun v hv => by
    have hn : nextF L.length s.pos (lastF L 0 v) < L.length := by
      refine (nextF_lt (hlast v)).2 ⟨Pr.length, ?_, by rw [hR.pos]; omega⟩
      have hj : Pr.length < L.length := by rw [hL]; simp
      have hat : L[Pr.length] = o := by simp [hL]
      have := lastF_mem L 0 v Pr.length hj (by rw [hat]; exact hv)
      simpa using this
    rcases hR.inv.live v (ho.u v hv) (by have := r1 v hv; omega) hn with e | e
    · exact e
    · rw [h.T] at e; simp at e
  have hfree : (regsOf [o.t0, o.t1]).length ≤ freeN s.G := by
    have hocc := free_occ s.G
    rw [hR.fine.g8] at hocc
    have hsub : ∀ x ∈ (s.G.filter fun x => x != -1), x ∈ (S.filter fun v => readsF L Pr.length v) := fun x hx => by
      obtain ⟨hx1, hx2⟩ := List.mem_filter.1 hx
      have hx3 : x ≠ -1 := by simpa using hx2
      refine List.mem_filter.2 ⟨(hR.inG x hx1).resolve_left hx3, ?_⟩
      rw [readsF_iff]
      have := h.G x hx1 hx3
      rw [hR.pos] at this; exact this
    have hle := nodup_le _ _ (once_nodup hR.fine.gO) hsub
    unfold pressAt at hp
    rw [show L.take Pr.length = Pr from by rw [hL]; simp, ← h.sE] at hp
    omega
  unfold stepF
  simp only
  rw [readF_id _ hU]
  obtain ⟨a, b⟩ := setF_free (nx := fun v => nextF L.length s.pos (lastF L 0 v)) (base := base) (pins := regsOf [o.f0, o.f1, o.f2, o.f3] ++ regsOf [o.t0, o.t1]) (regsOf [o.t0, o.t1]) s [] hfree (fun x hx => by have := r2 x hx; omega)
  refine ⟨?_, ?_, ?_, ?_, ?_, ?_⟩
  · show freeF _ _ (setF _ _ _ _ _ _).1.T = []
    rw [a.T, h.T]; rfl
  · show (setF _ _ _ _ _ _).1.slots = 0
    rw [a.slots, h.slots]
  · show ((setF _ _ _ _ _ _).1.out ++ [_]).length = _
    rw [a.out]; simp [h.out]
  · intro x hx hx1
    have hx' : x ∈ freeF (fun v => nextF L.length ((setF (fun v => nextF L.length s.pos (lastF L 0 v)) base (regsOf [o.f0, o.f1, o.f2, o.f3] ++ regsOf [o.t0, o.t1]) (regsOf [o.t0, o.t1]) s []).1.pos + 1) (lastF L 0 v)) L.length (setF (fun v => nextF L.length s.pos (lastF L 0 v)) base (regsOf [o.f0, o.f1, o.f2, o.f3] ++ regsOf [o.t0, o.t1]) (regsOf [o.t0, o.t1]) s []).1.G := hx
    obtain ⟨y, hy, he⟩ := List.mem_map.1 hx'
    show nextF L.length ((setF _ _ _ _ _ _).1.pos + 1) (lastF L 0 x) < L.length
    split at he
    · exact absurd he.symm hx1
    · rename_i hc
      subst he
      have hle := nextF_le (p := (setF (fun v => nextF L.length s.pos (lastF L 0 v)) base (regsOf [o.f0, o.f1, o.f2, o.f3] ++ regsOf [o.t0, o.t1]) (regsOf [o.t0, o.t1]) s []).1.pos + 1) (hlast y)
      have hne : nextF L.length ((setF (fun v => nextF L.length s.pos (lastF L 0 v)) base (regsOf [o.f0, o.f1, o.f2, o.f3] ++ regsOf [o.t0, o.t1]) (regsOf [o.t0, o.t1]) s []).1.pos + 1) (lastF L 0 y) ≠ L.length := fun e => hc ⟨hx1, e⟩
      omega
  · rw [h.sE]; simp [setsF]
  · refine List.nodup_append.2 ⟨h.nd, ho.n, fun a ha c hc e => ?_⟩
    subst e
    exact ho.w a hc ha
theorem runF_clean {L : List Op8} {base : Int} : ∀ (l Pr : List Op8) (S : List Int) (s : AS), L = Pr ++ l → listV S l = true → RunI L Pr base S s → CleanS L Pr S s → (∀ j (hj : j < l.length), pressAt L (Pr.length + j) l[j] ≤ 8) → (runF (lastF L 0) L.length base l s).e = 0 → (runF (lastF L 0) L.length base l s).out.length = L.length ∧ (runF (lastF L 0) L.length base l s).slots = 0
  | [], Pr, S, s, hL, hv, h, hc, hp, he => by
    simp only [List.append_nil] at hL
    rw [runF, hc.out, hL]
    exact ⟨rfl, hc.slots⟩
  | o :: l, Pr, S, s, hL, hv, h, hc, hp, he => by
    obtain ⟨ho, hv'⟩ := listV_cons hv
    rw [runF] at he ⊢
    by_cases hs : s.e = 0
    · rw [if_pos hs] at he ⊢
      have h0 := hp 0 (by simp)
      refine runF_clean l (Pr ++ [o]) _ _ (by simp [hL]) hv' (h.step hL ho) (stepF_clean h hL ho hc (by simpa using h0)) (fun j hj => ?_) he
      have := hp (j + 1) (by simpa using hj)
      rw [show (Pr ++ [o]).length + j = Pr.length + (j + 1) from by simp; omega]
      simpa using this
    · rw [if_neg hs, runF_stuck l s hs] at he
      exact absurd he hs
/-- Nothing is added. -/
theorem allocF_few {L : List Op8} {base : Int} (h : (allocF L base).2.2 = 0) (hp : pressF L L 0 0 ≤ 8) : (allocF L base).1.length = L.length ∧ (allocF L base).2.1 = 0 := by
  obtain ⟨hv, _, hb1, _, s, S, hs, _, he, hr⟩ := allocF_ok h
  have := runF_clean (L := L) (base := base) L [] [] AS0 rfl hv (runI0 (L := L) (base := base) hb1) ⟨rfl, rfl, rfl, by intro x hx h1; simp [AS0] at hx; exact absurd hx h1, rfl, .nil⟩ (fun j hj => by
    have := pressF_at L L 0 0 j hj
    simp only [List.length_nil]
    omega) (by rw [← hs]; exact he)
  rw [← hs] at this
  rw [hr]
  exact this
end Go.Proofs.YtmkencdkglbpbaaDoor
