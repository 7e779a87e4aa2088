/- alloc: an operation keeps the books fine, in plain terms. -/
import Derived.Test.YtmkencdkglbpbaaDoorAlJ
set_option maxRecDepth 100000
set_option linter.unusedVariables false
namespace Go.Proofs.YtmkencdkglbpbaaDoor
open Go.RowKit Go.Maps

/-- Who is in a register is one of these. -/
def InG (S : List Int) (s : AS) : Prop := ∀ x ∈ s.G, x = -1 ∨ x ∈ S
theorem takeF_G (nx : Int → Int) (base : Int) (pins : List Int) (s : AS) (v : Int) : (takeF nx base pins s v).G = s.G.set (pickF nx pins s).toNat v := by
  unfold takeF; simp only; split
  · rw [spillF_G]
  · rfl
theorem InG.take {S S' : List Int} {s : AS} (h : InG S s) {nx : Int → Int} {base : Int} {pins : List Int} {v : Int} (hs : ∀ x ∈ S, x ∈ S') (hv : v ∈ S') : InG S' (takeF nx base pins s v) := by
  intro x hx
  rw [takeF_G] at hx
  rcases List.mem_or_eq_of_mem_set hx with hx | rfl
  · rcases h x hx with h | h
    · exact .inl h
    · exact .inr (hs x h)
  · exact .inr hv
theorem InG.read {S : List Int} {nx : Int → Int} {base : Int} {pins : List Int} : ∀ (U : List Int) {s : AS}, InG S s → (∀ x ∈ U, x ∈ S) → InG S (readF nx base pins U s)
  | [], s, h, _ => h
  | v :: U, s, h, hU => by
    unfold readF
    split
    · simp only
      refine InG.read U (s := { takeF nx base pins s v with out := _ }) ?_ (fun x hx => hU x (by simp [hx]))
      exact h.take (S' := S) (fun x hx => hx) (hU v (by simp))
    · exact InG.read U h (fun x hx => hU x (by simp [hx]))
theorem setF_fine {nx : Int → Int} {base : Int} {pins : List Int} : ∀ (W : List Int) {S : List Int} {s : AS} (tt : List Int), Fine s → InG S s → (∀ x ∈ W, 0 ≤ x ∧ x ≤ 65535) → W.Nodup → (∀ x ∈ W, x ∉ S) → Fine (setF nx base pins W s tt).1 ∧ InG (S ++ W) (setF nx base pins W s tt).1 ∧ (setF nx base pins W s tt).1.pos = s.pos
  | [], S, s, tt, h, hg, _, _, _ => by simpa [setF] using ⟨h, hg⟩
  | v :: W, S, s, tt, h, hg, hb, hn, hS => by
    unfold setF
    have hv := hS v (by simp)
    have hv0 := hb v (by simp)
    have hng : v ∉ s.G := fun e => by
      rcases hg v e with e | e
      · omega
      · exact hv e
    have h1 := List.nodup_cons.1 hn
    obtain ⟨a, b, d⟩ := setF_fine (nx := nx) (base := base) (pins := pins) W (S := S ++ [v]) (s := takeF nx base pins s v) (tt ++ [pickF nx pins s]) (takeF_fine h ⟨by omega, hv0.2⟩ hng) (hg.take (fun x hx => by simp [hx]) (by simp)) (fun x hx => hb x (by simp [hx])) h1.2 (fun x hx => by
      have := hS x (by simp [hx])
      simp only [List.mem_append, List.mem_singleton, not_or]
      exact ⟨this, fun e => h1.1 (e ▸ hx)⟩)
    refine ⟨a, ?_, by rw [d, takeF_pos]⟩
    simpa using b
theorem setF_to {nx : Int → Int} {base : Int} {pins : List Int} : ∀ (W : List Int) (s : AS) (tt : List Int), (setF nx base pins W s tt).2.length = tt.length + W.length
  | [], s, tt => by simp [setF]
  | v :: W, s, tt => by
    unfold setF
    rw [setF_to W]
    simp; omega
theorem freeF_bd {nx : Int → Int} {n : Int} {L : List Int} (h : ∀ x ∈ L, -1 ≤ x ∧ x ≤ 65535) : ∀ x ∈ freeF nx n L, -1 ≤ x ∧ x ≤ 65535 := by
  intro x hx
  simp only [freeF, List.mem_map] at hx
  obtain ⟨y, hy, rfl⟩ := hx
  split
  · omega
  · exact h y hy
theorem freeF_mem {nx : Int → Int} {n : Int} {L : List Int} {x : Int} (h : x ∈ freeF nx n L) : x = -1 ∨ x ∈ L := by
  simp only [freeF, List.mem_map] at h
  obtain ⟨y, hy, rfl⟩ := h
  split
  · exact .inl rfl
  · exact .inr hy
theorem freeF_once {nx : Int → Int} {n : Int} {L : List Int} (h : Once L) : Once (freeF nx n L) := by
  unfold Once freeF at *
  rw [List.pairwise_map]
  refine h.imp fun {a b} hab => ?_
  split
  · exact .inl rfl
  · rename_i ha
    split
    · exact Classical.em _
    · exact hab
theorem endF_fine {last : Int → List Int} {n : Int} {s : AS} (h : Fine s) : Fine (endF last n s) :=
  ⟨by simp [endF, freeF, h.g8], freeF_once h.gO, freeF_once h.tO, freeF_bd h.gb, freeF_bd h.tb⟩
theorem InG.fin {S : List Int} {last : Int → List Int} {n : Int} {s : AS} (h : InG S s) : InG S (endF last n s) := fun x hx => by
  rcases freeF_mem hx with e | e
  · exact .inl e
  · exact h x e
/-- What comes in with an operation. -/
structure OpIn (S : List Int) (o : Op8) : Prop where
  ok : rightV o.K o.t0 o.t1 o.f0 o.f1 o.f2 o.f3 o.N = true
  u : ∀ x ∈ regsOf [o.f0, o.f1, o.f2, o.f3], x ∈ S
  w : ∀ x ∈ regsOf [o.t0, o.t1], x ∉ S
  n : (regsOf [o.t0, o.t1]).Nodup
theorem setsV_some : ∀ (W S S' : List Int), setsV S W = some S' → S' = S ++ W ∧ W.Nodup ∧ ∀ x ∈ W, x ∉ S
  | [], S, S', h => by simp [setsV] at h; simp [h]
  | t :: W, S, S', h => by
    unfold setsV at h
    split at h
    · exact absurd h (by simp)
    · rename_i hc
      have hc' : t ∉ S := fun e => hc (List.contains_iff_mem.2 e)
      obtain ⟨a, b, d⟩ := setsV_some W (S ++ [t]) S' h
      refine ⟨by simp [a], ?_, ?_⟩
      · refine List.nodup_cons.2 ⟨fun e => ?_, b⟩
        have := d t e
        simp at this
      · intro x hx
        rcases List.mem_cons.1 hx with rfl | hx
        · exact hc'
        · have := d x hx
          simp only [List.mem_append, not_or] at this
          exact this.1
theorem listV_cons {S : List Int} {o : Op8} {l : List Op8} (h : listV S (o :: l) = true) : OpIn S o ∧ listV (S ++ regsOf [o.t0, o.t1]) l = true := by
  unfold listV at h
  simp only [Bool.and_eq_true] at h
  obtain ⟨h1, h2, h3⟩ := h
  rcases hs : setsV S (regsOf [o.t0, o.t1]) with _ | S'
  · rw [hs] at h3; exact absurd h3 (by simp)
  · rw [hs] at h3
    obtain ⟨rfl, a, b⟩ := setsV_some _ _ _ hs
    refine ⟨⟨h1, fun x hx => ?_, b, a⟩, h3⟩
    have := List.all_eq_true.1 h2 x hx
    exact List.contains_iff_mem.1 this
theorem stepF_fine {last : Int → List Int} {n base : Int} {S : List Int} {s : AS} {o : Op8} (h : Fine s) (hg : InG S s) (ho : OpIn S o) : Fine (stepF last n base s o) ∧ InG (S ++ regsOf [o.t0, o.t1]) (stepF last n base s o) ∧ (stepF last n base s o).pos = s.pos + 1 := by
  obtain ⟨r1, r2⟩ := Tryd.opOk_regs ho.ok
  unfold stepF
  simp only
  have f1 := readF_fine (nx := fun v => nextF n s.pos (last v)) (base := base) (pins := regsOf [o.f0, o.f1, o.f2, o.f3]) _ h r1
  have g1 := InG.read (nx := fun v => nextF n s.pos (last v)) (base := base) (pins := regsOf [o.f0, o.f1, o.f2, o.f3]) _ hg ho.u
  obtain ⟨f2, g2, p2⟩ := setF_fine (nx := fun v => nextF n s.pos (last v)) (base := base) (pins := regsOf [o.f0, o.f1, o.f2, o.f3] ++ regsOf [o.t0, o.t1]) (regsOf [o.t0, o.t1]) [] f1 g1 r2 ho.n ho.w
  refine ⟨endF_fine ⟨f2.g8, f2.gO, f2.tO, f2.gb, f2.tb⟩, InG.fin (s := { (setF _ base _ (regsOf [o.t0, o.t1]) _ []).1 with out := _ }) g2, ?_⟩
  show (setF _ _ _ _ _ _).1.pos + 1 = _
  rw [p2, readF_pos]
end Go.Proofs.YtmkencdkglbpbaaDoor
