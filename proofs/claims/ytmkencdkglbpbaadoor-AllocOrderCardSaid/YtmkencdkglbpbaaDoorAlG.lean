/- alloc: the books stay fine, in plain terms. -/
import Derived.Test.YtmkencdkglbpbaaDoorAlF
set_option maxRecDepth 100000
namespace Go.Proofs.YtmkencdkglbpbaaDoor
open Go.RowKit Go.Maps

structure Fine (s : AS) : Prop where
  g8 : s.G.length = 8
  gO : Once s.G
  tO : Once s.T
  gb : ∀ x ∈ s.G, -1 ≤ x ∧ x ≤ 65535
  tb : ∀ x ∈ s.T, -1 ≤ x ∧ x ≤ 65535

theorem Once.set {L : List Int} (h : Once L) (i : Nat) (v : Int) (hv : v = -1 ∨ v ∉ L) : Once (L.set i v) := by
  unfold Once at h ⊢
  rw [List.pairwise_iff_getElem] at h ⊢
  intro a b ha hb hab
  have ha' : a < L.length := by simpa using ha
  have hb' : b < L.length := by simpa using hb
  rw [List.getElem_set, List.getElem_set]
  split <;> split
  · omega
  · rcases hv with hv | hv
    · exact .inl hv
    · exact .inr (fun e => hv (e ▸ List.getElem_mem hb'))
  · rcases hv with hv | hv
    · rcases Classical.em (L[a] = -1) with h1 | h1
      · exact .inl h1
      · exact .inr (fun e => h1 (e.trans hv))
    · exact .inr (fun e => hv (e ▸ List.getElem_mem ha'))
  · exact h a b ha' hb' hab
theorem Once.grow {L : List Int} (h : Once L) : Once (L ++ [-1]) := by
  unfold Once at h ⊢
  rw [List.pairwise_append]
  refine ⟨h, by simp, fun a ha b hb => ?_⟩
  simp only [List.mem_singleton] at hb
  subst hb
  exact Classical.em _

theorem mem_set_bd {L : List Int} {i : Nat} {v : Int} (h : ∀ x ∈ L, -1 ≤ x ∧ x ≤ 65535) (hv : -1 ≤ v ∧ v ≤ 65535) : ∀ x ∈ L.set i v, -1 ≤ x ∧ x ≤ 65535 := by
  intro x hx
  rcases List.mem_or_eq_of_mem_set hx with hx | rfl
  · exact h x hx
  · exact hv

theorem spillF_G (base : Int) (s : AS) (v : Int) : (spillF base s v).G = s.G := by
  unfold spillF; split <;> rfl
theorem spillF_pos (base : Int) (s : AS) (v : Int) : (spillF base s v).pos = s.pos := by
  unfold spillF; split <;> rfl
theorem spillF_fine {base : Int} {s : AS} {v : Int} (h : Fine s) (hv : -1 ≤ v ∧ v ≤ 65535) : Fine (spillF base s v) := by
  unfold spillF
  split
  · exact h
  · rename_i hc
    have hm : v ∉ s.T := fun e => hc (List.contains_iff_mem.2 e)
    refine ⟨h.g8, h.gO, ?_, h.gb, ?_⟩
    · show Once (List.set _ _ _)
      split
      · refine h.tO.grow.set _ v ?_
        rcases Classical.em (v = -1) with e | e
        · exact .inl e
        · exact .inr (by simp [hm, e])
      · exact h.tO.set _ v (.inr hm)
    · show ∀ x ∈ List.set _ _ _, _
      refine mem_set_bd ?_ hv
      split
      · intro x hx
        rcases List.mem_append.1 hx with hx | hx
        · exact h.tb x hx
        · simp at hx; omega
      · exact h.tb
theorem takeF_fine {nx : Int → Int} {base : Int} {pins : List Int} {s : AS} {v : Int} (h : Fine s) (hv : -1 ≤ v ∧ v ≤ 65535) (hn : v ∉ s.G) : Fine (takeF nx base pins s v) := by
  unfold takeF
  have hs : ∀ s1 : AS, s1.G = s.G → Fine s1 → Fine { s1 with G := s1.G.set (pickF nx pins s).toNat v } := fun s1 e h1 =>
    ⟨by simp [h1.g8], h1.gO.set _ v (.inr (e ▸ hn)), h1.tO, mem_set_bd h1.gb hv, h1.tb⟩
  simp only
  split
  · refine hs _ (spillF_G _ _ _) (spillF_fine h ?_)
    rw [List.getD_eq_getElem?_getD]
    rcases hg : s.G[(pickF nx pins s).toNat]? with _ | x
    · simp
    · exact h.gb x (List.mem_of_getElem? hg)
  · exact hs _ rfl h
theorem takeF_pos (nx : Int → Int) (base : Int) (pins : List Int) (s : AS) (v : Int) : (takeF nx base pins s v).pos = s.pos := by
  unfold takeF; simp only; split
  · exact spillF_pos _ _ _
  · rfl

theorem nodup_le : ∀ (A B : List Int), A.Nodup → (∀ x ∈ A, x ∈ B) → A.length ≤ B.length
  | [], B, _, _ => Nat.zero_le _
  | a :: A, B, hn, hs => by
    have h1 := List.nodup_cons.1 hn
    have := nodup_le A (B.erase a) h1.2 (fun x hx => (List.mem_erase_of_ne (fun e : x = a => by subst e; exact h1.1 hx)).2 (hs x (by simp [hx])))
    have hl := List.length_erase_of_mem (hs a (by simp))
    have hp : 0 < B.length := List.length_pos_of_mem (hs a (by simp))
    simp only [List.length_cons]
    omega
theorem victimF_lt (nx : Int → Int) (pins G : List Int) : ∀ (L : List Int) (r : Nat) (best : Int), best < r → victimF nx pins G L r best < r + L.length
  | [], r, best, h => by simpa [victimF] using h
  | v :: L, r, best, h => by
    have i1 := victimF_lt nx pins G L (r + 1) best (by omega)
    have i2 := victimF_lt nx pins G L (r + 1) r (by omega)
    unfold victimF
    simp only [List.length_cons]
    push_cast at i1 i2 ⊢
    split
    · omega
    · split <;> omega
theorem victimF_ge (nx : Int → Int) (pins G : List Int) : ∀ (L : List Int) (r : Nat) (best : Int), -1 ≤ best → -1 ≤ victimF nx pins G L r best ∧ (0 ≤ best ∨ (∃ x ∈ L, x ∉ pins) → 0 ≤ victimF nx pins G L r best)
  | [], r, best, h => by
    unfold victimF
    refine ⟨h, fun h => ?_⟩
    rcases h with h | ⟨x, hx, _⟩
    · exact h
    · simp at hx
  | v :: L, r, best, h => by
    have i1 := victimF_ge nx pins G L (r + 1) best h
    have i2 := victimF_ge nx pins G L (r + 1) r (by omega)
    unfold victimF
    split
    · rename_i hc
      refine ⟨i1.1, fun h => i1.2 ?_⟩
      rcases h with h | ⟨x, hx, hn⟩
      · exact .inl h
      · rcases List.mem_cons.1 hx with rfl | hx
        · exact absurd (List.contains_iff_mem.1 hc) hn
        · exact .inr ⟨x, hx, hn⟩
    · split
      · exact ⟨i2.1, fun _ => i2.2 (.inl (by omega))⟩
      · rename_i hb
        exact ⟨i1.1, fun _ => i1.2 (.inl (by omega))⟩
/-- One is found. -/
theorem pick_ok {nx : Int → Int} {pins : List Int} {s : AS} (h : Fine s) (hp : pins.length ≤ 6) : 0 ≤ pickF nx pins s ∧ pickF nx pins s < 8 := by
  unfold pickF
  split
  · rename_i hf
    have hm : (-1 : Int) ∉ s.G := fun e => by have := (idxV_mem s.G (-1) 0).2 e; omega
    have hlt := victimF_lt nx pins s.G s.G 0 (-1) (by omega)
    rw [h.g8] at hlt
    refine ⟨(victimF_ge nx pins s.G s.G 0 (-1) (by omega)).2 (.inr ?_), by omega⟩
    refine Classical.byContradiction fun hno => ?_
    have hall : ∀ x ∈ s.G, x ∈ pins := fun x hx => Classical.byContradiction fun hn => hno ⟨x, hx, hn⟩
    have hnd : s.G.Nodup := by
      have hO := h.gO
      unfold Once at hO
      unfold List.Nodup
      rw [List.pairwise_iff_getElem] at hO ⊢
      intro i j hi hj hij
      rcases hO i j hi hj hij with e | e
      · exact absurd (e ▸ List.getElem_mem hi) hm
      · exact e
    have := nodup_le _ _ hnd hall
    rw [h.g8] at this
    omega
  · have := idxV_bd s.G (-1) 0
    rw [h.g8] at this
    omega
end Go.Proofs.YtmkencdkglbpbaaDoor
