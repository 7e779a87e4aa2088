/- alloc: the order of what is put out, in plain terms. -/
import Derived.Test.YtmkencdkglbpbaaDoorAlL
set_option maxRecDepth 100000
set_option linter.unusedVariables false
namespace Go.Proofs.YtmkencdkglbpbaaDoor
open Go.RowKit Go.Maps

/-- An operation that is added: a slot's. -/
def SlotOp (base slots : Int) (o : Op8) : Prop := (o.K = 2 ∨ o.K = 3) ∧ ∃ t : Int, 0 ≤ t ∧ t < slots ∧ o.N = base + 4 * t
theorem SlotOp.mono {base a b : Int} {o : Op8} (h : SlotOp base a o) (hab : a ≤ b) : SlotOp base b o := by
  obtain ⟨k, t, h0, h1, h2⟩ := h
  exact ⟨k, t, h0, by omega, h2⟩
/-- One of the list's, over registers. -/
def Like (o l : Op8) : Prop := o.K = l.K ∧ o.N = l.N ∧ (regsOf [o.f0, o.f1, o.f2, o.f3]).length = (regsOf [l.f0, l.f1, l.f2, l.f3]).length
inductive Weave (P : Op8 → Prop) : List Op8 → List Op8 → Prop
  | nil : Weave P [] []
  | slot {A L : List Op8} {o : Op8} : P o → Weave P A L → Weave P (A ++ [o]) L
  | op {A L : List Op8} {o l : Op8} : Like o l → Weave P A L → Weave P (A ++ [o]) (L ++ [l])
theorem Weave.mono {P Q : Op8 → Prop} (h : ∀ o, P o → Q o) {A L : List Op8} (hw : Weave P A L) : Weave Q A L := by
  induction hw with
  | nil => exact .nil
  | slot hp _ ih => exact .slot (h _ hp) ih
  | op hl _ ih => exact .op hl ih

theorem slotOf_ge (s : AS) : 0 ≤ slotOf s := by
  unfold slotOf; split <;> omega
theorem slotOf_lt (s : AS) : (slotOf s).toNat < (if idxV s.T (-1) 0 < 0 then s.T ++ [-1] else s.T).length := by
  unfold slotOf
  have := idxV_bd s.T (-1) 0
  split
  · simp
  · omega
theorem slotOf_at (s : AS) : (if idxV s.T (-1) 0 < 0 then s.T ++ [-1] else s.T)[(slotOf s).toNat]'(slotOf_lt s) = -1 := by
  have hb := idxV_bd s.T (-1) 0
  by_cases h : idxV s.T (-1) 0 < 0
  · have e1 : (slotOf s).toNat = s.T.length := by unfold slotOf; rw [if_pos h]; simp
    have : (if idxV s.T (-1) 0 < 0 then s.T ++ [-1] else s.T)[(slotOf s).toNat]? = some (-1) := by
      rw [if_pos h, e1]; simp
    rw [List.getElem?_eq_getElem (slotOf_lt s)] at this
    injection this
  · have e1 : slotOf s = idxV s.T (-1) 0 := by unfold slotOf; rw [if_neg h]
    have hl : (slotOf s).toNat < s.T.length := by omega
    have : (if idxV s.T (-1) 0 < 0 then s.T ++ [-1] else s.T)[(slotOf s).toNat]? = some (-1) := by
      rw [if_neg h, List.getElem?_eq_getElem hl, idxV_at s.T (-1) 0 _ hl (by omega)]
    rw [List.getElem?_eq_getElem (slotOf_lt s)] at this
    injection this
theorem mem_set_other {L : List Int} {i : Nat} (hi : i < L.length) {v x : Int} (hx : x ∈ L) (h : x ≠ L[i]) : x ∈ L.set i v := by
  obtain ⟨j, hj, rfl⟩ := List.getElem_of_mem hx
  have hji : i ≠ j := fun e => by subst e; exact h rfl
  exact List.mem_iff_getElem.2 ⟨j, by simpa using hj, by rw [List.getElem_set_ne hji]⟩
theorem spillF_T {base : Int} {s : AS} {v x : Int} (hx : x ∈ s.T) (h : x ≠ -1) : x ∈ (spillF base s v).T := by
  unfold spillF
  split
  · exact hx
  · show x ∈ List.set _ _ _
    refine mem_set_other (slotOf_lt s) ?_ (by rw [slotOf_at]; exact h)
    split
    · simp [hx]
    · exact hx
theorem spillF_v (base : Int) (s : AS) (v : Int) : v ∈ (spillF base s v).T := by
  unfold spillF
  split
  · rename_i h; exact List.contains_iff_mem.1 h
  · exact List.mem_set (slotOf_lt s) v
theorem spillF_slots (base : Int) (s : AS) (v : Int) : s.slots ≤ (spillF base s v).slots := by
  unfold spillF
  split
  · exact Int.le_refl _
  · show s.slots ≤ max _ _; omega
theorem spillF_len {base : Int} {s : AS} {v : Int} (h : (s.T.length : Int) ≤ s.slots) : ((spillF base s v).T.length : Int) ≤ (spillF base s v).slots := by
  unfold spillF
  split
  · exact h
  · show ((List.set _ _ _).length : Int) ≤ max _ _
    rw [List.length_set]
    have := slotOf_ge s
    by_cases hc : idxV s.T (-1) 0 < 0
    · have e1 : slotOf s = s.T.length := by unfold slotOf; rw [if_pos hc]
      rw [if_pos hc, e1]; simp; omega
    · rw [if_neg hc]; omega
theorem spillF_low {base : Int} {s : AS} {v : Int} (h : s.e = 0 → base + 4 * s.slots ≤ 1024) : (spillF base s v).e = 0 → base + 4 * (spillF base s v).slots ≤ 1024 := by
  unfold spillF
  split
  · exact h
  · show (if base + 4 * slotOf s > 1020 then (160 : Int) else s.e) = 0 → base + 4 * max _ _ ≤ 1024
    intro he
    split at he
    · omega
    · have := h he
      omega
theorem spillF_wv {base : Int} {s : AS} {v : Int} {L : List Op8} (h : Weave (SlotOp base s.slots) s.out L) : Weave (SlotOp base (spillF base s v).slots) (spillF base s v).out L := by
  have hm := h.mono (fun o ho => ho.mono (spillF_slots base s v))
  have hge := slotOf_ge s
  unfold spillF at hm ⊢
  split
  · rename_i hc; rw [if_pos hc] at hm; exact hm
  · rename_i hc
    rw [if_neg hc] at hm
    refine .slot ⟨.inr rfl, slotOf s, hge, ?_, rfl⟩ hm
    show slotOf s < max _ _
    omega

/-- What holds of the books between two operations. -/
structure InvO (last : Int → List Int) (n base : Int) (S : List Int) (L : List Op8) (s : AS) : Prop where
  tn : (s.T.length : Int) ≤ s.slots
  low : s.e = 0 → base + 4 * s.slots ≤ 1024
  wv : Weave (SlotOp base s.slots) s.out L
  live : ∀ v ∈ S, v ≠ -1 → nextF n s.pos (last v) < n → v ∈ s.G ∨ v ∈ s.T

theorem victimF_at (nx : Int → Int) (pins G : List Int) : ∀ (L : List Int) (r : Nat) (best : Int), victimF nx pins G L r best = best ∨ ∃ i, ∃ h : i < L.length, L[i] ∉ pins ∧ victimF nx pins G L r best = ((r + i : Nat) : Int)
  | [], r, best => .inl rfl
  | v :: L, r, best => by
    unfold victimF
    split
    · rcases victimF_at nx pins G L (r + 1) best with h | ⟨i, hi, h1, h2⟩
      · exact .inl h
      · exact .inr ⟨i + 1, by simpa using hi, by simpa using h1, by rw [h2]; congr 1; omega⟩
    · rename_i hc
      split
      · rcases victimF_at nx pins G L (r + 1) r with h | ⟨i, hi, h1, h2⟩
        · exact .inr ⟨0, by simp, by simpa using hc, by rw [h]; simp⟩
        · exact .inr ⟨i + 1, by simpa using hi, by simpa using h1, by rw [h2]; congr 1; omega⟩
      · rcases victimF_at nx pins G L (r + 1) best with h | ⟨i, hi, h1, h2⟩
        · exact .inl h
        · exact .inr ⟨i + 1, by simpa using hi, by simpa using h1, by rw [h2]; congr 1; omega⟩
/-- Who has to give way is pinned by nothing. -/
theorem pick_at {nx : Int → Int} {pins : List Int} {s : AS} (h : Fine s) (hp : pins.length ≤ 6) : ∃ hr : (pickF nx pins s).toNat < s.G.length, (idxV s.G (-1) 0 < 0 ∧ s.G[(pickF nx pins s).toNat] ∉ pins) ∨ (¬idxV s.G (-1) 0 < 0 ∧ s.G[(pickF nx pins s).toNat] = -1) := by
  have hk := pick_ok (nx := nx) h hp
  have hl : (pickF nx pins s).toNat < s.G.length := by rw [h.g8]; omega
  refine ⟨hl, ?_⟩
  by_cases hf : idxV s.G (-1) 0 < 0
  · refine .inl ⟨hf, ?_⟩
    have e : pickF nx pins s = victimF nx pins s.G s.G 0 (-1) := by unfold pickF; rw [if_pos hf]
    rcases victimF_at nx pins s.G s.G 0 (-1) with h1 | ⟨i, hi, h1, h2⟩
    · omega
    · have : (pickF nx pins s).toNat = i := by omega
      simp only [this]; exact h1
  · refine .inr ⟨hf, ?_⟩
    have e : pickF nx pins s = idxV s.G (-1) 0 := by unfold pickF; rw [if_neg hf]
    exact idxV_at s.G (-1) 0 _ hl (by rw [← e]; omega)

section
variable {nx : Int → Int} {base : Int} {pins : List Int} {s : AS} {v : Int}
theorem takeF_T {x : Int} (hx : x ∈ s.T) (h : x ≠ -1) : x ∈ (takeF nx base pins s v).T := by
  unfold takeF; simp only; split
  · exact spillF_T hx h
  · exact hx
theorem takeF_v (h : Fine s) (hp : pins.length ≤ 6) : v ∈ (takeF nx base pins s v).G := by
  rw [takeF_G]
  exact List.mem_set (pick_at h hp).1 v
theorem takeF_keeps (h : Fine s) (hp : pins.length ≤ 6) {x : Int} (hx : x ≠ -1) (hm : x ∈ s.G ∨ x ∈ s.T) : x ∈ (takeF nx base pins s v).G ∨ x ∈ (takeF nx base pins s v).T := by
  rcases hm with hm | hm
  · obtain ⟨hr, hc⟩ := pick_at (nx := nx) h hp
    by_cases he : x = s.G[(pickF nx pins s).toNat]
    · rcases hc with ⟨h1, _⟩ | ⟨_, h2⟩
      · refine .inr ?_
        unfold takeF
        simp only [if_pos h1]
        rw [List.getD_eq_getElem?_getD, List.getElem?_eq_getElem hr, Option.getD_some, ← he]
        exact spillF_v _ _ _
      · exact absurd (he.trans h2) hx
    · refine .inl ?_
      rw [takeF_G]
      exact mem_set_other hr hm he
  · exact .inr (takeF_T hm hx)
theorem takeF_pin (h : Fine s) (hp : pins.length ≤ 6) {x : Int} (hx : x ≠ -1) (hpx : x ∈ pins) (hm : x ∈ s.G) : x ∈ (takeF nx base pins s v).G := by
  obtain ⟨hr, hc⟩ := pick_at (nx := nx) h hp
  rw [takeF_G]
  refine mem_set_other hr hm (fun e => ?_)
  rcases hc with ⟨_, h1⟩ | ⟨_, h2⟩
  · exact h1 (e ▸ hpx)
  · exact hx (e.trans h2)
theorem takeF_slots : s.slots ≤ (takeF nx base pins s v).slots := by
  unfold takeF; simp only; split
  · exact spillF_slots _ _ _
  · exact Int.le_refl _
theorem takeF_inv {last : Int → List Int} {n : Int} {S S' : List Int} {L : List Op8} (hf : Fine s) (hp : pins.length ≤ 6) (h : InvO last n base S L s) (hS : ∀ x ∈ S', x ∈ S ∨ x = v) : InvO last n base S' L (takeF nx base pins s v) := by
  have hl : ∀ x ∈ S', x ≠ -1 → nextF n s.pos (last x) < n → x ∈ (takeF nx base pins s v).G ∨ x ∈ (takeF nx base pins s v).T := by
    intro x hx hx1 hn
    rcases hS x hx with h1 | rfl
    · exact takeF_keeps hf hp hx1 (h.live x h1 hx1 hn)
    · exact .inl (takeF_v hf hp)
  refine ⟨?_, ?_, ?_, ?_⟩
  · unfold takeF; simp only; split
    · exact spillF_len h.tn
    · exact h.tn
  · unfold takeF; simp only; split
    · exact spillF_low h.low
    · exact h.low
  · unfold takeF; simp only; split
    · exact spillF_wv h.wv
    · exact h.wv
  · rw [takeF_pos]; exact hl
end

theorem readF_inv {nx : Int → Int} {base : Int} {pins : List Int} {last : Int → List Int} {n : Int} {S : List Int} {L : List Op8} (hp : pins.length ≤ 6) : ∀ (U : List Int) {s : AS}, Fine s → InvO last n base S L s → (∀ v ∈ U, v ∈ S ∧ v ∈ pins ∧ nextF n s.pos (last v) < n ∧ 0 ≤ v ∧ v ≤ 65535) →
    InvO last n base S L (readF nx base pins U s) ∧ (∀ v ∈ U, v ∈ (readF nx base pins U s).G) ∧ ∀ v, v ∈ pins → v ≠ -1 → v ∈ s.G → v ∈ (readF nx base pins U s).G
  | [], s, hf, h, _ => ⟨h, by simp, fun _ _ _ h => h⟩
  | v :: U, s, hf, h, hU => by
    obtain ⟨a1, a2, a3, a4, a5⟩ := hU v (by simp)
    unfold readF
    split
    · rename_i hJ
      have hm : v ∉ s.G := fun e => by have := (idxV_mem s.G v 0).2 e; omega
      have hT : v ∈ s.T := (h.live v a1 (by omega) a3).resolve_left hm
      have f1 := takeF_fine (nx := nx) (base := base) (pins := pins) hf ⟨by omega, a5⟩ hm
      have i1 := takeF_inv (nx := nx) (v := v) (S' := S) hf hp h (fun x hx => .inl hx)
      have hT1 := takeF_T (nx := nx) (base := base) (pins := pins) (v := v) hT (by omega)
      have hp1 := takeF_pos nx base pins s v
      have hv1 := takeF_v (nx := nx) (base := base) (v := v) hf hp
      have hk1 : ∀ x, x ∈ pins → x ≠ -1 → x ∈ s.G → x ∈ (takeF nx base pins s v).G := fun x h1 h2 h3 => takeF_pin hf hp h2 h1 h3
      generalize takeF nx base pins s v = s1 at f1 i1 hT1 hp1 hv1 hk1 ⊢
      have hi := (idxV_mem s1.T v 0).2 hT1
      have hb := idxV_bd s1.T v 0
      simp only
      obtain ⟨x1, x2, x3⟩ := readF_inv (nx := nx) (last := last) (n := n) (S := S) (L := L) hp U (s := { s1 with out := s1.out ++ [⟨2, pickF nx pins s, -1, -1, -1, -1, -1, base + 4 * max (idxV s1.T v 0) 0⟩] }) ⟨f1.g8, f1.gO, f1.tO, f1.gb, f1.tb⟩
        ⟨i1.tn, i1.low, .slot ⟨.inl rfl, idxV s1.T v 0, hi, by have := i1.tn; show idxV s1.T v 0 < s1.slots; omega, by rw [Int.max_eq_left hi]⟩ i1.wv, i1.live⟩
        (fun x hx => by obtain ⟨b1, b2, b3, b4, b5⟩ := hU x (by simp [hx]); exact ⟨b1, b2, by rw [show ({ s1 with out := s1.out ++ [⟨2, pickF nx pins s, -1, -1, -1, -1, -1, base + 4 * max (idxV s1.T v 0) 0⟩] } : AS).pos = s.pos from hp1]; exact b3, b4, b5⟩)
      refine ⟨x1, fun x hx => ?_, fun x h1 h2 h3 => x3 x h1 h2 (hk1 x h1 h2 h3)⟩
      rcases List.mem_cons.1 hx with rfl | hx
      · exact x3 x a2 (by omega) hv1
      · exact x2 x hx
    · rename_i hJ
      obtain ⟨x1, x2, x3⟩ := readF_inv (nx := nx) (last := last) (n := n) (S := S) (L := L) hp U hf h (fun x hx => hU x (by simp [hx]))
      refine ⟨x1, fun x hx => ?_, x3⟩
      rcases List.mem_cons.1 hx with rfl | hx
      · exact x3 x a2 (by omega) ((idxV_mem s.G x 0).1 (by omega))
      · exact x2 x hx
theorem setF_inv {nx : Int → Int} {base : Int} {pins : List Int} {last : Int → List Int} {n : Int} {L : List Op8} (hp : pins.length ≤ 6) : ∀ (W : List Int) {S Q : List Int} {s : AS} (tt : List Int), Fine s → InG S s → (∀ x ∈ W, 0 ≤ x ∧ x ≤ 65535) → W.Nodup → (∀ x ∈ W, x ∉ S) → InvO last n base S L s → InvO last n base (S ++ W) L (setF nx base pins W s tt).1
  | [], S, Q, s, tt, hf, hg, _, _, _, h => by simpa [setF] using h
  | v :: W, S, Q, s, tt, hf, hg, hb, hn, hS, h => by
    unfold setF
    have hv := hS v (by simp)
    have hv0 := hb v (by simp)
    have hng : v ∉ s.G := fun e => by
      rcases hg v e with e | e
      · omega
      · exact hv e
    have h1 := List.nodup_cons.1 hn
    have := setF_inv (nx := nx) (last := last) (n := n) (L := L) hp W (S := S ++ [v]) (Q := Q) (s := takeF nx base pins s v) (tt ++ [pickF nx pins s]) (takeF_fine hf ⟨by omega, hv0.2⟩ hng) (hg.take (fun x hx => by simp [hx]) (by simp)) (fun x hx => hb x (by simp [hx])) h1.2 (fun x hx => by
      have := hS x (by simp [hx])
      simp only [List.mem_append, List.mem_singleton, not_or]
      exact ⟨this, fun e => h1.1 (e ▸ hx)⟩) (takeF_inv hf hp h (fun x hx => by simpa using hx))
    simpa using this
theorem nextF_lt {n p : Int} : ∀ {l : List Int}, (∀ i ∈ l, i < n) → (nextF n p l < n ↔ ∃ i ∈ l, p ≤ i)
  | [], _ => by simp [nextF]
  | i :: l, h => by
    unfold nextF
    split
    · rename_i hi
      exact ⟨fun _ => ⟨i, by simp, hi⟩, fun _ => h i (by simp)⟩
    · rename_i hi
      rw [nextF_lt (fun x hx => h x (by simp [hx]))]
      constructor
      · rintro ⟨x, hx, hp⟩; exact ⟨x, by simp [hx], hp⟩
      · rintro ⟨x, hx, hp⟩
        rcases List.mem_cons.1 hx with rfl | hx
        · exact absurd hp hi
        · exact ⟨x, hx, hp⟩
theorem nextF_le {n p : Int} {l : List Int} (h : ∀ i ∈ l, i < n) : nextF n p l ≤ n := by
  rcases nextF_bd n p l with e | e
  · omega
  · have := h _ e; omega
theorem freeF_keep {nx : Int → Int} {n : Int} {L : List Int} {x : Int} (hx : x ∈ L) (h : nx x ≠ n) : x ∈ freeF nx n L := by
  unfold freeF
  refine List.mem_map.2 ⟨x, hx, ?_⟩
  rw [if_neg (fun e => h e.2)]
theorem endF_inv {last : Int → List Int} {n base : Int} {S : List Int} {L : List Op8} {s : AS} (hlast : ∀ v, ∀ i ∈ last v, i < n) (h : InvO last n base S L s) : InvO last n base S L (endF last n s) := by
  refine ⟨?_, h.low, h.wv, fun v hv hv1 hn => ?_⟩
  · show ((freeF _ _ _).length : Int) ≤ s.slots
    rw [freeF, List.length_map]; exact h.tn
  · have hn' : nextF n (s.pos + 1) (last v) < n := hn
    obtain ⟨i, hi, hp⟩ := (nextF_lt (hlast v)).1 hn'
    rcases h.live v hv hv1 ((nextF_lt (hlast v)).2 ⟨i, hi, by omega⟩) with e | e
    · exact .inl (freeF_keep e (by show nextF n (s.pos + 1) (last v) ≠ n; omega))
    · exact .inr (freeF_keep e (by show nextF n (s.pos + 1) (last v) ≠ n; omega))
theorem regsOf_pad {F : List Int} (h : F.length ≤ 4) (h0 : ∀ x ∈ F, x ≠ -1) : regsOf [padV F 0, padV F 1, padV F 2, padV F 3] = F := by
  match F, h with
  | [], _ => rfl
  | [a], _ => simp [padV, regsOf, h0 a]
  | [a, b], _ => simp [padV, regsOf, h0 a, h0 b]
  | [a, b, d], _ => simp [padV, regsOf, h0 a, h0 b, h0 d]
  | [a, b, d, e], _ => simp [padV, regsOf, h0 a, h0 b, h0 d, h0 e]
theorem regsOf_le4 (a b d e : Int) : (regsOf [a, b, d, e]).length ≤ 4 := by
  have := List.length_filter_le (fun x : Int => x != -1) [a, b, d, e]; simpa using this
theorem regsOf_le2 (a b : Int) : (regsOf [a, b]).length ≤ 2 := by
  have := List.length_filter_le (fun x : Int => x != -1) [a, b]; simpa using this
theorem stepF_inv {last : Int → List Int} {n base : Int} {S : List Int} {L : List Op8} {s : AS} {o : Op8} (hlast : ∀ v, ∀ i ∈ last v, i < n) (hf : Fine s) (hg : InG S s) (ho : OpIn S o) (h : InvO last n base S L s) (hnow : ∀ v ∈ regsOf [o.f0, o.f1, o.f2, o.f3], nextF n s.pos (last v) < n) :
    InvO last n base (S ++ regsOf [o.t0, o.t1]) (L ++ [o]) (stepF last n base s o) := by
  obtain ⟨r1, r2⟩ := Tryd.opOk_regs ho.ok
  have l4 := regsOf_le4 o.f0 o.f1 o.f2 o.f3
  have l2 := regsOf_le2 o.t0 o.t1
  unfold stepF
  simp only
  have f1 := readF_fine (nx := fun v => nextF n s.pos (last v)) (base := base) (pins := regsOf [o.f0, o.f1, o.f2, o.f3]) _ hf r1
  have g1 := InG.read (nx := fun v => nextF n s.pos (last v)) (base := base) (pins := regsOf [o.f0, o.f1, o.f2, o.f3]) _ hg ho.u
  obtain ⟨i1, m1, _⟩ := readF_inv (nx := fun v => nextF n s.pos (last v)) (pins := regsOf [o.f0, o.f1, o.f2, o.f3]) (by omega) _ hf h (fun v hv => ⟨ho.u v hv, hv, hnow v hv, r1 v hv⟩)
  have i2 := setF_inv (nx := fun v => nextF n s.pos (last v)) (pins := regsOf [o.f0, o.f1, o.f2, o.f3] ++ regsOf [o.t0, o.t1]) (by simp; omega) (regsOf [o.t0, o.t1]) (Q := []) [] f1 g1 r2 ho.n ho.w i1
  refine endF_inv hlast ⟨i2.tn, i2.low, .op ⟨rfl, rfl, ?_⟩ i2.wv, i2.live⟩
  rw [regsOf_pad (by rw [List.length_map]; exact l4), List.length_map]
  intro x hx
  obtain ⟨v, hv, rfl⟩ := List.mem_map.1 hx
  have := (idxV_mem _ v 0).2 (m1 v hv)
  omega


theorem lastF_lt : ∀ (l : List Op8) (k : Nat) (v i : Int), i ∈ lastF l k v → (k : Int) ≤ i ∧ i < k + l.length
  | [], k, v, i, h => by simp [lastF] at h
  | o :: l, k, v, i, h => by
    unfold lastF at h
    rcases List.mem_append.1 h with h | h
    · obtain ⟨_, _, rfl⟩ := List.mem_map.1 h
      simp only [List.length_cons]; omega
    · have := lastF_lt l (k + 1) v i h
      simp only [List.length_cons]; omega
theorem lastF_mem : ∀ (l : List Op8) (k : Nat) (v : Int) (j : Nat) (hj : j < l.length), v ∈ regsOf [l[j].f0, l[j].f1, l[j].f2, l[j].f3] → ((k : Int) + j) ∈ lastF l k v
  | o :: l, k, v, 0, hj, h => by
    unfold lastF
    refine List.mem_append.2 (.inl (List.mem_map.2 ⟨v, List.mem_filter.2 ⟨by simpa using h, by simp⟩, by simp⟩))
  | o :: l, k, v, j + 1, hj, h => by
    unfold lastF
    have := lastF_mem l (k + 1) v j (by simpa using hj) (by simpa using h)
    refine List.mem_append.2 (.inr ?_)
    rw [show ((k : Int) + (j + 1 : Nat)) = ((k + 1 : Nat) : Int) + j from by omega]
    exact this
theorem runF_stuck {last : Int → List Int} {n base : Int} : ∀ (l : List Op8) (s : AS), s.e ≠ 0 → runF last n base l s = s
  | [], s, h => rfl
  | o :: l, s, h => by rw [runF, if_neg h]; exact runF_stuck l s h
/-- The books while the list is gone through. -/
structure RunI (L Pr : List Op8) (base : Int) (S : List Int) (s : AS) : Prop where
  fine : Fine s
  inG : InG S s
  pos : s.pos = Pr.length
  inv : InvO (lastF L 0) L.length base S Pr s
theorem RunI.step {L Pr l : List Op8} {o : Op8} {base : Int} {S : List Int} {s : AS} (h : RunI L Pr base S s) (hL : L = Pr ++ o :: l) (ho : OpIn S o) : RunI L (Pr ++ [o]) base (S ++ regsOf [o.t0, o.t1]) (stepF (lastF L 0) L.length base s o) := by
  have hlast : ∀ v, ∀ i ∈ lastF L 0 v, i < (L.length : Int) := fun v i hi => by have := lastF_lt L 0 v i hi; omega
  obtain ⟨a, b, d⟩ := stepF_fine (last := lastF L 0) (n := L.length) (base := base) h.fine h.inG ho
  refine ⟨a, b, by rw [d, h.pos]; simp, stepF_inv hlast h.fine h.inG ho h.inv (fun v hv => ?_)⟩
  refine (nextF_lt (hlast v)).2 ⟨Pr.length, ?_, by rw [h.pos]; omega⟩
  have hj : Pr.length < L.length := by rw [hL]; simp
  have he : L[Pr.length] = o := by simp [hL]
  have := lastF_mem L 0 v Pr.length hj (by rw [he]; exact hv)
  simpa using this
theorem runF_inv {L : List Op8} {base : Int} : ∀ (l Pr : List Op8) (S : List Int) (s : AS), L = Pr ++ l → listV S l = true → RunI L Pr base S s → (runF (lastF L 0) L.length base l s).e = 0 → ∃ S', RunI L L base S' (runF (lastF L 0) L.length base l s)
  | [], Pr, S, s, hL, hv, h, he => ⟨S, by rw [runF]; simp only [List.append_nil] at hL; rw [← hL] at h; exact h⟩
  | o :: l, Pr, S, s, hL, hv, h, he => by
    obtain ⟨ho, hv'⟩ := listV_cons hv
    rw [runF] at he ⊢
    by_cases hs : s.e = 0
    · rw [if_pos hs] at he ⊢
      exact runF_inv l (Pr ++ [o]) _ _ (by simp [hL]) hv' (h.step hL ho) he
    · rw [if_neg hs, runF_stuck l s hs] at he
      exact absurd he hs
def AS0 : AS := ⟨0, [-1, -1, -1, -1, -1, -1, -1, -1], [], [], 0, 0⟩
theorem once_free : Once [-1, -1, -1, -1, -1, -1, -1, -1] := by
  unfold Once; simp
theorem fine0 : Fine AS0 := ⟨rfl, once_free, .nil, by intro x hx; simp [AS0] at hx; omega, by intro x hx; simp [AS0] at hx⟩
theorem runI0 {L : List Op8} {base : Int} (hb : base ≤ 1020) : RunI L [] base [] AS0 :=
  ⟨fine0, by intro x hx; simp [AS0] at hx; exact .inl hx, rfl, ⟨by simp [AS0], by intro _; simp [AS0]; omega, .nil, by simp⟩⟩
/-- What Alloc returns when nothing is wrong. -/
theorem allocF_ok {L : List Op8} {base : Int} (h : (allocF L base).2.2 = 0) : listV [] L = true ∧ 0 ≤ base ∧ base ≤ 1020 ∧ base % 4 = 0 ∧ ∃ s S, s = runF (lastF L 0) L.length base L AS0 ∧ RunI L L base S s ∧ s.e = 0 ∧ allocF L base = (s.out, s.slots, 0) := by
  unfold allocF at h ⊢
  by_cases h1 : listV [] L = false
  · rw [if_pos h1] at h; simp at h
  rw [if_neg h1] at h ⊢
  by_cases h2 : base < 0 ∨ base > 1020 ∨ base % 4 ≠ 0
  · rw [if_pos h2] at h; simp at h
  rw [if_neg h2] at h ⊢
  simp only at h ⊢
  have h1' : listV [] L = true := by simpa using h1
  obtain ⟨s, hs⟩ : ∃ s, s = runF (lastF L 0) L.length base L AS0 := ⟨_, rfl⟩
  rw [show (⟨0, [-1, -1, -1, -1, -1, -1, -1, -1], [], [], 0, 0⟩ : AS) = AS0 from rfl, ← hs] at h ⊢
  by_cases h3 : s.e = 0
  · rw [if_pos h3]
    obtain ⟨S, hS⟩ := runF_inv (L := L) L [] [] AS0 rfl h1' (runI0 (L := L) (base := base) (by omega)) (by rw [← hs]; exact h3)
    exact ⟨h1', by omega, by omega, by omega, s, S, rfl, by rw [hs]; exact hS, h3, rfl⟩
  · rw [if_neg h3] at h; exact absurd h h3

def slotLike (base slots : Int) (o : Op8) : Bool := (o.K == 2 || o.K == 3) && decide (base ≤ o.N) && decide (o.N < base + 4 * slots)
def likeB (o l : Op8) : Bool := o.K == l.K && o.N == l.N && (regsOf [o.f0, o.f1, o.f2, o.f3]).length == (regsOf [l.f0, l.f1, l.f2, l.f3]).length
/-- How far the list is when an operation was met. -/
def nextOf (L : List Op8) (base slots : Int) (o : Op8) (k : Nat) : Option Nat :=
  if h : k < L.length then (if likeB o L[k] then some (k + 1) else if slotLike base slots o then some k else none) else if slotLike base slots o then some k else none
def orderV (L : List Op8) (base slots : Int) : List Op8 → Nat → Option Nat
  | [], k => some k
  | o :: l, k => match nextOf L base slots o k with
    | none => none
    | some k' => orderV L base slots l k'
theorem orderV_append {L : List Op8} {base slots : Int} (o : Op8) : ∀ (A : List Op8) (k k1 k2 : Nat), orderV L base slots A k = some k1 → nextOf L base slots o k1 = some k2 → orderV L base slots (A ++ [o]) k = some k2
  | [], k, k1, k2, h1, h2 => by
    simp only [orderV, Option.some.injEq] at h1
    subst h1
    simp [orderV, h2]
  | a :: A, k, k1, k2, h1, h2 => by
    rw [List.cons_append, orderV]
    rw [orderV] at h1
    rcases hn : nextOf L base slots a k with _ | k'
    · rw [hn] at h1; simp at h1
    · rw [hn] at h1
      exact orderV_append o A k' k1 k2 h1 h2
theorem slotOp_like {base slots : Int} {o : Op8} (h : SlotOp base slots o) : slotLike base slots o = true := by
  obtain ⟨hk, t, h0, h1, h2⟩ := h
  unfold slotLike
  have a : (o.K == 2 || o.K == 3) = true := by rcases hk with h | h <;> simp [h]
  simp [a, h2]; omega
theorem like_slot {base slots : Int} {o l : Op8} (h : likeB o l = true) (hs : slotLike base slots o = true) : slotLike base slots l = true := by
  unfold likeB at h
  simp only [Bool.and_eq_true, beq_iff_eq] at h
  unfold slotLike at hs ⊢
  rw [← h.1.1, ← h.1.2]
  exact hs
theorem order_ok {L : List Op8} {base slots : Int} {A Lp : List Op8} (h : Weave (SlotOp base slots) A Lp) : ∀ R, L = Lp ++ R → ∃ k, orderV L base slots A 0 = some k ∧ Lp.length ≤ k ∧ k ≤ L.length ∧ ∀ i (hi : i < L.length), Lp.length ≤ i → i < k → slotLike base slots L[i] = true := by
  induction h with
  | nil => intro R hL; exact ⟨0, rfl, by simp, by omega, fun i _ _ h => absurd h (by omega)⟩
  | @slot A Lp o hp _ ih =>
    intro R hL
    obtain ⟨k, h1, h2, h3, h4⟩ := ih R hL
    have hs := slotOp_like hp
    by_cases hk : k < L.length
    · by_cases hlk : likeB o L[k] = true
      · refine ⟨k + 1, orderV_append o A 0 k (k + 1) h1 (by unfold nextOf; rw [dif_pos hk, if_pos hlk]), by omega, by omega, fun i hi h5 h6 => ?_⟩
        by_cases hik : i = k
        · subst hik; exact like_slot hlk hs
        · exact h4 i hi h5 (by omega)
      · exact ⟨k, orderV_append o A 0 k k h1 (by unfold nextOf; rw [dif_pos hk, if_neg hlk, if_pos hs]), h2, h3, h4⟩
    · exact ⟨k, orderV_append o A 0 k k h1 (by unfold nextOf; rw [dif_neg hk, if_pos hs]), h2, h3, h4⟩
  | @op A Lp o l hl _ ih =>
    intro R hL
    obtain ⟨k, h1, h2, h3, h4⟩ := ih (l :: R) (by simp [hL])
    have hlb : likeB o l = true := by
      unfold likeB
      obtain ⟨a, b, d⟩ := hl
      simp [a, b, d]
    have hn : Lp.length < L.length := by rw [hL]; simp
    have hat : L[Lp.length] = l := by simp [hL]
    rw [List.length_append, List.length_singleton]
    by_cases hk0 : k = Lp.length
    · subst hk0
      refine ⟨Lp.length + 1, orderV_append o A 0 _ _ h1 (by unfold nextOf; rw [dif_pos hn, if_pos (by rw [hat]; exact hlb)]), by omega, by omega, fun i _ h5 h6 => absurd h6 (by omega)⟩
    · have hs : slotLike base slots o = true := by
        have := h4 Lp.length hn (Nat.le_refl _) (by omega)
        rw [hat] at this
        obtain ⟨a, b, d⟩ := hl
        unfold slotLike at this ⊢
        rw [a, b]; exact this
      by_cases hk : k < L.length
      · by_cases hlk : likeB o L[k] = true
        · refine ⟨k + 1, orderV_append o A 0 k (k + 1) h1 (by unfold nextOf; rw [dif_pos hk, if_pos hlk]), by omega, by omega, fun i hi h5 h6 => ?_⟩
          by_cases hik : i = k
          · subst hik; exact like_slot hlk hs
          · exact h4 i hi (by omega) (by omega)
        · exact ⟨k, orderV_append o A 0 k k h1 (by unfold nextOf; rw [dif_pos hk, if_neg hlk, if_pos hs]), by omega, h3, fun i hi h5 h6 => h4 i hi (by omega) h6⟩
      · exact ⟨k, orderV_append o A 0 k k h1 (by unfold nextOf; rw [dif_neg hk, if_pos hs]), by omega, h3, fun i hi h5 h6 => h4 i hi (by omega) h6⟩
/-- The order law. -/
theorem allocF_order {L : List Op8} {base : Int} (h : (allocF L base).2.2 = 0) : orderV L base (allocF L base).2.1 (allocF L base).1 0 = some L.length := by
  obtain ⟨_, _, _, _, s, S, _, hR, _, he⟩ := allocF_ok h
  rw [he]
  obtain ⟨k, h1, h2, h3, _⟩ := order_ok (L := L) hR.inv.wv [] (by simp)
  rw [h1]
  congr 1
  omega
theorem weave_bd {base slots : Int} {A L : List Op8} (hb : 0 ≤ base) (h4 : base + 4 * slots ≤ 1024) (h : Weave (SlotOp base slots) A L) (hL : ∀ o ∈ L, 0 ≤ o.N ∧ o.N < 4294967296) : ∀ o ∈ A, 0 ≤ o.N ∧ o.N < 4294967296 := by
  induction h with
  | nil => simp
  | @slot A L o hp _ ih =>
    intro x hx
    rcases List.mem_append.1 hx with hx | hx
    · exact ih hL x hx
    · simp only [List.mem_singleton] at hx
      subst hx
      obtain ⟨_, t, h0, h1, h2⟩ := hp
      omega
  | @op A L o l hl _ ih =>
    intro x hx
    rcases List.mem_append.1 hx with hx | hx
    · exact ih (fun o ho => hL o (by simp [ho])) x hx
    · simp only [List.mem_singleton] at hx
      subst hx
      have := hL l (by simp)
      rw [hl.2.1]; exact this
end Go.Proofs.YtmkencdkglbpbaaDoor
