/- AllocRuns, in plain terms: what a slot's operations do; spilling and taking keep the two machines alike. -/
import Derived.Test.YtmkencdkglbpbaaDoorVopX
import Derived.Test.YtmkencdkglbpbaaDoorAlQ
import Derived.Test.YtmkencdkglbpbaaDoorAlE8
import Derived.Test.YtmkencdkglbpbaaDoorAlU
set_option maxRecDepth 100000
set_option linter.unusedVariables false
namespace Go.Proofs.YtmkencdkglbpbaaDoor
open Go.RowKit

theorem runM_app (S : Int) : ∀ (A B : List Op8) (R : List Int) (m : Nat → Int) (R' : List Int) (m' : Nat → Int), runM S A R m = (0, 0, R', m') → runM S (A ++ B) R m = runM S B R' m'
  | [], B, R, m, R', m', h => by
    simp only [runM, Prod.mk.injEq, true_and] at h
    obtain ⟨rfl, rfl⟩ := h
    rfl
  | o :: A, B, R, m, R', m', h => by
    rw [runM] at h
    rw [List.cons_append, runM]
    split at h
    · rename_i hc
      rw [h] at hc
      simp at hc
    · rename_i hc
      rw [if_neg hc]
      exact runM_app S A B _ _ R' m' h
/-- A part that traps is the whole's answer. -/
theorem runM_trap (S : Int) : ∀ (A B : List Op8) (R : List Int) (m : Nat → Int), ((runM S A R m).1 ≠ 0 ∨ (runM S A R m).2.1 ≠ 0) → runM S (A ++ B) R m = runM S A R m
  | [], B, R, m, h => by simp [runM] at h
  | o :: A, B, R, m, h => by
    rw [runM] at h
    rw [List.cons_append, runM, runM]
    split at h
    · rename_i hc
      rw [if_pos hc, if_pos hc]
    · rename_i hc
      rw [if_neg hc, if_neg hc]
      exact runM_trap S A B _ _ h
theorem runM_one (S : Int) (o : Op8) (R : List Int) (m : Nat → Int) : runM S [o] R m = o.run S R m := by
  rw [runM]
  split
  · rfl
  · rename_i hc
    generalize o.run S R m = q at hc ⊢
    obtain ⟨a, b, c, d⟩ := q
    simp only [not_or, Decidable.not_not] at hc
    obtain ⟨rfl, rfl⟩ := hc
    rfl
theorem slot_at {S base : Int} {z i : Nat} (hz : S + base = 536870912 + 4 * (z : Int)) (hi : z + i < 16384) (K : Int) (hK : K = 2 ∨ K = 3) (v0 v1 : Int) : atV K S (base + 4 * (i : Int)) v0 v1 = 536870912 + 4 * ((z + i : Nat) : Int) := by
  unfold atV
  rw [if_neg (by omega)]
  omega
theorem put_run {S base : Int} {z i : Nat} {r : Int} {R8 : List Int} (m8 : Nat → Int) (hz : S + base = 536870912 + 4 * (z : Int)) (hi : z + i < 16384) (h8 : R8.length = 8) (hr : 0 ≤ r ∧ r < 8) :
    Op8.run ⟨3, -1, -1, r, -1, -1, -1, base + 4 * (i : Int)⟩ S R8 m8 = (0, 0, R8, fun j => if j = z + i then R8.getD r.toNat 0 else m8 j) := by
  have hn : (r != -1) = true := by simp; omega
  have e4 : regsOf [r, -1, -1, -1] = [r] := by simp [regsOf, hn]
  have e2 : regsOf [(-1 : Int), -1] = [] := by simp [regsOf]
  unfold Op8.run doM
  simp only
  have hreach : reachV R8 (-1) (-1) r (-1) (-1) (-1) = true := by
    unfold reachV
    rw [e4, e2]
    simp; omega
  rw [hreach, e4, if_neg (by simp), if_neg (by omega), if_pos trivial, slot_at hz hi 3 (.inr rfl)]
  have hE : storeE (536870912 + 4 * ((z + i : Nat) : Int)) = 0 := by
    unfold storeE
    rw [if_neg (by omega), if_neg (by omega), if_pos (by omega)]
  have hrv : rv R8 [r] 0 = R8.getD r.toNat 0 := rfl
  unfold storeM
  rw [hE, if_pos rfl, hrv, show ((536870912 + 4 * ((z + i : Nat) : Int) - 536870912) / 4).toNat = z + i by omega]
theorem get_run {S base : Int} {z i : Nat} {r : Int} {R8 : List Int} (m8 : Nat → Int) (hz : S + base = 536870912 + 4 * (z : Int)) (hi : z + i < 16384) (h8 : R8.length = 8) (hr : 0 ≤ r ∧ r < 8) :
    Op8.run ⟨2, r, -1, -1, -1, -1, -1, base + 4 * (i : Int)⟩ S R8 m8 = (0, 0, R8.set r.toNat (m8 (z + i)), m8) := by
  have hn : (r != -1) = true := by simp; omega
  have e4 : regsOf [(-1 : Int), -1, -1, -1] = [] := by simp [regsOf]
  have e2 : regsOf [r, -1] = [r] := by simp [regsOf, hn]
  unfold Op8.run doM
  simp only
  have hreach : reachV R8 r (-1) (-1) (-1) (-1) (-1) = true := by
    unfold reachV
    rw [e4, e2]
    simp; omega
  have hL : loadV [] m8 (536870912 + 4 * ((z + i : Nat) : Int)) = (m8 (z + i), 0) := by
    unfold loadV
    rw [if_neg (by omega), if_pos (by omega), show ((536870912 + 4 * ((z + i : Nat) : Int) - 536870912) / 4).toNat = z + i by omega]
  rw [hreach, e4, if_neg (by simp), if_pos (.inl trivial), slot_at hz hi 2 (.inl rfl), hL]
  rw [if_pos rfl]
  unfold wroteV
  rw [if_pos rfl]

/-- The two machines between two operations: a: the books; R8, m8: the eight registers and their memory; R, m: the many and theirs. -/
structure Sim (S : Int) (z Z : Nat) (R0 : List Int) (m0 : Nat → Int) (Sv Ex : List Int) (R : List Int) (m : Nat → Int) (a : AS) (R8 : List Int) (m8 : Nat → Int) : Prop where
  run : runM S a.out R0 m0 = (0, 0, R8, m8)
  l8 : R8.length = 8
  g : ∀ i (hi : i < a.G.length), a.G[i] ≠ -1 → a.G[i] ∉ Ex → R8.getD i 0 = R.getD (a.G[i]).toNat 0
  t : ∀ i (hi : i < a.T.length), a.T[i] ≠ -1 → m8 (z + i) = R.getD (a.T[i]).toNat 0
  tS : ∀ x ∈ a.T, x = -1 ∨ x ∈ Sv
  o : ∀ j, ¬ (z ≤ j ∧ j < z + Z) → m8 j = m j

section
variable {S base : Int} {z Z : Nat} {R0 : List Int} {m0 : Nat → Int} {Sv Ex R : List Int} {m : Nat → Int} {a : AS} {R8 : List Int} {m8 : Nat → Int}
theorem Sim.spill (h : Sim S z Z R0 m0 Sv Ex R m a R8 m8) (hf : Fine a) (hz : S + base = 536870912 + 4 * (z : Int)) (hZ : z + Z ≤ 16384) {v : Int} (hv : v ∈ a.G) (hv1 : v ≠ -1) (hx : v ∉ Ex) (hS : v ∈ Sv) (hs : (spillF base a v).slots ≤ Z) : ∃ m8', Sim S z Z R0 m0 Sv Ex R m (spillF base a v) R8 m8' := by
  have hb := idxV_bd a.G v 0
  have hi0 := (idxV_mem a.G v 0).2 hv
  have hg8 := hf.g8
  have hge := slotOf_ge a
  have hlt := slotOf_lt a
  unfold spillF at hs ⊢
  split
  · exact ⟨m8, h⟩
  · rename_i hc
    rw [if_neg hc] at hs
    have hs' : max a.slots (slotOf a + 1) ≤ (Z : Int) := hs
    obtain ⟨i, hi⟩ : ∃ i : Nat, slotOf a = i := ⟨(slotOf a).toNat, by omega⟩
    have hri : (idxV a.G v 0).toNat < a.G.length := by omega
    have hat : a.G[(idxV a.G v 0).toNat]'hri = v := idxV_at a.G v 0 _ hri (by omega)
    have hval : R8.getD (idxV a.G v 0).toNat 0 = R.getD v.toNat 0 := by
      have := h.g _ hri (by rw [hat]; exact hv1) (by rw [hat]; exact hx)
      rw [hat] at this; exact this
    refine ⟨fun j => if j = z + i then R8.getD (idxV a.G v 0).toNat 0 else m8 j, ?_, h.l8, h.g, fun k hk hk1 => ?_, fun x hx2 => ?_, fun j hj => ?_⟩
    · show runM S (a.out ++ [_]) R0 m0 = _
      rw [runM_app S _ _ _ _ _ _ h.run, runM_one, hi]
      exact put_run m8 hz (by omega) h.l8 (by omega)
    · simp only [List.getElem_set, hi] at hk1 ⊢
      by_cases hki : k = i
      · subst hki
        simp only [Int.toNat_natCast, if_true]
        exact hval
      · rw [if_neg (by omega)] at hk1
        rw [if_neg (by omega), if_neg (by omega)]
        by_cases hn : idxV a.T (-1) 0 < 0
        · simp only [if_pos hn] at hk1 ⊢
          have hkl : k < (a.T ++ [-1]).length := by simpa [hn] using hk
          by_cases hkT : k < a.T.length
          · rw [List.getElem_append_left hkT] at hk1 ⊢
            exact h.t k hkT hk1
          · rw [List.getElem_append_right (by omega)] at hk1
            simp at hk1
        · simp only [if_neg hn] at hk1 ⊢
          exact h.t k (by simpa [hn] using hk) hk1
    · rcases List.mem_or_eq_of_mem_set hx2 with hx3 | rfl
      · split at hx3
        · rcases List.mem_append.1 hx3 with hx3 | hx3
          · exact h.tS x hx3
          · exact .inl (List.mem_singleton.1 hx3)
        · exact h.tS x hx3
      · exact .inr hS
    · rw [if_neg (by omega)]
      exact h.o j hj
theorem Sim.take {nx : Int → Int} {pins : List Int} {v : Int} (h : Sim S z Z R0 m0 Sv Ex R m a R8 m8) (hf : Fine a) (hp : pins.length ≤ 6) (hEx : ∀ x ∈ Ex, x ∈ pins) (hG : ∀ x ∈ a.G, x = -1 ∨ x ∈ Sv ∨ x ∈ Ex) (hz : S + base = 536870912 + 4 * (z : Int)) (hZ : z + Z ≤ 16384) (hs : (takeF nx base pins a v).slots ≤ Z) : ∃ m8', Sim S z Z R0 m0 Sv (v :: Ex) R m (takeF nx base pins a v) R8 m8' := by
  obtain ⟨hr, hc⟩ := pick_at (nx := nx) hf hp
  have key : ∀ a1 m1, Sim S z Z R0 m0 Sv Ex R m a1 R8 m1 → Sim S z Z R0 m0 Sv (v :: Ex) R m { a1 with G := a1.G.set (pickF nx pins a).toNat v } R8 m1 := fun a1 m1 h1 =>
    { h1 with
      g := fun i hi hne hx => by
        simp only [List.getElem_set] at hne hx ⊢
        have hi1 : i < a1.G.length := by simpa using hi
        split at hx
        · exact absurd (List.mem_cons_self) hx
        · rename_i hne2
          rw [if_neg hne2] at hne
          rw [if_neg hne2]
          exact h1.g i hi1 hne (fun e => hx (List.mem_cons_of_mem _ e)) }
  by_cases hfree : idxV a.G (-1) 0 < 0
  · have hnp : a.G[(pickF nx pins a).toNat] ∉ pins := by
      rcases hc with ⟨_, h1⟩ | ⟨h1, _⟩
      · exact h1
      · exact absurd hfree h1
    have hmem : a.G[(pickF nx pins a).toNat] ∈ a.G := List.getElem_mem hr
    have hw1 : a.G[(pickF nx pins a).toNat] ≠ -1 := fun e => by
      have := (idxV_mem a.G (-1) 0).2 (e ▸ hmem)
      omega
    have hwS : a.G[(pickF nx pins a).toNat] ∈ Sv := by
      rcases hG _ hmem with e | e | e
      · exact absurd e hw1
      · exact e
      · exact absurd (hEx _ e) hnp
    have hgd : a.G.getD (pickF nx pins a).toNat 0 = a.G[(pickF nx pins a).toNat] := by
      rw [List.getD_eq_getElem?_getD, List.getElem?_eq_getElem hr, Option.getD_some]
    unfold takeF at hs ⊢
    simp only [if_pos hfree, hgd] at hs ⊢
    obtain ⟨m8', h'⟩ := h.spill (base := base) hf hz hZ hmem hw1 (fun e => hnp (hEx _ e)) hwS hs
    exact ⟨m8', key _ _ h'⟩
  · unfold takeF
    simp only [if_neg hfree]
    exact ⟨m8, key _ _ h⟩
end
theorem readF_slots {nx : Int → Int} {base : Int} {pins : List Int} : ∀ (U : List Int) (s : AS), s.slots ≤ (readF nx base pins U s).slots
  | [], s => Int.le_refl _
  | v :: U, s => by
    unfold readF
    split
    · exact Int.le_trans (takeF_slots (nx := nx) (base := base) (pins := pins) (v := v)) (readF_slots U { takeF nx base pins s v with out := (takeF nx base pins s v).out ++ [⟨2, pickF nx pins s, -1, -1, -1, -1, -1, base + 4 * max (idxV (takeF nx base pins s v).T v 0) 0⟩] })
    · exact readF_slots U s
theorem setF_slots {nx : Int → Int} {base : Int} {pins : List Int} : ∀ (W : List Int) (s : AS) (tt : List Int), s.slots ≤ (setF nx base pins W s tt).1.slots
  | [], s, tt => Int.le_refl _
  | v :: W, s, tt => by
    unfold setF
    exact Int.le_trans (takeF_slots (nx := nx) (base := base) (pins := pins) (v := v)) (setF_slots W _ _)
/-- What an operation reads comes to be in registers: the two machines stay alike. -/
theorem Sim.read {S base : Int} {z Z : Nat} {R0 : List Int} {m0 : Nat → Int} {Sv R : List Int} {m : Nat → Int} {nx : Int → Int} {pins : List Int} {last : Int → List Int} {n : Int} {L : List Op8} (hp : pins.length ≤ 6) (hz : S + base = 536870912 + 4 * (z : Int)) (hZ : z + Z ≤ 16384) :
    ∀ (U : List Int) {a : AS} {R8 : List Int} {m8 : Nat → Int}, Fine a → InG Sv a → InvO last n base Sv L a → (∀ v ∈ U, v ∈ Sv ∧ v ∈ pins ∧ nextF n a.pos (last v) < n ∧ 0 ≤ v ∧ v ≤ 65535) → Sim S z Z R0 m0 Sv [] R m a R8 m8 → (readF nx base pins U a).slots ≤ Z →
    ∃ R8' m8', Sim S z Z R0 m0 Sv [] R m (readF nx base pins U a) R8' m8'
  | [], a, R8, m8, _, _, _, _, h, _ => ⟨R8, m8, h⟩
  | v :: U, a, R8, m8, hf, hG, hI, hU, h, hs => by
    obtain ⟨a1, a2, a3, a4, a5⟩ := hU v (by simp)
    have hs0 := hs
    unfold readF at hs ⊢
    split
    · rename_i hJ
      rw [if_pos hJ] at hs
      simp only at hs ⊢
      have hm : v ∉ a.G := fun e => by have := (idxV_mem a.G v 0).2 e; omega
      have hT : v ∈ a.T := (hI.live v a1 (by omega) a3).resolve_left hm
      have f1 := takeF_fine (nx := nx) (base := base) (pins := pins) hf ⟨by omega, a5⟩ hm
      have i1 := takeF_inv (nx := nx) (v := v) (S' := Sv) hf hp hI (fun x hx => .inl hx)
      have hT1 := takeF_T (nx := nx) (base := base) (pins := pins) (v := v) hT (by omega)
      have hp1 := takeF_pos nx base pins a v
      have g1 : InG Sv (takeF nx base pins a v) := hG.take (fun x hx => hx) a1
      have hgs := readF_slots (nx := nx) (base := base) (pins := pins) U { takeF nx base pins a v with out := (takeF nx base pins a v).out ++ [⟨2, pickF nx pins a, -1, -1, -1, -1, -1, base + 4 * max (idxV (takeF nx base pins a v).T v 0) 0⟩] }
      obtain ⟨hr, hc⟩ := pick_at (nx := nx) hf hp
      have hpk := pick_ok (nx := nx) hf hp
      have hGs := takeF_G nx base pins a v
      obtain ⟨m1, h1⟩ := h.take (nx := nx) (pins := pins) (v := v) hf hp (by simp) (fun x hx => (hG x hx).imp id .inl) hz hZ (by exact Int.le_trans hgs hs)
      have hpl : (pickF nx pins a).toNat < (takeF nx base pins a v).G.length := by rw [hGs]; simpa using hr
      have hGp : (takeF nx base pins a v).G[(pickF nx pins a).toNat] = v := by simp only [hGs, List.getElem_set_self]
      generalize takeF nx base pins a v = s1 at f1 i1 hT1 hp1 g1 hgs hGs h1 hpl hGp hs ⊢
      have hi := (idxV_mem s1.T v 0).2 hT1
      have hb := idxV_bd s1.T v 0
      obtain ⟨i, hie⟩ : ∃ i : Nat, idxV s1.T v 0 = i := ⟨(idxV s1.T v 0).toNat, by omega⟩
      have hiT : i < s1.T.length := by omega
      have hTi : s1.T[i] = v := idxV_at s1.T v 0 i hiT (by omega)
      have hval := h1.t i hiT (by rw [hTi]; omega)
      rw [hTi] at hval
      have hsl : s1.slots ≤ Z := Int.le_trans hgs hs
      have htn := i1.tn
      rw [Int.max_eq_left hi] at hs ⊢
      rw [hie] at hs ⊢
      have hget := get_run (S := S) (base := base) (z := z) (i := i) (r := pickF nx pins a) (R8 := R8) m1 hz (by omega) h1.l8 hpk
      refine Sim.read hp hz hZ U (a := { s1 with out := s1.out ++ [⟨2, pickF nx pins a, -1, -1, -1, -1, -1, base + 4 * (i : Int)⟩] }) (R8 := R8.set (pickF nx pins a).toNat (m1 (z + i))) (m8 := m1) ⟨f1.g8, f1.gO, f1.tO, f1.gb, f1.tb⟩ g1
        ⟨i1.tn, i1.low, .slot ⟨.inl rfl, (i : Int), by omega, by show (i : Int) < s1.slots; omega, rfl⟩ i1.wv, i1.live⟩
        (fun x hx => by obtain ⟨b1, b2, b3, b4, b5⟩ := hU x (by simp [hx]); exact ⟨b1, b2, by rw [show ({ s1 with out := s1.out ++ [⟨2, pickF nx pins a, -1, -1, -1, -1, -1, base + 4 * (i : Int)⟩] } : AS).pos = a.pos from hp1]; exact b3, b4, b5⟩)
        { run := by
            show runM S (s1.out ++ [_]) R0 m0 = _
            rw [runM_app S _ _ _ _ _ _ h1.run, runM_one]
            exact hget
          l8 := by rw [List.length_set]; exact h1.l8
          g := fun j hj hne _ => by
            have hj' : j < s1.G.length := hj
            have hj8 : j < R8.length := by rw [h1.l8, ← f1.g8]; exact hj'
            show (R8.set _ _).getD j 0 = R.getD (s1.G[j]).toNat 0
            by_cases hjp : j = (pickF nx pins a).toNat
            · subst hjp
              rw [hGp, List.getD_eq_getElem?_getD, List.getElem?_set_self (by omega), Option.getD_some, hval]
            · rw [List.getD_eq_getElem?_getD, List.getElem?_set_ne (by omega), ← List.getD_eq_getElem?_getD]
              refine h1.g j hj' hne (fun e => ?_)
              have hev := List.mem_singleton.1 e
              have ho := f1.gO
              unfold Once at ho
              rw [List.pairwise_iff_getElem] at ho
              rcases Nat.lt_or_ge j (pickF nx pins a).toNat with hlt | hge
              · rcases ho j _ hj' hpl hlt with e1 | e1
                · exact hne e1
                · exact e1 (hev.trans hGp.symm)
              · rcases ho _ j hpl hj' (by omega) with e1 | e1
                · rw [hGp] at e1; omega
                · exact e1 (hGp.trans hev.symm)
          t := h1.t
          tS := h1.tS
          o := h1.o } hs
    · rename_i hJ
      rw [if_neg hJ] at hs
      exact Sim.read hp hz hZ U hf hG hI (fun x hx => hU x (by simp [hx])) h hs
end Go.Proofs.YtmkencdkglbpbaaDoor
set_option maxRecDepth 100000
set_option linter.unusedVariables false
namespace Go.Proofs.YtmkencdkglbpbaaDoor
open Go.RowKit

/-- What an operation does whose registers are there: what it traps with, its error, what it writes, the memory. -/
def effM (K N S v0 v1 v2 v3 : Int) (m : Nat → Int) : Int × Int × Option (Int × Int) × (Nat → Int) :=
  if K = 2 ∨ K = 5 then (0, (loadV [] m (atV K S N v0 v1)).2, if (loadV [] m (atV K S N v0 v1)).2 = 0 then some ((loadV [] m (atV K S N v0 v1)).1, 0) else none, m)
  else if K = 3 then (0, storeE (atV K S N v0 v1), none, storeM m (atV K S N v0 v1) v0)
  else if K = 6 then (0, storeE (atV K S N v0 v1), none, storeM m (atV K S N v0 v1) v2)
  else if K = 4 then (0, 0, some (atV K S N v0 v1, 0), m)
  else ((resV K N v0 v1 v2 v3).1, 0, (resV K N v0 v1 v2 v3).2, m)
theorem doM_eff (K t0 t1 f0 f1 f2 f3 N S : Int) (R : List Int) (m : Nat → Int) (h : reachV R t0 t1 f0 f1 f2 f3 = true) (v : Nat → Int) (hv : ∀ i, rv R (regsOf [f0, f1, f2, f3]) i = v i) :
    doM K t0 t1 f0 f1 f2 f3 N S R m = ((effM K N S (v 0) (v 1) (v 2) (v 3) m).1, (effM K N S (v 0) (v 1) (v 2) (v 3) m).2.1, putV R t0 t1 (effM K N S (v 0) (v 1) (v 2) (v 3) m).2.2.1, (effM K N S (v 0) (v 1) (v 2) (v 3) m).2.2.2) := by
  unfold doM effM
  rw [h, if_neg (by simp), hv 0, hv 1, hv 2]
  split
  · split <;> rfl
  · split
    · rfl
    · split
      · rfl
      · split
        · rfl
        · unfold doV
          rw [h, if_neg (by simp), hv 0, hv 1, hv 2, hv 3]
/-- An address among the slots. -/
def inZone (z Z : Nat) (ad : Int) : Prop := 536870912 + 4 * (z : Int) ≤ ad ∧ ad < 536870912 + 4 * (z : Int) + 4 * (Z : Int)
/-- Does the operation come to the slots? -/
def touchM (K N S v0 v1 : Int) (z Z : Nat) : Prop := (K = 2 ∨ K = 3 ∨ K = 5 ∨ K = 6) ∧ inZone z Z (atV K S N v0 v1)
theorem loadV_out {m m8 : Nat → Int} {z Z : Nat} (ho : ∀ j, ¬ (z ≤ j ∧ j < z + Z) → m8 j = m j) {ad : Int} (hn : ¬ inZone z Z ad) : loadV [] m8 ad = loadV [] m ad := by
  unfold loadV
  split
  · rfl
  · rename_i h4
    split
    · rename_i hr
      rw [ho _ (fun hj => hn ⟨by omega, by omega⟩)]
    · rfl
theorem storeM_out {m m8 : Nat → Int} {z Z : Nat} (ho : ∀ j, ¬ (z ≤ j ∧ j < z + Z) → m8 j = m j) {ad x : Int} : ∀ j, ¬ (z ≤ j ∧ j < z + Z) → storeM m8 ad x j = storeM m ad x j := by
  intro j hj
  unfold storeM
  split
  · simp only
    split
    · rfl
    · exact ho j hj
  · exact ho j hj
theorem storeM_slot {m8 : Nat → Int} {z Z : Nat} {ad x : Int} (hn : ¬ inZone z Z ad) (i : Nat) (hi : i < Z) : storeM m8 ad x (z + i) = m8 (z + i) := by
  unfold storeM
  split
  · rename_i hE
    simp only
    rw [if_neg (fun e => hn ?_)]
    unfold storeE at hE
    split at hE
    · omega
    · split at hE
      · omega
      · split at hE
        · exact ⟨by omega, by omega⟩
        · omega
  · rfl
/-- An operation that does not come to the slots does the same over both memories, and leaves them alike. -/
theorem eff_same {K N S v0 v1 v2 v3 : Int} {m m8 : Nat → Int} {z Z : Nat} (ho : ∀ j, ¬ (z ≤ j ∧ j < z + Z) → m8 j = m j) (hn : ¬ touchM K N S v0 v1 z Z) :
    (effM K N S v0 v1 v2 v3 m8).1 = (effM K N S v0 v1 v2 v3 m).1 ∧ (effM K N S v0 v1 v2 v3 m8).2.1 = (effM K N S v0 v1 v2 v3 m).2.1 ∧ (effM K N S v0 v1 v2 v3 m8).2.2.1 = (effM K N S v0 v1 v2 v3 m).2.2.1 ∧
    (∀ j, ¬ (z ≤ j ∧ j < z + Z) → (effM K N S v0 v1 v2 v3 m8).2.2.2 j = (effM K N S v0 v1 v2 v3 m).2.2.2 j) ∧ ∀ i, i < Z → (effM K N S v0 v1 v2 v3 m8).2.2.2 (z + i) = m8 (z + i) := by
  have hz : (K = 2 ∨ K = 3 ∨ K = 5 ∨ K = 6) → ¬ inZone z Z (atV K S N v0 v1) := fun h e => hn ⟨h, e⟩
  unfold effM
  by_cases h1 : K = 2 ∨ K = 5
  · have hl := loadV_out ho (hz (by omega))
    simp only [if_pos h1, hl]
    exact ⟨trivial, trivial, trivial, ho, fun _ _ => trivial⟩
  · by_cases h2 : K = 3
    · simp only [if_neg h1, if_pos h2]
      exact ⟨trivial, trivial, trivial, storeM_out ho, storeM_slot (hz (by omega))⟩
    · by_cases h3 : K = 6
      · simp only [if_neg h1, if_neg h2, if_pos h3]
        exact ⟨trivial, trivial, trivial, storeM_out ho, storeM_slot (hz (by omega))⟩
      · by_cases h4 : K = 4
        · simp only [if_neg h1, if_neg h2, if_neg h3, if_pos h4]
          exact ⟨trivial, trivial, trivial, ho, fun _ _ => trivial⟩
        · simp only [if_neg h1, if_neg h2, if_neg h3, if_neg h4]
          exact ⟨trivial, trivial, trivial, ho, fun _ _ => trivial⟩

theorem Sim.mono {S : Int} {z Z : Nat} {R0 : List Int} {m0 : Nat → Int} {Sv Ex Ex' R : List Int} {m : Nat → Int} {a : AS} {R8 : List Int} {m8 : Nat → Int} (h : Sim S z Z R0 m0 Sv Ex R m a R8 m8) (hE : ∀ x ∈ Ex, x ∈ Ex') : Sim S z Z R0 m0 Sv Ex' R m a R8 m8 :=
  { h with g := fun i hi h1 h2 => h.g i hi h1 (fun e => h2 (hE _ e)) }
/-- What is pinned stays where it is. -/
theorem take_stay {nx : Int → Int} {base : Int} {pins : List Int} {s : AS} {v x : Int} (h : Fine s) (hp : pins.length ≤ 6) (hx : x ≠ -1) (hpx : x ∈ pins) {i : Nat} (he : s.G[i]? = some x) : (takeF nx base pins s v).G[i]? = some x := by
  obtain ⟨hr, hc⟩ := pick_at (nx := nx) h hp
  rw [takeF_G]
  have hne : (pickF nx pins s).toNat ≠ i := fun e => by
    subst e
    rw [List.getElem?_eq_getElem hr] at he
    injection he with he
    rcases hc with ⟨_, h1⟩ | ⟨_, h2⟩
    · exact h1 (he ▸ hpx)
    · exact hx (he.symm.trans h2)
  rw [List.getElem?_set_ne hne]
  exact he
/-- Those that an operation sets are given registers. -/
theorem Sim.set {S base : Int} {z Z : Nat} {R0 : List Int} {m0 : Nat → Int} {Sv R : List Int} {m : Nat → Int} {nx : Int → Int} {pins : List Int} (hp : pins.length ≤ 6) (hz : S + base = 536870912 + 4 * (z : Int)) (hZ : z + Z ≤ 16384) {W0 : List Int} (hW0 : ∀ x ∈ W0, x ∈ pins) {R8 : List Int} :
    ∀ (W : List Int) {a : AS} {m8 : Nat → Int} (tt : List Int), Fine a → (∀ x ∈ a.G, x = -1 ∨ x ∈ Sv ∨ x ∈ W0) → (∀ x ∈ W, x ∈ W0 ∧ x ∉ a.G ∧ 0 ≤ x ∧ x ≤ 65535) → W.Nodup → Sim S z Z R0 m0 Sv W0 R m a R8 m8 → (setF nx base pins W a tt).1.slots ≤ Z →
    ∃ m8' P, Sim S z Z R0 m0 Sv W0 R m (setF nx base pins W a tt).1 R8 m8' ∧ (setF nx base pins W a tt).2 = tt ++ P ∧ P.length = W.length ∧ (∀ (k : Nat) (x p : Int), W[k]? = some x → P[k]? = some p → 0 ≤ p ∧ (setF nx base pins W a tt).1.G[p.toNat]? = some x) ∧
      ∀ (i : Nat) (x : Int), x ∈ pins → x ≠ -1 → a.G[i]? = some x → (setF nx base pins W a tt).1.G[i]? = some x
  | [], a, m8, tt, _, _, _, _, h, _ => ⟨m8, [], h, by simp [setF], rfl, by simp, fun _ _ _ _ h => h⟩
  | v :: W, a, m8, tt, hf, hG, hW, hn, h, hs => by
    obtain ⟨b1, b2, b3, b4⟩ := hW v (by simp)
    have hn' := List.nodup_cons.1 hn
    unfold setF at hs ⊢
    have hsl := setF_slots (nx := nx) (base := base) (pins := pins) W (takeF nx base pins a v) (tt ++ [pickF nx pins a])
    obtain ⟨m1, h1⟩ := h.take (nx := nx) (pins := pins) (v := v) hf hp hW0 hG hz hZ (Int.le_trans hsl hs)
    have f1 := takeF_fine (nx := nx) (base := base) (pins := pins) hf ⟨by omega, b4⟩ b2
    have hpk := pick_ok (nx := nx) hf hp
    obtain ⟨hr, hc⟩ := pick_at (nx := nx) hf hp
    have hGp : (takeF nx base pins a v).G[(pickF nx pins a).toNat]? = some v := by rw [takeF_G, List.getElem?_set_self hr]
    obtain ⟨m8', P, g1, g2, g3, g4, g5⟩ := Sim.set hp hz hZ hW0 W (tt ++ [pickF nx pins a]) f1
      (fun x hx => by
        rw [takeF_G] at hx
        rcases List.mem_or_eq_of_mem_set hx with hx | rfl
        · exact hG x hx
        · exact .inr (.inr b1))
      (fun x hx => by
        obtain ⟨d1, d2, d3, d4⟩ := hW x (by simp [hx])
        refine ⟨d1, fun e => ?_, d3, d4⟩
        rw [takeF_G] at e
        rcases List.mem_or_eq_of_mem_set e with e | rfl
        · exact d2 e
        · exact hn'.1 hx)
      hn'.2 (h1.mono (fun x hx => by
        rcases List.mem_cons.1 hx with rfl | hx
        · exact b1
        · exact hx)) hs
    refine ⟨m8', pickF nx pins a :: P, g1, by rw [g2]; simp, by simp [g3], fun k x p hx hpp => ?_, fun i x hx1 hx2 hx3 => g5 i x hx1 hx2 (take_stay hf hp hx2 hx1 hx3)⟩
    match k with
    | 0 =>
      simp only [List.getElem?_cons_zero, Option.some.injEq] at hx hpp
      subst hx hpp
      exact ⟨hpk.1, g5 _ _ (hW0 _ b1) (by omega) hGp⟩
    | k + 1 =>
      simp only [List.getElem?_cons_succ] at hx hpp
      exact g4 k x p hx hpp
end Go.Proofs.YtmkencdkglbpbaaDoor
set_option maxRecDepth 100000
set_option linter.unusedVariables false
namespace Go.Proofs.YtmkencdkglbpbaaDoor
open Go.RowKit

theorem rv_eq {R R8 U F : List Int} (hl : F.length = U.length) (hF : ∀ (i : Nat) (u f : Int), U[i]? = some u → F[i]? = some f → 0 ≤ f ∧ f < 8 ∧ R8.getD f.toNat 0 = R.getD u.toNat 0) (i : Nat) : rv R8 F i = rv R U i := by
  unfold rv
  by_cases hi : i < U.length
  · have hi2 : i < F.length := by omega
    rw [List.getElem?_eq_getElem hi, List.getElem?_eq_getElem hi2]
    exact (hF i _ _ (List.getElem?_eq_getElem hi) (List.getElem?_eq_getElem hi2)).2.2
  · rw [List.getElem?_eq_none (by omega), List.getElem?_eq_none (by omega)]
/-- What an operation writes, it writes into what it names. -/
theorem eff_writes {k : Nat} {t0 t1 f0 f1 f2 f3 N : Int} (h : RightOp k t0 t1 f0 f1 f2 f3 N) (S v0 v1 v2 v3 : Int) (m : Nat → Int) (h1 : (effM k N S v0 v1 v2 v3 m).1 = 0) (h2 : (effM k N S v0 v1 v2 v3 m).2.1 = 0) :
    ((effM k N S v0 v1 v2 v3 m).2.2.1 = none ∧ t0 = -1 ∧ t1 = -1) ∨ ∃ lo hi, (effM k N S v0 v1 v2 v3 m).2.2.1 = some (lo, hi) ∧ 0 ≤ t0 ∧ (t1 = -1 ∨ (0 ≤ t1 ∧ t0 ≠ t1)) := by
  have p0 := (okAt_iff _ _ _).1 h.pt0
  have p1 := (okAt_iff _ _ _).1 h.pt1
  have hk1 := h.h1
  have hk2 := h.h2
  have htwo := h.two
  by_cases h25 : (k : Int) = 2 ∨ (k : Int) = 5
  · have e : effM k N S v0 v1 v2 v3 m = (0, (loadV [] m (atV k S N v0 v1)).2, if (loadV [] m (atV k S N v0 v1)).2 = 0 then some ((loadV [] m (atV k S N v0 v1)).1, 0) else none, m) := by unfold effM; rw [if_pos h25]
    rw [e] at h2
    have h2' : (loadV [] m (atV k S N v0 v1)).2 = 0 := h2
    rw [e]
    refine .inr ⟨(loadV [] m (atV k S N v0 v1)).1, 0, by show (if _ then _ else _) = _; rw [if_pos h2'], ?_⟩
    rcases (show k = 2 ∨ k = 5 by omega) with rfl | rfl <;> (simp [toL] at p0 p1; omega)
  rcases (show k = 1 ∨ k = 2 ∨ k = 3 ∨ k = 4 ∨ k = 5 ∨ k = 6 ∨ k = 7 ∨ k = 8 ∨ k = 9 ∨ k = 10 ∨ k = 11 ∨ k = 12 ∨ k = 13 ∨ k = 14 ∨ k = 15 ∨ k = 16 ∨ k = 17 ∨ k = 18 ∨ k = 19 ∨ k = 20 ∨ k = 21 ∨ k = 22 ∨ k = 23 ∨ k = 24 ∨ k = 25 ∨ k = 26 ∨ k = 27 ∨ k = 28 ∨ k = 29 ∨ k = 30 ∨ k = 31 by omega) with rfl | rfl | rfl | rfl | rfl | rfl | rfl | rfl | rfl | rfl | rfl | rfl | rfl | rfl | rfl | rfl | rfl | rfl | rfl | rfl | rfl | rfl | rfl | rfl | rfl | rfl | rfl | rfl | rfl | rfl | rfl
  all_goals (
    first
    | (exfalso; omega)
    | (refine .inl ⟨rfl, ?_, ?_⟩ <;> (simp [toL] at p0 p1; omega))
    | (refine .inr ⟨_, _, rfl, ?_, ?_⟩ <;> (simp [toL] at p0 p1 htwo; omega))
    | omega)
theorem once_inj {L : List Int} (h : Once L) {i j : Nat} {x : Int} (hi : L[i]? = some x) (hj : L[j]? = some x) (hx : x ≠ -1) : i = j := by
  unfold Once at h
  rw [List.pairwise_iff_getElem] at h
  obtain ⟨li, ei⟩ := List.getElem?_eq_some_iff.1 hi
  obtain ⟨lj, ej⟩ := List.getElem?_eq_some_iff.1 hj
  rcases Nat.lt_trichotomy i j with hlt | heq | hgt
  · rcases h i j li lj hlt with e | e
    · exact absurd (ei.symm.trans e) hx
    · exact absurd (ei.trans ej.symm) e
  · exact heq
  · rcases h j i lj li hgt with e | e
    · exact absurd (ej.symm.trans e) hx
    · exact absurd (ej.trans ei.symm) e
theorem wrote_hit0 {R : List Int} {t0 t1 lo hi : Int} (h0 : 0 ≤ t0) (hl : t0 < R.length) (h1 : t1 = -1 ∨ (0 ≤ t1 ∧ t0 ≠ t1)) : (wroteV R t0 t1 lo hi).getD t0.toNat 0 = lo := by
  unfold wroteV
  split
  · rw [List.getD_eq_getElem?_getD, List.getElem?_set_self (by omega), Option.getD_some]
  · rw [List.getD_eq_getElem?_getD, List.getElem?_set_ne (by omega), List.getElem?_set_self (by omega), Option.getD_some]
theorem wrote_hit1 {R : List Int} {t0 t1 lo hi : Int} (h1 : 0 ≤ t1) (hl : t1 < R.length) : (wroteV R t0 t1 lo hi).getD t1.toNat 0 = hi := by
  unfold wroteV
  rw [if_neg (by omega), List.getD_eq_getElem?_getD, List.getElem?_set_self (by rw [List.length_set]; omega), Option.getD_some]
/-- An operation, over the many registers and over the eight. -/
theorem Sim.op {S : Int} {z Z : Nat} {R0 : List Int} {m0 : Nat → Int} {Sv R : List Int} {m : Nat → Int} {a : AS} {R8 : List Int} {m8 : Nat → Int} {o : Op8} {P F : List Int} (ho : OpIn Sv o) (h : Sim S z Z R0 m0 Sv (regsOf [o.t0, o.t1]) R m a R8 m8)
    (hFl : F.length = (regsOf [o.f0, o.f1, o.f2, o.f3]).length) (hF : ∀ (i : Nat) (u f : Int), (regsOf [o.f0, o.f1, o.f2, o.f3])[i]? = some u → F[i]? = some f → 0 ≤ f ∧ f < 8 ∧ R8.getD f.toNat 0 = R.getD u.toNat 0)
    (hPl : P.length = (regsOf [o.t0, o.t1]).length) (hP : ∀ (k : Nat) (x p : Int), (regsOf [o.t0, o.t1])[k]? = some x → P[k]? = some p → 0 ≤ p ∧ a.G[p.toNat]? = some x) (hf : Fine a)
    (hR : ∀ x ∈ regsOf [o.f0, o.f1, o.f2, o.f3] ++ regsOf [o.t0, o.t1], x < (R.length : Int)) (hn : ¬ touchM o.K o.N S (rv R (regsOf [o.f0, o.f1, o.f2, o.f3]) 0) (rv R (regsOf [o.f0, o.f1, o.f2, o.f3]) 1) z Z)
    (hTl : a.T.length ≤ Z) {o' : Op8} (hoe : o' = ⟨o.K, padV P 0, padV P 1, padV F 0, padV F 1, padV F 2, padV F 3, o.N⟩) :
    (o'.run S R8 m8).1 = (o.run S R m).1 ∧ (o'.run S R8 m8).2.1 = (o.run S R m).2.1 ∧ (∀ j, ¬ (z ≤ j ∧ j < z + Z) → (o'.run S R8 m8).2.2.2 j = (o.run S R m).2.2.2 j) ∧
    ((o.run S R m).1 = 0 → (o.run S R m).2.1 = 0 → Sim S z Z R0 m0 (Sv ++ regsOf [o.t0, o.t1]) [] (o.run S R m).2.2.1 (o.run S R m).2.2.2 { a with out := a.out ++ [o'] } (o'.run S R8 m8).2.2.1 (o'.run S R8 m8).2.2.2) := by
  obtain ⟨K, t0, t1, f0, f1, f2, f3, N⟩ := o
  have hok := ho.ok
  have hWS := ho.w
  simp only at hok h hFl hF hPl hP hR hn hoe hWS ⊢
  obtain ⟨k, hk, hr⟩ := rightOp_of hok
  subst hk
  have l4 := regsOf_le4 f0 f1 f2 f3
  have l2 := regsOf_le2 t0 t1
  have hF8 : ∀ x ∈ F, 0 ≤ x ∧ x < 8 := fun x hx => by
    obtain ⟨i, hi, rfl⟩ := List.getElem_of_mem hx
    have := hF i _ _ (List.getElem?_eq_getElem (by omega)) (List.getElem?_eq_getElem hi)
    exact ⟨this.1, this.2.1⟩
  have hP8 : ∀ x ∈ P, 0 ≤ x ∧ x < 8 := fun x hx => by
    obtain ⟨i, hi, rfl⟩ := List.getElem_of_mem hx
    obtain ⟨h0, h1⟩ := hP i _ _ (List.getElem?_eq_getElem (by omega)) (List.getElem?_eq_getElem hi)
    obtain ⟨h2, _⟩ := List.getElem?_eq_some_iff.1 h1
    have := hf.g8
    exact ⟨h0, by omega⟩
  have eF : regsOf [padV F 0, padV F 1, padV F 2, padV F 3] = F := regsOf_pad (by omega) (fun x hx => by have := hF8 x hx; omega)
  have eP : regsOf [padV P 0, padV P 1] = P := regsOf_pad2 (by omega) (fun x hx => by have := hP8 x hx; omega)
  have hreach : reachV R t0 t1 f0 f1 f2 f3 = true := by
    unfold reachV
    rw [List.all_eq_true]
    intro x hx
    simpa using hR x hx
  have hreach8 : reachV R8 (padV P 0) (padV P 1) (padV F 0) (padV F 1) (padV F 2) (padV F 3) = true := by
    unfold reachV
    rw [eF, eP, List.all_eq_true]
    intro x hx
    rw [h.l8]
    rcases List.mem_append.1 hx with hx | hx
    · have := hF8 x hx; simp; omega
    · have := hP8 x hx; simp; omega
  have q : Op8.run ⟨(k : Int), t0, t1, f0, f1, f2, f3, N⟩ S R m = _ := doM_eff (k : Int) t0 t1 f0 f1 f2 f3 N S R m hreach (rv R (regsOf [f0, f1, f2, f3])) (fun _ => rfl)
  have q8 : o'.run S R8 m8 = doM (k : Int) (padV P 0) (padV P 1) (padV F 0) (padV F 1) (padV F 2) (padV F 3) N S R8 m8 := by rw [hoe]; rfl
  rw [doM_eff (k : Int) (padV P 0) (padV P 1) (padV F 0) (padV F 1) (padV F 2) (padV F 3) N S R8 m8 hreach8 (rv R (regsOf [f0, f1, f2, f3])) (fun i => by rw [eF]; exact rv_eq hFl hF i)] at q8
  obtain ⟨s1, s2, s3, s4, s5⟩ := eff_same (v2 := rv R (regsOf [f0, f1, f2, f3]) 2) (v3 := rv R (regsOf [f0, f1, f2, f3]) 3) h.o hn
  have hwr := eff_writes hr S (rv R (regsOf [f0, f1, f2, f3]) 0) (rv R (regsOf [f0, f1, f2, f3]) 1) (rv R (regsOf [f0, f1, f2, f3]) 2) (rv R (regsOf [f0, f1, f2, f3]) 3) m
  rw [s3] at q8
  generalize effM (k : Int) N S (rv R (regsOf [f0, f1, f2, f3]) 0) (rv R (regsOf [f0, f1, f2, f3]) 1) (rv R (regsOf [f0, f1, f2, f3]) 2) (rv R (regsOf [f0, f1, f2, f3]) 3) m = e at q q8 s1 s2 s4 hwr
  generalize effM (k : Int) N S (rv R (regsOf [f0, f1, f2, f3]) 0) (rv R (regsOf [f0, f1, f2, f3]) 1) (rv R (regsOf [f0, f1, f2, f3]) 2) (rv R (regsOf [f0, f1, f2, f3]) 3) m8 = e8 at q8 s1 s2 s4 s5
  obtain ⟨x1, x2, x3, x4⟩ := e
  obtain ⟨y1, y2, y3, y4⟩ := e8
  simp only at q q8 s1 s2 s4 s5 hwr
  subst s1 s2
  rw [q, q8]
  simp only
  refine ⟨trivial, trivial, s4, fun h1 h2 => ?_⟩
  subst h1 h2
  have hrun : runM S (a.out ++ [o']) R0 m0 = (0, 0, putV R8 (padV P 0) (padV P 1) x3, y4) := by
    rw [runM_app S _ _ _ _ _ _ h.run, runM_one]; exact q8
  have hl8 : (putV R8 (padV P 0) (padV P 1) x3).length = 8 := by rw [putV_length]; exact h.l8
  have hTn : ∀ (i : Nat) (hi : i < a.T.length), a.T[i] ≠ -1 → a.T[i] ∉ regsOf [t0, t1] := fun i hi hne hx => by
    rcases h.tS _ (List.getElem_mem hi) with e | e
    · exact hne e
    · exact hWS _ hx e
  -- one case: what is written
  have fin : (∀ (i : Nat) (hi : i < a.G.length), a.G[i] ≠ -1 → (putV R8 (padV P 0) (padV P 1) x3).getD i 0 = (putV R t0 t1 x3).getD (a.G[i]).toNat 0) → (∀ x, 0 ≤ x → x ∉ regsOf [t0, t1] → (putV R t0 t1 x3).getD x.toNat 0 = R.getD x.toNat 0) →
      Sim S z Z R0 m0 (Sv ++ regsOf [t0, t1]) [] (putV R t0 t1 x3) x4 { a with out := a.out ++ [o'] } (putV R8 (padV P 0) (padV P 1) x3) y4 := fun hg ht =>
    { run := hrun
      l8 := hl8
      g := fun i hi h1 _ => hg i hi h1
      t := fun i hi h1 => by
        have hi' : i < a.T.length := hi
        show y4 (z + i) = (putV R t0 t1 x3).getD (a.T[i]).toNat 0
        rw [s5 i (by omega), ht _ (by have := (hf.tb _ (List.getElem_mem hi')).1; have h1' : a.T[i] ≠ -1 := h1; omega) (hTn i hi' h1)]
        exact h.t i hi' h1
      tS := fun x hx => (h.tS x hx).imp id (fun e => List.mem_append.2 (.inl e))
      o := s4 }
  have hG0 : ∀ (i : Nat) (hi : i < a.G.length), a.G[i] ≠ -1 → 0 ≤ a.G[i] := fun i hi hne => by
    have := (hf.gb _ (List.getElem_mem hi)).1; omega
  rcases hwr rfl rfl with ⟨hw, ht0, ht1⟩ | ⟨lo, hi, hw, ht0, ht1⟩
  · have hW : regsOf [t0, t1] = [] := by rw [ht0, ht1]; rfl
    refine fin (fun i hi hne => ?_) (fun x _ _ => by rw [hw]; rfl)
    rw [hw]
    exact h.g i hi hne (by rw [hW]; simp)
  · rw [hw] at fin ⊢
    have hoth : ∀ x, 0 ≤ x → x ∉ regsOf [t0, t1] → (putV R t0 t1 (some (lo, hi))).getD x.toNat 0 = R.getD x.toNat 0 := fun x hx hn2 => by
      have m0' : t0 ∈ regsOf [t0, t1] := by unfold regsOf; exact List.mem_filter.2 ⟨by simp, by simp; omega⟩
      refine putV_other R t0 t1 _ (.inl ht0) (by omega) x hx (fun e => hn2 (e ▸ m0')) (fun e => ?_) 0
      rcases ht1 with e1 | ⟨e1, _⟩
      · omega
      · exact hn2 (by rw [e]; unfold regsOf; exact List.mem_filter.2 ⟨by simp, by simp; omega⟩)
    refine fin (fun i hi2 hne => ?_) hoth
    have hx0 := hG0 i hi2 hne
    have hgi : a.G[i]? = some a.G[i] := List.getElem?_eq_getElem hi2
    rcases ht1 with ht1 | ⟨ht1, hne1⟩
    · have hW : regsOf [t0, t1] = [t0] := by
        have hn0 : (t0 != -1) = true := by simp; omega
        rw [ht1]; simp [regsOf, hn0]
      rw [hW] at hPl hP
      obtain ⟨p0, rfl⟩ : ∃ p0, P = [p0] := by
        match P, hPl with
        | [p0], _ => exact ⟨p0, rfl⟩
      obtain ⟨hp0, hgp⟩ := hP 0 t0 p0 rfl rfl
      have hpb := hP8 p0 (by simp)
      have e0 : padV [p0] 0 = p0 := rfl
      have e1 : padV [p0] 1 = -1 := rfl
      rw [e0, e1, ht1]
      by_cases hx : a.G[i] = t0
      · have hip : i = p0.toNat := once_inj hf.gO (hgi.trans (by rw [hx])) hgp (by omega)
        rw [hx, hip]
        show (wroteV R8 p0 (-1) lo hi).getD p0.toNat 0 = (wroteV R t0 (-1) lo hi).getD t0.toNat 0
        rw [wrote_hit0 hp0 (by rw [h.l8]; omega) (.inl rfl), wrote_hit0 ht0 (hR t0 (by rw [hW]; simp)) (.inl rfl)]
      · have hip : (i : Int) ≠ p0 := fun e => by
          have : p0.toNat = i := by omega
          rw [this, hgi] at hgp
          injection hgp with hgp
          exact hx hgp
        have hn3 : a.G[i] ∉ regsOf [t0, t1] := by rw [hW]; simpa using hx
        have o1 := putV_other R8 p0 (-1) (some (lo, hi)) (.inl hp0) (.inl rfl) (i : Int) (by omega) hip (by omega) 0
        rw [Int.toNat_natCast] at o1
        have o2 := hoth _ hx0 hn3
        rw [ht1] at o2
        rw [o1, o2]
        exact h.g i hi2 hne hn3
    · have hW : regsOf [t0, t1] = [t0, t1] := by
        have hn0 : (t0 != -1) = true := by simp; omega
        have hn1 : (t1 != -1) = true := by simp; omega
        simp [regsOf, hn0, hn1]
      rw [hW] at hPl hP
      obtain ⟨p0, p1, rfl⟩ : ∃ p0 p1, P = [p0, p1] := by
        match P, hPl with
        | [p0, p1], _ => exact ⟨p0, p1, rfl⟩
      obtain ⟨hp0, hgp⟩ := hP 0 t0 p0 rfl rfl
      obtain ⟨hp1, hgp1⟩ := hP 1 t1 p1 rfl rfl
      have hpb := hP8 p0 (by simp)
      have hpb1 := hP8 p1 (by simp)
      have hpp : p0 ≠ p1 := fun e => by
        rw [e, hgp1] at hgp
        injection hgp with hgp
        exact hne1 hgp.symm
      have e0 : padV [p0, p1] 0 = p0 := rfl
      have e1 : padV [p0, p1] 1 = p1 := rfl
      rw [e0, e1]
      by_cases hx : a.G[i] = t0
      · have hip : i = p0.toNat := once_inj hf.gO (hgi.trans (by rw [hx])) hgp (by omega)
        rw [hx, hip]
        show (wroteV R8 p0 p1 lo hi).getD p0.toNat 0 = (wroteV R t0 t1 lo hi).getD t0.toNat 0
        rw [wrote_hit0 hp0 (by rw [h.l8]; omega) (.inr ⟨hp1, hpp⟩), wrote_hit0 ht0 (hR t0 (by rw [hW]; simp)) (.inr ⟨ht1, hne1⟩)]
      · by_cases hx1 : a.G[i] = t1
        · have hip : i = p1.toNat := once_inj hf.gO (hgi.trans (by rw [hx1])) hgp1 (by omega)
          rw [hx1, hip]
          show (wroteV R8 p0 p1 lo hi).getD p1.toNat 0 = (wroteV R t0 t1 lo hi).getD t1.toNat 0
          rw [wrote_hit1 hp1 (by rw [h.l8]; omega), wrote_hit1 ht1 (hR t1 (by rw [hW]; simp))]
        · have hip : (i : Int) ≠ p0 := fun e => by
            have : p0.toNat = i := by omega
            rw [this, hgi] at hgp
            injection hgp with hgp
            exact hx hgp
          have hip1 : (i : Int) ≠ p1 := fun e => by
            have : p1.toNat = i := by omega
            rw [this, hgi] at hgp1
            injection hgp1 with hgp1
            exact hx1 hgp1
          have hn3 : a.G[i] ∉ regsOf [t0, t1] := by rw [hW]; simp; exact ⟨hx, hx1⟩
          have o1 := putV_other R8 p0 p1 (some (lo, hi)) (.inl hp0) (.inr hp1) (i : Int) (by omega) hip hip1 0
          rw [Int.toNat_natCast] at o1
          have o2 := hoth _ hx0 hn3
          rw [o1, o2]
          exact h.g i hi2 hne hn3
end Go.Proofs.YtmkencdkglbpbaaDoor
set_option maxRecDepth 100000
set_option linter.unusedVariables false
namespace Go.Proofs.YtmkencdkglbpbaaDoor
open Go.RowKit

theorem freeF_at {nx : Int → Int} {n : Int} {L : List Int} {i : Nat} (hi : i < (freeF nx n L).length) (h : (freeF nx n L)[i] ≠ -1) : ∃ hl : i < L.length, (freeF nx n L)[i] = L[i] ∧ L[i] ≠ -1 := by
  have hl : i < L.length := by unfold freeF at hi; simpa using hi
  refine ⟨hl, ?_⟩
  have e : (freeF nx n L)[i] = if L[i] ≠ -1 ∧ nx L[i] = n then -1 else L[i] := List.getElem_map ..
  rw [e] at h ⊢
  split at h
  · exact absurd rfl h
  · rename_i hc
    rw [if_neg hc]
    exact ⟨rfl, h⟩
theorem Sim.ends {S : Int} {z Z : Nat} {R0 : List Int} {m0 : Nat → Int} {Sv R : List Int} {m : Nat → Int} {a : AS} {R8 : List Int} {m8 : Nat → Int} {last : Int → List Int} {n : Int} (h : Sim S z Z R0 m0 Sv [] R m a R8 m8) : Sim S z Z R0 m0 Sv [] R m (endF last n a) R8 m8 :=
  { run := h.run
    l8 := h.l8
    g := fun i hi hne hx => by
      obtain ⟨hl, he, h1⟩ := freeF_at hi hne
      have := h.g i hl h1 (by simp)
      show R8.getD i 0 = R.getD ((freeF _ _ _)[i]).toNat 0
      rw [he]; exact this
    t := fun i hi hne => by
      obtain ⟨hl, he, h1⟩ := freeF_at hi hne
      have := h.t i hl h1
      show m8 (z + i) = R.getD ((freeF _ _ _)[i]).toNat 0
      rw [he]; exact this
    tS := fun x hx => by
      have hx' : x ∈ freeF (fun v => nextF n (a.pos + 1) (last v)) n a.T := hx
      unfold freeF at hx'
      obtain ⟨y, hy, rfl⟩ := List.mem_map.1 hx'
      split
      · exact .inl rfl
      · exact h.tS y hy
    o := h.o }
/-- A step: both machines trap with the same, or are alike behind it. -/
theorem Sim.step {L Pr l : List Op8} {o : Op8} {S base : Int} {z Z : Nat} {R0 : List Int} {m0 : Nat → Int} {Sv R : List Int} {m : Nat → Int} {a : AS} {R8 : List Int} {m8 : Nat → Int} (hz : S + base = 536870912 + 4 * (z : Int)) (hZ : z + Z ≤ 16384) (hI : RunI L Pr base Sv a) (hL : L = Pr ++ o :: l) (ho : OpIn Sv o)
    (h : Sim S z Z R0 m0 Sv [] R m a R8 m8) (hs : (stepF (lastF L 0) L.length base a o).slots ≤ Z) (hR : ∀ x ∈ regsOf [o.f0, o.f1, o.f2, o.f3] ++ regsOf [o.t0, o.t1], x < (R.length : Int)) (hn : ¬ touchM o.K o.N S (rv R (regsOf [o.f0, o.f1, o.f2, o.f3]) 0) (rv R (regsOf [o.f0, o.f1, o.f2, o.f3]) 1) z Z) :
    ∃ R8' m8', runM S (stepF (lastF L 0) L.length base a o).out R0 m0 = ((o.run S R m).1, (o.run S R m).2.1, R8', m8') ∧ (∀ j, ¬ (z ≤ j ∧ j < z + Z) → m8' j = (o.run S R m).2.2.2 j) ∧
      ((o.run S R m).1 = 0 → (o.run S R m).2.1 = 0 → Sim S z Z R0 m0 (Sv ++ regsOf [o.t0, o.t1]) [] (o.run S R m).2.2.1 (o.run S R m).2.2.2 (stepF (lastF L 0) L.length base a o) R8' m8') := by
  obtain ⟨r1, r2⟩ := Tryd.opOk_regs ho.ok
  have l4 := regsOf_le4 o.f0 o.f1 o.f2 o.f3
  have l2 := regsOf_le2 o.t0 o.t1
  have hf := hI.fine
  have hlast : ∀ v, ∀ i ∈ lastF L 0 v, i < (L.length : Int) := fun v i hi => by have := lastF_lt L 0 v i hi; omega
  have hnow : ∀ v ∈ regsOf [o.f0, o.f1, o.f2, o.f3], nextF L.length a.pos (lastF L 0 v) < L.length := fun v hv => by
    refine (nextF_lt (hlast v)).2 ⟨Pr.length, ?_, by rw [hI.pos]; omega⟩
    have hj : Pr.length < L.length := by rw [hL]; simp
    have he : L[Pr.length] = o := by simp [hL]
    have := lastF_mem L 0 v Pr.length hj (by rw [he]; exact hv)
    simpa using this
  obtain ⟨nx, hnx⟩ : ∃ nx : Int → Int, nx = fun v => nextF L.length a.pos (lastF L 0 v) := ⟨_, rfl⟩
  have f1 := readF_fine (nx := nx) (base := base) (pins := regsOf [o.f0, o.f1, o.f2, o.f3]) _ hf r1
  have g1 := InG.read (nx := nx) (base := base) (pins := regsOf [o.f0, o.f1, o.f2, o.f3]) _ hI.inG ho.u
  have hU : ∀ v ∈ regsOf [o.f0, o.f1, o.f2, o.f3], v ∈ Sv ∧ v ∈ regsOf [o.f0, o.f1, o.f2, o.f3] ∧ nextF L.length a.pos (lastF L 0 v) < L.length ∧ 0 ≤ v ∧ v ≤ 65535 := fun v hv => ⟨ho.u v hv, hv, hnow v hv, r1 v hv⟩
  obtain ⟨i1, mm1, _⟩ := readF_inv (nx := nx) (pins := regsOf [o.f0, o.f1, o.f2, o.f3]) (by omega) _ hf hI.inv hU
  have i2 := setF_inv (nx := nx) (pins := regsOf [o.f0, o.f1, o.f2, o.f3] ++ regsOf [o.t0, o.t1]) (by simp; omega) (regsOf [o.t0, o.t1]) (Q := []) [] f1 g1 r2 ho.n ho.w i1
  have fi2 := setF_fine (nx := nx) (base := base) (pins := regsOf [o.f0, o.f1, o.f2, o.f3] ++ regsOf [o.t0, o.t1]) (regsOf [o.t0, o.t1]) [] f1 g1 r2 ho.n ho.w
  have hs1 : (setF nx base (regsOf [o.f0, o.f1, o.f2, o.f3] ++ regsOf [o.t0, o.t1]) (regsOf [o.t0, o.t1]) (readF nx base (regsOf [o.f0, o.f1, o.f2, o.f3]) (regsOf [o.f0, o.f1, o.f2, o.f3]) a) []).1.slots ≤ Z := by rw [hnx]; exact hs
  have hs0 := setF_slots (nx := nx) (base := base) (pins := regsOf [o.f0, o.f1, o.f2, o.f3] ++ regsOf [o.t0, o.t1]) (regsOf [o.t0, o.t1]) (readF nx base (regsOf [o.f0, o.f1, o.f2, o.f3]) (regsOf [o.f0, o.f1, o.f2, o.f3]) a) []
  obtain ⟨Ra, ma, hA⟩ := Sim.read (nx := nx) (pins := regsOf [o.f0, o.f1, o.f2, o.f3]) (by omega) hz hZ (regsOf [o.f0, o.f1, o.f2, o.f3]) hf hI.inG hI.inv hU h (Int.le_trans hs0 hs1)
  have hstep : stepF (lastF L 0) L.length base a o = endF (lastF L 0) L.length { (setF nx base (regsOf [o.f0, o.f1, o.f2, o.f3] ++ regsOf [o.t0, o.t1]) (regsOf [o.t0, o.t1]) (readF nx base (regsOf [o.f0, o.f1, o.f2, o.f3]) (regsOf [o.f0, o.f1, o.f2, o.f3]) a) []).1 with
      out := (setF nx base (regsOf [o.f0, o.f1, o.f2, o.f3] ++ regsOf [o.t0, o.t1]) (regsOf [o.t0, o.t1]) (readF nx base (regsOf [o.f0, o.f1, o.f2, o.f3]) (regsOf [o.f0, o.f1, o.f2, o.f3]) a) []).1.out ++
        [⟨o.K, padV (setF nx base (regsOf [o.f0, o.f1, o.f2, o.f3] ++ regsOf [o.t0, o.t1]) (regsOf [o.t0, o.t1]) (readF nx base (regsOf [o.f0, o.f1, o.f2, o.f3]) (regsOf [o.f0, o.f1, o.f2, o.f3]) a) []).2 0, padV (setF nx base (regsOf [o.f0, o.f1, o.f2, o.f3] ++ regsOf [o.t0, o.t1]) (regsOf [o.t0, o.t1]) (readF nx base (regsOf [o.f0, o.f1, o.f2, o.f3]) (regsOf [o.f0, o.f1, o.f2, o.f3]) a) []).2 1,
          padV ((regsOf [o.f0, o.f1, o.f2, o.f3]).map fun v => idxV (readF nx base (regsOf [o.f0, o.f1, o.f2, o.f3]) (regsOf [o.f0, o.f1, o.f2, o.f3]) a).G v 0) 0, padV ((regsOf [o.f0, o.f1, o.f2, o.f3]).map fun v => idxV (readF nx base (regsOf [o.f0, o.f1, o.f2, o.f3]) (regsOf [o.f0, o.f1, o.f2, o.f3]) a).G v 0) 1,
          padV ((regsOf [o.f0, o.f1, o.f2, o.f3]).map fun v => idxV (readF nx base (regsOf [o.f0, o.f1, o.f2, o.f3]) (regsOf [o.f0, o.f1, o.f2, o.f3]) a).G v 0) 2, padV ((regsOf [o.f0, o.f1, o.f2, o.f3]).map fun v => idxV (readF nx base (regsOf [o.f0, o.f1, o.f2, o.f3]) (regsOf [o.f0, o.f1, o.f2, o.f3]) a).G v 0) 3, o.N⟩] } := by rw [hnx]; rfl
  rw [hstep]
  generalize readF nx base (regsOf [o.f0, o.f1, o.f2, o.f3]) (regsOf [o.f0, o.f1, o.f2, o.f3]) a = s1 at f1 g1 i1 mm1 i2 fi2 hs1 hs0 hA ⊢
  obtain ⟨mb, P, b1, b2, b3, b4, _⟩ := Sim.set (nx := nx) (pins := regsOf [o.f0, o.f1, o.f2, o.f3] ++ regsOf [o.t0, o.t1]) (by simp; omega) hz hZ (W0 := regsOf [o.t0, o.t1]) (fun x hx => List.mem_append.2 (.inr hx)) (regsOf [o.t0, o.t1]) [] f1 (fun x hx => (g1 x hx).imp id .inl)
    (fun x hx => ⟨hx, fun e => by
      rcases g1 x e with e1 | e1
      · have := r2 x hx; omega
      · exact ho.w x hx e1, r2 x hx⟩) ho.n (hA.mono (by simp)) hs1
  rw [List.nil_append] at b2
  rw [b2]
  have htn := i2.tn
  generalize (setF nx base (regsOf [o.f0, o.f1, o.f2, o.f3] ++ regsOf [o.t0, o.t1]) (regsOf [o.t0, o.t1]) s1 []).1 = s2 at i2 fi2 hs1 hs0 b1 b4 htn ⊢
  obtain ⟨c1, c2, c3, c4⟩ := Sim.op (P := P) (F := (regsOf [o.f0, o.f1, o.f2, o.f3]).map fun v => idxV s1.G v 0) ho b1 (by rw [List.length_map]) (fun i u f hu hfi => by
      rw [List.getElem?_map, hu] at hfi
      simp only [Option.map_some, Option.some.injEq] at hfi
      subst hfi
      have hum := List.mem_of_getElem? hu
      have hi0 := (idxV_mem s1.G u 0).2 (mm1 u hum)
      have hib := idxV_bd s1.G u 0
      have h8 := f1.g8
      have hl : (idxV s1.G u 0).toNat < s1.G.length := by omega
      have hat := idxV_at s1.G u 0 _ hl (by omega)
      have hv := hA.g _ hl (by rw [hat]; have := (r1 u hum).1; omega) (by simp)
      rw [hat] at hv
      exact ⟨hi0, by omega, hv⟩) b3 b4 fi2.1 hR hn (by omega) rfl
  refine ⟨_, _, ?_, c3, fun h1 h2 => (c4 h1 h2).ends⟩
  show runM S (s2.out ++ [_]) R0 m0 = _
  rw [runM_app S _ _ _ _ _ _ b1.run, runM_one]
  exact Prod.ext c1 (Prod.ext c2 rfl)
end Go.Proofs.YtmkencdkglbpbaaDoor
set_option maxRecDepth 100000
set_option linter.unusedVariables false
namespace Go.Proofs.YtmkencdkglbpbaaDoor
open Go.RowKit

theorem app_out {a b c t B1 B2 : List Op8} (h1 : a = b ++ B1) (h2 : c = a ++ t ++ B2) : ∃ B, c = b ++ B := ⟨B1 ++ t ++ B2, by rw [h2, h1]; simp⟩
theorem spillF_out (base : Int) (s : AS) (v : Int) : ∃ B, (spillF base s v).out = s.out ++ B := by
  unfold spillF
  split
  · exact ⟨[], by simp⟩
  · exact ⟨_, rfl⟩
theorem takeF_out (nx : Int → Int) (base : Int) (pins : List Int) (s : AS) (v : Int) : ∃ B, (takeF nx base pins s v).out = s.out ++ B := by
  unfold takeF
  simp only
  split
  · exact spillF_out _ _ _
  · exact ⟨[], by simp⟩
theorem readF_out (nx : Int → Int) (base : Int) (pins : List Int) : ∀ (U : List Int) (s : AS), ∃ B, (readF nx base pins U s).out = s.out ++ B
  | [], s => ⟨[], by simp [readF]⟩
  | v :: U, s => by
    unfold readF
    split
    · obtain ⟨B1, h1⟩ := takeF_out nx base pins s v
      simp only
      obtain ⟨B2, h2⟩ := readF_out nx base pins U { takeF nx base pins s v with out := (takeF nx base pins s v).out ++ [⟨2, pickF nx pins s, -1, -1, -1, -1, -1, base + 4 * max (idxV (takeF nx base pins s v).T v 0) 0⟩] }
      exact app_out h1 h2
    · exact readF_out nx base pins U s
theorem setF_out (nx : Int → Int) (base : Int) (pins : List Int) : ∀ (W : List Int) (s : AS) (tt : List Int), ∃ B, (setF nx base pins W s tt).1.out = s.out ++ B
  | [], s, tt => ⟨[], by simp [setF]⟩
  | v :: W, s, tt => by
    unfold setF
    obtain ⟨B1, h1⟩ := takeF_out nx base pins s v
    obtain ⟨B2, h2⟩ := setF_out nx base pins W (takeF nx base pins s v) (tt ++ [pickF nx pins s])
    exact ⟨B1 ++ B2, by rw [h2, h1, List.append_assoc]⟩
theorem stepF_out (last : Int → List Int) (n base : Int) (s : AS) (o : Op8) : ∃ B, (stepF last n base s o).out = s.out ++ B := by
  unfold stepF
  simp only
  obtain ⟨B1, h1⟩ := readF_out (fun v => nextF n s.pos (last v)) base (regsOf [o.f0, o.f1, o.f2, o.f3]) (regsOf [o.f0, o.f1, o.f2, o.f3]) s
  obtain ⟨B2, h2⟩ := setF_out (fun v => nextF n s.pos (last v)) base (regsOf [o.f0, o.f1, o.f2, o.f3] ++ regsOf [o.t0, o.t1]) (regsOf [o.t0, o.t1]) (readF (fun v => nextF n s.pos (last v)) base (regsOf [o.f0, o.f1, o.f2, o.f3]) (regsOf [o.f0, o.f1, o.f2, o.f3]) s) []
  exact app_out (B1 := B1 ++ B2) (B2 := []) (h2.trans (by rw [h1, List.append_assoc])) (List.append_nil _).symm
theorem runF_out (last : Int → List Int) (n base : Int) : ∀ (l : List Op8) (s : AS), ∃ B, (runF last n base l s).out = s.out ++ B
  | [], s => ⟨[], by simp [runF]⟩
  | o :: l, s => by
    rw [runF]
    split
    · obtain ⟨B1, h1⟩ := stepF_out last n base s o
      obtain ⟨B2, h2⟩ := runF_out last n base l (stepF last n base s o)
      exact ⟨B1 ++ B2, by rw [h2, h1, List.append_assoc]⟩
    · exact runF_out last n base l s
theorem stepF_slots (last : Int → List Int) (n base : Int) (s : AS) (o : Op8) : s.slots ≤ (stepF last n base s o).slots := by
  unfold stepF
  simp only
  exact Int.le_trans (readF_slots (nx := fun v => nextF n s.pos (last v)) (base := base) (pins := regsOf [o.f0, o.f1, o.f2, o.f3]) (regsOf [o.f0, o.f1, o.f2, o.f3]) s) (setF_slots _ _ _)
theorem runF_slots (last : Int → List Int) (n base : Int) : ∀ (l : List Op8) (s : AS), s.slots ≤ (runF last n base l s).slots
  | [], s => Int.le_refl _
  | o :: l, s => by
    rw [runF]
    split
    · exact Int.le_trans (stepF_slots last n base s o) (runF_slots last n base l _)
    · exact runF_slots last n base l s
theorem run_len (o : Op8) (S : Int) (R : List Int) (m : Nat → Int) : (o.run S R m).2.2.1.length = R.length := by
  unfold Op8.run
  cases hr : reachV R o.t0 o.t1 o.f0 o.f1 o.f2 o.f3
  · unfold doM; rw [if_pos hr]
  · rw [doM_eff o.K o.t0 o.t1 o.f0 o.f1 o.f2 o.f3 o.N S R m hr (rv R (regsOf [o.f0, o.f1, o.f2, o.f3])) (fun _ => rfl)]
    exact putV_length _ _ _ _
/-- No operation comes to the slots, up to the first that traps. -/
def noTouch (S : Int) (z Z : Nat) : List Op8 → List Int → (Nat → Int) → Prop
  | [], _, _ => True
  | o :: l, R, m => ¬ touchM o.K o.N S (rv R (regsOf [o.f0, o.f1, o.f2, o.f3]) 0) (rv R (regsOf [o.f0, o.f1, o.f2, o.f3]) 1) z Z ∧ ((o.run S R m).1 = 0 → (o.run S R m).2.1 = 0 → noTouch S z Z l (o.run S R m).2.2.1 (o.run S R m).2.2.2)
theorem Sim.run_all {L : List Op8} {S base : Int} {z Z : Nat} {R0 : List Int} {m0 : Nat → Int} (hz : S + base = 536870912 + 4 * (z : Int)) (hZ : z + Z ≤ 16384) : ∀ (l Pr : List Op8) (Sv : List Int) (a : AS) (R : List Int) (m : Nat → Int) (R8 : List Int) (m8 : Nat → Int), L = Pr ++ l → listV Sv l = true → RunI L Pr base Sv a →
    Sim S z Z R0 m0 Sv [] R m a R8 m8 → (runF (lastF L 0) L.length base l a).e = 0 → (runF (lastF L 0) L.length base l a).slots ≤ Z → (∀ o ∈ l, ∀ x ∈ regsOf [o.f0, o.f1, o.f2, o.f3] ++ regsOf [o.t0, o.t1], x < (R.length : Int)) → noTouch S z Z l R m →
    ∃ R8' m8', runM S (runF (lastF L 0) L.length base l a).out R0 m0 = ((runM S l R m).1, (runM S l R m).2.1, R8', m8') ∧ ∀ j, ¬ (z ≤ j ∧ j < z + Z) → m8' j = (runM S l R m).2.2.2 j
  | [], Pr, Sv, a, R, m, R8, m8, hL, hv, hI, h, he, hs, hR, hn => ⟨R8, m8, by rw [runF, runM]; exact h.run, h.o⟩
  | o :: l, Pr, Sv, a, R, m, R8, m8, hL, hv, hI, h, he, hs, hR, hn => by
    obtain ⟨ho, hv'⟩ := listV_cons hv
    rw [runF] at he hs ⊢
    by_cases hae : a.e = 0
    · rw [if_pos hae] at he hs ⊢
      obtain ⟨R8', m8', h1, h2, h3⟩ := Sim.step hz hZ hI hL ho h (Int.le_trans (runF_slots _ _ _ l _) hs) (hR o (by simp)) hn.1
      rw [runM]
      by_cases ht : (o.run S R m).1 ≠ 0 ∨ (o.run S R m).2.1 ≠ 0
      · rw [if_pos ht]
        obtain ⟨B, hB⟩ := runF_out (lastF L 0) L.length base l (stepF (lastF L 0) L.length base a o)
        refine ⟨R8', m8', ?_, h2⟩
        rw [hB, runM_trap S _ B R0 m0 (by rw [h1]; exact ht)]
        exact h1
      · rw [if_neg ht]
        simp only [not_or, Decidable.not_not] at ht
        exact Sim.run_all hz hZ l (Pr ++ [o]) _ _ _ _ R8' m8' (by simp [hL]) hv' (hI.step hL ho) (h3 ht.1 ht.2) he hs (fun o2 ho2 x hx => by rw [run_len]; exact hR o2 (by simp [ho2]) x hx) (hn.2 ht.1 ht.2)
    · rw [if_neg hae, runF_stuck l a hae] at he
      exact absurd he hae
/-- The law: what Alloc puts out does over eight registers what the list did over many, but for the slots. -/
theorem alloc_runs {L : List Op8} {S base : Int} (hok : (allocF L base).2.2 = 0) (hS : 536870912 ≤ S ∧ S ≤ 536870912 + 65536 - 4096 ∧ S % 4 = 0) (R : List Int) (hR0 : ∀ x ∈ R, x = 0) (hR : ∀ o ∈ L, ∀ x ∈ regsOf [o.f0, o.f1, o.f2, o.f3] ++ regsOf [o.t0, o.t1], x < (R.length : Int)) (m : Nat → Int) {z Z : Nat} (hz : S + base = 536870912 + 4 * (z : Int)) (hZe : (allocF L base).2.1 = Z)
    (hn : noTouch S z Z L R m) : ∃ R8' m8', runM S (allocF L base).1 [0, 0, 0, 0, 0, 0, 0, 0] m = ((runM S L R m).1, (runM S L R m).2.1, R8', m8') ∧ ∀ j, ¬ (z ≤ j ∧ j < z + Z) → m8' j = (runM S L R m).2.2.2 j := by
  obtain ⟨hv, hb0, hb1, hb4, s, Sv, hse, hI, he, ha⟩ := allocF_ok hok
  rw [ha] at hZe ⊢
  simp only at hZe ⊢
  have hlow := hI.inv.low he
  have := Sim.run_all (L := L) (R0 := [0, 0, 0, 0, 0, 0, 0, 0]) (m0 := m) hz (show z + Z ≤ 16384 by omega) L [] [] AS0 R m [0, 0, 0, 0, 0, 0, 0, 0] m rfl hv (runI0 hb1)
    { run := rfl, l8 := rfl, g := fun i hi hne _ => by
        exfalso
        have hi' : i < 8 := hi
        rcases (show i = 0 ∨ i = 1 ∨ i = 2 ∨ i = 3 ∨ i = 4 ∨ i = 5 ∨ i = 6 ∨ i = 7 by omega) with rfl | rfl | rfl | rfl | rfl | rfl | rfl | rfl <;> exact hne rfl
      t := fun i hi _ => by simp [AS0] at hi
      tS := fun x hx => by simp [AS0] at hx
      o := fun _ _ => rfl } (by rw [← hse]; exact he) (by rw [← hse]; omega) hR hn
  rw [← hse] at this
  exact this
end Go.Proofs.YtmkencdkglbpbaaDoor
set_option maxRecDepth 100000
set_option linter.unusedVariables false
namespace Go.Proofs.YtmkencdkglbpbaaDoor
open Go.RowKit

theorem spillF_lenO (base : Int) (s : AS) (v : Int) : (spillF base s v).out.length ≤ s.out.length + 1 := by
  unfold spillF
  split
  · omega
  · simp
theorem takeF_lenO (nx : Int → Int) (base : Int) (pins : List Int) (s : AS) (v : Int) : (takeF nx base pins s v).out.length ≤ s.out.length + 1 := by
  unfold takeF
  simp only
  split
  · exact spillF_lenO _ _ _
  · omega
theorem readF_lenO (nx : Int → Int) (base : Int) (pins : List Int) : ∀ (U : List Int) (s : AS), (readF nx base pins U s).out.length ≤ s.out.length + 2 * U.length
  | [], s => by simp [readF]
  | v :: U, s => by
    unfold readF
    split
    · simp only
      refine Nat.le_trans (readF_lenO nx base pins U _) ?_
      have := takeF_lenO nx base pins s v
      simp only [List.length_append, List.length_cons, List.length_nil]
      omega
    · refine Nat.le_trans (readF_lenO nx base pins U s) ?_
      simp only [List.length_cons]; omega
theorem setF_lenO (nx : Int → Int) (base : Int) (pins : List Int) : ∀ (W : List Int) (s : AS) (tt : List Int), (setF nx base pins W s tt).1.out.length ≤ s.out.length + W.length
  | [], s, tt => by simp [setF]
  | v :: W, s, tt => by
    unfold setF
    refine Nat.le_trans (setF_lenO nx base pins W _ _) ?_
    have := takeF_lenO nx base pins s v
    simp only [List.length_cons]; omega
theorem stepF_lenO (last : Int → List Int) (n base : Int) (s : AS) (o : Op8) : (stepF last n base s o).out.length ≤ s.out.length + 11 := by
  unfold stepF endF
  simp only [List.length_append, List.length_cons, List.length_nil]
  have h1 := readF_lenO (fun v => nextF n s.pos (last v)) base (regsOf [o.f0, o.f1, o.f2, o.f3]) (regsOf [o.f0, o.f1, o.f2, o.f3]) s
  have h2 := setF_lenO (fun v => nextF n s.pos (last v)) base (regsOf [o.f0, o.f1, o.f2, o.f3] ++ regsOf [o.t0, o.t1]) (regsOf [o.t0, o.t1]) (readF (fun v => nextF n s.pos (last v)) base (regsOf [o.f0, o.f1, o.f2, o.f3]) (regsOf [o.f0, o.f1, o.f2, o.f3]) s) []
  have h3 := regsOf_le4 o.f0 o.f1 o.f2 o.f3
  have h4 := regsOf_le2 o.t0 o.t1
  omega
theorem runF_lenO (last : Int → List Int) (n base : Int) : ∀ (l : List Op8) (s : AS), (runF last n base l s).out.length ≤ s.out.length + 11 * l.length
  | [], s => by simp [runF]
  | o :: l, s => by
    rw [runF]
    refine Nat.le_trans (runF_lenO last n base l _) ?_
    have := stepF_lenO last n base s o
    split <;> simp only [List.length_cons] <;> omega

/-- The registers that a list sets reach as far. -/
def maxTo : List Op8 → Int → Int
  | [], r => r
  | o :: l, r => maxTo l (max (max r (o.t0 + 1)) (o.t1 + 1))
theorem maxTo_ge : ∀ (l : List Op8) (r : Int), r ≤ maxTo l r
  | [], r => Int.le_refl _
  | o :: l, r => by rw [maxTo]; have := maxTo_ge l (max (max r (o.t0 + 1)) (o.t1 + 1)); omega
theorem maxTo_all : ∀ (l : List Op8) (r : Int), ∀ o ∈ l, o.t0 < maxTo l r ∧ o.t1 < maxTo l r
  | o :: l, r, p, hp => by
    rw [maxTo]
    rcases List.mem_cons.1 hp with rfl | hp
    · have := maxTo_ge l (max (max r (p.t0 + 1)) (p.t1 + 1)); omega
    · exact maxTo_all l _ p hp
theorem maxTo_take {L : List Op8} {k : Nat} (hk : k < L.length) : ∀ (r : Int), maxTo (L.take (k + 1)) r = max (max (maxTo (L.take k) r) (L[k].t0 + 1)) (L[k].t1 + 1) := by
  induction L generalizing k with
  | nil => simp at hk
  | cons o l ih =>
    intro r
    cases k with
    | zero => simp [maxTo]
    | succ k =>
      simp only [List.length_cons] at hk
      rw [List.take_succ_cons, List.take_succ_cons, maxTo, maxTo, List.getElem_cons_succ]
      exact ih (by omega) _
theorem maxTo_le {M : Int} : ∀ (l : List Op8) (r : Int), r ≤ M → (∀ o ∈ l, o.t0 < M ∧ o.t1 < M) → maxTo l r ≤ M
  | [], r, h, _ => h
  | o :: l, r, h, ho => by
    rw [maxTo]
    have := ho o (by simp)
    exact maxTo_le l _ (by omega) fun p hp => ho p (by simp [hp])
theorem mem_regs2 {x a b : Int} (h : x ∈ regsOf [a, b]) : x = a ∨ x = b := by
  unfold regsOf at h
  have := (List.mem_filter.1 h).1
  simpa using this
theorem uses_lt {M : Int} : ∀ (l : List Op8) (S : List Int), listV S l = true → (∀ x ∈ S, x < M) → (∀ o ∈ l, o.t0 < M ∧ o.t1 < M) → ∀ o ∈ l, ∀ x ∈ regsOf [o.f0, o.f1, o.f2, o.f3] ++ regsOf [o.t0, o.t1], x < M
  | p :: l, S, hv, hS, ht, o, ho, x, hx => by
    obtain ⟨h1, h2⟩ := listV_cons hv
    have hp := ht p (by simp)
    have hW : ∀ y ∈ regsOf [p.t0, p.t1], y < M := fun y hy => (mem_regs2 hy).elim (fun e => by rw [e]; exact hp.1) (fun e => by rw [e]; exact hp.2)
    rcases List.mem_cons.1 ho with rfl | ho
    · rcases List.mem_append.1 hx with hx | hx
      · exact hS x (h1.u x hx)
      · exact hW x hx
    · exact uses_lt l _ h2 (fun y hy => (List.mem_append.1 hy).elim (hS y) (hW y)) (fun q hq => ht q (by simp [hq])) o ho x hx
theorem tos_bd {o : Op8} (h : rightV o.K o.t0 o.t1 o.f0 o.f1 o.f2 o.f3 o.N = true) : (-1 ≤ o.t0 ∧ o.t0 ≤ 65535) ∧ (-1 ≤ o.t1 ∧ o.t1 ≤ 65535) := by
  obtain ⟨k, _, R⟩ := rightOp_of h
  have b0 := (okAt_iff _ _ _).1 R.pt0
  have b1 := (okAt_iff _ _ _).1 R.pt1
  omega
/-- What the walk needs of a list that Alloc took. -/
structure Took (L : List Op8) (base : Int) (O : List Op8) (Z : Nat) : Prop where
  ok : ∀ o ∈ O, o.ok
  len : O.length ≤ 11 * L.length
  b0 : 0 ≤ base
  b1 : base ≤ 1020
  b4 : base % 4 = 0
  low : base + 4 * (Z : Int) ≤ 1024
  lok : ∀ o ∈ L, o.ok
  tos : ∀ o ∈ L, (-1 ≤ o.t0 ∧ o.t0 ≤ 65535) ∧ (-1 ≤ o.t1 ∧ o.t1 ≤ 65535)
  reg : ∀ o ∈ L, ∀ x ∈ regsOf [o.f0, o.f1, o.f2, o.f3] ++ regsOf [o.t0, o.t1], x < maxTo L 0
  runs : ∀ (S : Int) (R : List Int) (m : Nat → Int) (z : Nat), 536870912 ≤ S ∧ S ≤ 536870912 + 65536 - 4096 ∧ S % 4 = 0 → (∀ x ∈ R, x = 0) → maxTo L 0 ≤ (R.length : Int) → S + base = 536870912 + 4 * (z : Int) → noTouch S z Z L R m →
    ∃ R8' m8', runM S O [0, 0, 0, 0, 0, 0, 0, 0] m = ((runM S L R m).1, (runM S L R m).2.1, R8', m8') ∧ ∀ j, ¬ (z ≤ j ∧ j < z + Z) → m8' j = (runM S L R m).2.2.2 j
theorem allocF_took {L : List Op8} {base : Int} (h : (allocF L base).2.2 = 0) (hN : ∀ o ∈ L, 0 ≤ o.N ∧ o.N < 4294967296) : ∃ Z : Nat, (allocF L base).2.1 = Z ∧ Took L base (allocF L base).1 Z := by
  have p2 := allocF_eight h
  obtain ⟨hlv, q0, q1, q4, s, S, hs, hR, he, hr⟩ := allocF_ok h
  have hlow := hR.inv.low he
  have hbd := weave_bd q0 hlow hR.inv.wv hN
  have htn := hR.inv.tn
  have hreg := uses_lt L [] hlv (by simp) (maxTo_all L 0)
  refine ⟨s.slots.toNat, by rw [hr]; simp only; omega, ?_, ?_, q0, q1, q4, by omega, fun o ho => ⟨listV_all hlv ho, hN o ho⟩, fun o ho => tos_bd (listV_all hlv ho), hreg, ?_⟩
  · intro o ho
    have h8 := p2 o ho
    rw [hr] at ho
    exact ⟨h8.ok, hbd o ho⟩
  · rw [hr]
    simp only
    rw [hs]
    have := runF_lenO (lastF L 0) L.length base L AS0
    simpa [AS0] using this
  · intro S R m z hS hR0 hm hz hn
    exact alloc_runs h hS R hR0 (fun o ho x hx => by have := hreg o ho x hx; omega) m hz (by rw [hr]; simp only; omega) hn
end Go.Proofs.YtmkencdkglbpbaaDoor
