/- vop: what an operation that does not come to memory does; two that stand apart change places. Plain. -/
import Derived.Test.YtmkencdkglbpbaaDoorVopT
import Derived.Test.YtmkencdkglbpbaaDoorVopQ
set_option maxRecDepth 100000
namespace Go.Proofs.YtmkencdkglbpbaaDoor
open Go.RowKit

/-- What an operation that does not come to memory traps with, and what it writes. -/
def resV (K N v0 v1 v2 v3 : Int) : Int × Option (Int × Int) :=
  if K = 30 then (truthV (decide (N ≤ v0)), none)
  else if K = 31 then (2 * truthV (v0 == 0), none)
  else if (pairsV K v0 v1 (v1 * 4294967296 + v0) (v3 * 4294967296 + v2)).2 = true then (0, some ((pairsV K v0 v1 (v1 * 4294967296 + v0) (v3 * 4294967296 + v2)).1 % 4294967296, (pairsV K v0 v1 (v1 * 4294967296 + v0) (v3 * 4294967296 + v2)).1 / 4294967296))
  else if (sumsV K N v0 v1 v2).2 = true then (0, some ((sumsV K N v0 v1 v2).1, 0))
  else (0, some (logicV K N v0 v1, 0))
/-- Are all registers there? -/
def reachV (R : List Int) (t0 t1 f0 f1 f2 f3 : Int) : Bool := (regsOf [f0, f1, f2, f3] ++ regsOf [t0, t1]).all fun x => decide (x < R.length)
/-- The registers behind it. -/
def putV (R : List Int) (t0 t1 : Int) : Option (Int × Int) → List Int
  | none => R
  | some (lo, hi) => wroteV R t0 t1 lo hi
/-- What Do does: what it traps with, its error, the registers behind it. -/
def doV (K t0 t1 f0 f1 f2 f3 N : Int) (R : List Int) : Int × Int × List Int :=
  if reachV R t0 t1 f0 f1 f2 f3 = false then (0, 11, R)
  else
    ((resV K N (rv R (regsOf [f0, f1, f2, f3]) 0) (rv R (regsOf [f0, f1, f2, f3]) 1) (rv R (regsOf [f0, f1, f2, f3]) 2) (rv R (regsOf [f0, f1, f2, f3]) 3)).1, 0,
     putV R t0 t1 (resV K N (rv R (regsOf [f0, f1, f2, f3]) 0) (rv R (regsOf [f0, f1, f2, f3]) 1) (rv R (regsOf [f0, f1, f2, f3]) 2) (rv R (regsOf [f0, f1, f2, f3]) 3)).2)

theorem putV_length (R : List Int) (t0 t1 : Int) (o : Option (Int × Int)) : (putV R t0 t1 o).length = R.length := by
  cases o with
  | none => rfl
  | some p => obtain ⟨lo, hi⟩ := p; simp only [putV, wroteV]; split <;> simp
theorem doV_length (K t0 t1 f0 f1 f2 f3 N : Int) (R : List Int) : (doV K t0 t1 f0 f1 f2 f3 N R).2.2.length = R.length := by
  unfold doV; split
  · rfl
  · exact putV_length _ _ _ _
theorem reachV_length {R R' : List Int} (h : R.length = R'.length) (t0 t1 f0 f1 f2 f3 : Int) : reachV R t0 t1 f0 f1 f2 f3 = reachV R' t0 t1 f0 f1 f2 f3 := by unfold reachV; rw [h]
/-- A register that is not written is as it was. -/
theorem putV_other (R : List Int) (t0 t1 : Int) (o : Option (Int × Int)) (ht0 : 0 ≤ t0 ∨ o = none) (ht1 : t1 = -1 ∨ 0 ≤ t1) (x : Int) (hx : 0 ≤ x) (h0 : x ≠ t0) (h1 : x ≠ t1) (d : Int) : (putV R t0 t1 o).getD x.toNat d = R.getD x.toNat d := by
  cases o with
  | none => rfl
  | some p =>
    obtain ⟨lo, hi⟩ := p
    have h0' : 0 ≤ t0 := by rcases ht0 with h | h; exact h; cases h
    have n0 : t0.toNat ≠ x.toNat := by omega
    simp only [putV, wroteV]
    split
    · simp [List.getD_eq_getElem?_getD, List.getElem?_set_ne n0]
    · rename_i hn
      have n1 : t1.toNat ≠ x.toNat := by omega
      simp [List.getD_eq_getElem?_getD, List.getElem?_set_ne n0, List.getElem?_set_ne n1]
theorem rv_congr (R R' F : List Int) (hF : ∀ x ∈ F, R'.getD x.toNat 0 = R.getD x.toNat 0) (i : Nat) : rv R' F i = rv R F i := by
  unfold rv
  cases h : F[i]? with
  | none => rfl
  | some r => exact hF r (List.mem_of_getElem? h)
theorem set_two (R : List Int) (a b : Nat) (x y : Int) (h : a ≠ b) : (R.set a x).set b y = (R.set b y).set a x := List.set_comm _ _ h
theorem putV_comm (R : List Int) (a0 a1 b0 b1 : Int) (o p : Option (Int × Int)) (ha0 : 0 ≤ a0 ∨ o = none) (hb0 : 0 ≤ b0 ∨ p = none) (ha1 : a1 = -1 ∨ 0 ≤ a1) (hb1 : b1 = -1 ∨ 0 ≤ b1)
    (h00 : 0 ≤ a0 → a0 ≠ b0) (h01 : 0 ≤ a0 → a0 ≠ b1) (h10 : 0 ≤ a1 → a1 ≠ b0) (h11 : 0 ≤ a1 → a1 ≠ b1) : putV (putV R a0 a1 o) b0 b1 p = putV (putV R b0 b1 p) a0 a1 o := by
  cases o with
  | none => rfl
  | some o =>
    cases p with
    | none => rfl
    | some p =>
      obtain ⟨x, y⟩ := o
      obtain ⟨z, u⟩ := p
      have ha0' : 0 ≤ a0 := by rcases ha0 with h | h; exact h; cases h
      have hb0' : 0 ≤ b0 := by rcases hb0 with h | h; exact h; cases h
      have n00 : a0.toNat ≠ b0.toNat := by have := h00 ha0'; omega
      simp only [putV, wroteV]
      by_cases e1 : a1 = -1
      · by_cases e2 : b1 = -1
        · simp only [e1, e2, if_true]
          exact set_two _ _ _ _ _ n00
        · have n01 : a0.toNat ≠ b1.toNat := by have := h01 ha0'; omega
          simp only [e1, e2, if_true, if_false]
          rw [set_two R _ _ x z n00, set_two _ _ _ x u n01]
      · have n10 : a1.toNat ≠ b0.toNat := by have := h10 (by omega); omega
        by_cases e2 : b1 = -1
        · simp only [e1, e2, if_true, if_false]
          rw [set_two _ _ _ y z n10, set_two _ _ _ x z n00]
        · have n01 : a0.toNat ≠ b1.toNat := by have := h01 ha0'; omega
          have n11 : a1.toNat ≠ b1.toNat := by have := h11 (by omega); omega
          simp only [e1, e2, if_false]
          rw [set_two _ _ _ y z n10, set_two _ _ _ y u n11, set_two _ _ _ x z n00, set_two _ _ _ x u n01]

/-- Two operations that stand apart change places. -/
theorem doV_apart (K s0 s1 a0 a1 a2 a3 N K' t0 t1 b0 b1 b2 b3 N' : Int) (R : List Int)
    (hs0 : 0 ≤ s0 ∨ ∀ v0 v1 v2 v3, (resV K N v0 v1 v2 v3).2 = none) (ht0 : 0 ≤ t0 ∨ ∀ v0 v1 v2 v3, (resV K' N' v0 v1 v2 v3).2 = none) (hs1 : s1 = -1 ∨ 0 ≤ s1) (ht1 : t1 = -1 ∨ 0 ≤ t1)
    (ha : ∀ x ∈ regsOf [a0, a1, a2, a3], 0 ≤ x) (hb : ∀ x ∈ regsOf [b0, b1, b2, b3], 0 ≤ x)
    (h1 : ∀ t ∈ regsOf [s0, s1], ∀ x ∈ regsOf [t0, t1] ++ regsOf [b0, b1, b2, b3], t ≠ x) (h2 : ∀ t ∈ regsOf [t0, t1], ∀ x ∈ regsOf [a0, a1, a2, a3], t ≠ x) :
    (doV K s0 s1 a0 a1 a2 a3 N R).1 = (doV K s0 s1 a0 a1 a2 a3 N (doV K' t0 t1 b0 b1 b2 b3 N' R).2.2).1 ∧
    (doV K s0 s1 a0 a1 a2 a3 N R).2.1 = (doV K s0 s1 a0 a1 a2 a3 N (doV K' t0 t1 b0 b1 b2 b3 N' R).2.2).2.1 ∧
    (doV K' t0 t1 b0 b1 b2 b3 N' (doV K s0 s1 a0 a1 a2 a3 N R).2.2).1 = (doV K' t0 t1 b0 b1 b2 b3 N' R).1 ∧
    (doV K' t0 t1 b0 b1 b2 b3 N' (doV K s0 s1 a0 a1 a2 a3 N R).2.2).2.1 = (doV K' t0 t1 b0 b1 b2 b3 N' R).2.1 ∧
    (doV K' t0 t1 b0 b1 b2 b3 N' (doV K s0 s1 a0 a1 a2 a3 N R).2.2).2.2 = (doV K s0 s1 a0 a1 a2 a3 N (doV K' t0 t1 b0 b1 b2 b3 N' R).2.2).2.2 := by
  have la := reachV_length (doV_length K' t0 t1 b0 b1 b2 b3 N' R) s0 s1 a0 a1 a2 a3
  have lb := reachV_length (doV_length K s0 s1 a0 a1 a2 a3 N R) t0 t1 b0 b1 b2 b3
  have mem2 : ∀ {x y z : Int}, z ∈ regsOf [x, y] ↔ (z = x ∨ z = y) ∧ z ≠ -1 := by intro x y z; simp [regsOf]
  -- a's words behind b, b's words behind a
  have va : ∀ i, rv (doV K' t0 t1 b0 b1 b2 b3 N' R).2.2 (regsOf [a0, a1, a2, a3]) i = rv R (regsOf [a0, a1, a2, a3]) i := by
    refine rv_congr _ _ _ fun x hx => ?_
    unfold doV; split
    · rfl
    · refine putV_other _ _ _ _ (ht0.imp id fun h => h _ _ _ _) ht1 x (ha x hx) (fun e => ?_) (fun e => ?_) 0
      · exact h2 t0 (mem2.2 ⟨.inl rfl, by have := ha x hx; omega⟩) x hx e.symm
      · exact h2 t1 (mem2.2 ⟨.inr rfl, by have := ha x hx; omega⟩) x hx e.symm
  have vb : ∀ i, rv (doV K s0 s1 a0 a1 a2 a3 N R).2.2 (regsOf [b0, b1, b2, b3]) i = rv R (regsOf [b0, b1, b2, b3]) i := by
    refine rv_congr _ _ _ fun x hx => ?_
    unfold doV; split
    · rfl
    · refine putV_other _ _ _ _ (hs0.imp id fun h => h _ _ _ _) hs1 x (hb x hx) (fun e => ?_) (fun e => ?_) 0
      · exact h1 s0 (mem2.2 ⟨.inl rfl, by have := hb x hx; omega⟩) x (List.mem_append_right _ hx) e.symm
      · exact h1 s1 (mem2.2 ⟨.inr rfl, by have := hb x hx; omega⟩) x (List.mem_append_right _ hx) e.symm
  have ea : ∀ R', doV K s0 s1 a0 a1 a2 a3 N R' = if reachV R' s0 s1 a0 a1 a2 a3 = false then (0, 11, R') else ((resV K N (rv R' (regsOf [a0, a1, a2, a3]) 0) (rv R' (regsOf [a0, a1, a2, a3]) 1) (rv R' (regsOf [a0, a1, a2, a3]) 2) (rv R' (regsOf [a0, a1, a2, a3]) 3)).1, 0, putV R' s0 s1 (resV K N (rv R' (regsOf [a0, a1, a2, a3]) 0) (rv R' (regsOf [a0, a1, a2, a3]) 1) (rv R' (regsOf [a0, a1, a2, a3]) 2) (rv R' (regsOf [a0, a1, a2, a3]) 3)).2) := fun _ => rfl
  have eb : ∀ R', doV K' t0 t1 b0 b1 b2 b3 N' R' = if reachV R' t0 t1 b0 b1 b2 b3 = false then (0, 11, R') else ((resV K' N' (rv R' (regsOf [b0, b1, b2, b3]) 0) (rv R' (regsOf [b0, b1, b2, b3]) 1) (rv R' (regsOf [b0, b1, b2, b3]) 2) (rv R' (regsOf [b0, b1, b2, b3]) 3)).1, 0, putV R' t0 t1 (resV K' N' (rv R' (regsOf [b0, b1, b2, b3]) 0) (rv R' (regsOf [b0, b1, b2, b3]) 1) (rv R' (regsOf [b0, b1, b2, b3]) 2) (rv R' (regsOf [b0, b1, b2, b3]) 3)).2) := fun _ => rfl
  rw [ea (doV K' t0 t1 b0 b1 b2 b3 N' R).2.2, eb (doV K s0 s1 a0 a1 a2 a3 N R).2.2, la, lb, va, va, va, va, vb, vb, vb, vb, ea R, eb R]
  cases hra : reachV R s0 s1 a0 a1 a2 a3 <;> cases hrb : reachV R t0 t1 b0 b1 b2 b3 <;> simp
  refine putV_comm R s0 s1 t0 t1 _ _ (hs0.imp id fun h => h _ _ _ _) (ht0.imp id fun h => h _ _ _ _) hs1 ht1 ?_ ?_ ?_ ?_
  · intro h e; exact h1 s0 (mem2.2 ⟨.inl rfl, by omega⟩) t0 (List.mem_append_left _ (mem2.2 ⟨.inl rfl, by omega⟩)) e
  · intro h e; exact h1 s0 (mem2.2 ⟨.inl rfl, by omega⟩) t1 (List.mem_append_left _ (mem2.2 ⟨.inr rfl, by omega⟩)) e
  · intro h e; exact h1 s1 (mem2.2 ⟨.inr rfl, by omega⟩) t0 (List.mem_append_left _ (mem2.2 ⟨.inl rfl, by omega⟩)) e
  · intro h e; exact h1 s1 (mem2.2 ⟨.inr rfl, by omega⟩) t1 (List.mem_append_left _ (mem2.2 ⟨.inr rfl, by omega⟩)) e
end Go.Proofs.YtmkencdkglbpbaaDoor
