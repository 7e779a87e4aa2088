/- alloc: the document's example, the walk. -/
import Derived.Test.YtmkencdkglbpbaaDoorAlV
import Derived.Test.YtmkencdkglbpbaaDoorAlQ
set_option maxRecDepth 100000
set_option linter.unusedVariables false
namespace Go.Proofs.YtmkencdkglbpbaaDoor
open Go.RowKit Go.Maps

def exL : List Op8 := [⟨1, 0, -1, -1, -1, -1, -1, 1⟩, ⟨1, 1, -1, -1, -1, -1, -1, 2⟩, ⟨1, 2, -1, -1, -1, -1, -1, 3⟩, ⟨10, 3, -1, 0, 1, -1, -1, 0⟩, ⟨10, 4, -1, 2, 3, -1, -1, 0⟩]
def exO : List Op8 := [⟨1, 0, -1, -1, -1, -1, -1, 1⟩, ⟨1, 1, -1, -1, -1, -1, -1, 2⟩, ⟨1, 2, -1, -1, -1, -1, -1, 3⟩, ⟨10, 3, -1, 0, 1, -1, -1, 0⟩, ⟨10, 0, -1, 2, 3, -1, -1, 0⟩]
set_option maxHeartbeats 4000000 in
theorem ex_alloc : allocF exL 0 = (exO, 0, 0) := by rfl
theorem exO_t0 : ∀ k : Fin 5, (exO.getD k.1 ⟨0, 0, 0, 0, 0, 0, 0, 0⟩).t0 = [0, 1, 2, 3, 0].getD k.1 0 := by decide
theorem outC_get : ∀ (O : List Op8) (i : Nat) (hi : i < O.length) (j : Nat), j < 8 → (outC O)[i * 8 + j]? = (opCellsA O[i])[j]?
  | o :: O, 0, _, j, hj => by
    have h8 : (opCellsA o).length = 8 := rfl
    simp only [outC, List.flatMap_cons, Nat.zero_mul, Nat.zero_add, List.getElem_cons_zero]
    rw [List.getElem?_append_left (by omega)]
  | o :: O, i + 1, hi, j, hj => by
    have h8 : (opCellsA o).length = 8 := rfl
    have ih := outC_get O i (by simpa using hi) j hj
    simp only [outC, List.flatMap_cons, List.getElem_cons_succ] at ih ⊢
    rw [List.getElem?_append_right (by omega), show (i + 1) * 8 + j - (opCellsA o).length = i * 8 + j from by omega]
    exact ih
/-- What was put out, in memory. -/
theorem outs_ops {w : World} {B : Nat} {v : Value} {O : List Op8} (h : w.ownsRow B 37 8 v O.length (outC O)) : ∃ x c, v = .slice x O.length c ∧ O.length ≤ c ∧ OpsSl w x O ∧ (∀ g o, x = some ⟨g, o, none⟩ → g < w.heap.size ∧ B ≤ g) ∧ O.length ≤ maxLen := by
  rcases h.2 with ⟨hv, h0⟩ | ⟨g, cap, cur, rfl, hg, hh, hc, hcap, _⟩
  · exact ⟨none, 0, by rw [hv, h0], by omega, .inl h0, by simp, by rw [h0]; exact Nat.zero_le _⟩
  · refine ⟨_, cap, rfl, hc, .inr ⟨g, 0, rfl, lt_of_block hh, fun i hi => ?_⟩, fun g' o' e => by injection e with e; injection e with e _ _; subst e; exact ⟨lt_of_block hh, hg⟩, Nat.le_trans hc hcap⟩
    have hadd : ∀ j, (⟨g, 0, none⟩ : Addr).add j = ⟨g, 0 + j, none⟩ := fun j => by unfold Addr.add; split <;> simp_all
    have each : ∀ j, j < 8 → ∀ u, (opCellsA O[i])[j]? = some u → w.cell? ⟨g, 0 + (i * 8 + j), none⟩ = some u := fun j hj u hu => by
      have := h.cells (g := g) rfl (i * 8 + j) u (by rw [outC_get O i hi j hj]; exact hu)
      rw [hadd] at this; exact this
    refine ⟨?_, ?_, ?_, ?_, ?_, ?_, ?_, ?_⟩
    · simpa using each 0 (by omega) _ rfl
    · simpa [Nat.add_assoc] using each 1 (by omega) _ rfl
    · simpa [Nat.add_assoc] using each 2 (by omega) _ rfl
    · simpa [Nat.add_assoc] using each 3 (by omega) _ rfl
    · simpa [Nat.add_assoc] using each 4 (by omega) _ rfl
    · simpa [Nat.add_assoc] using each 5 (by omega) _ rfl
    · simpa [Nat.add_assoc] using each 6 (by omega) _ rfl
    · simpa [Nat.add_assoc] using each 7 (by omega) _ rfl


theorem mk1 (K N t : Int) (w : World) : Calls Tryd.prog 27 #[.int .i64 K, .int .u32 N, .slice (some ⟨w.heap.size, 0, none⟩) 1 1, .slice none 0 0] (w.alloc (.cells #[.int .i64 t] 3)) fun e w' => e = .returned (opV K t (-1) (-1) (-1) (-1) (-1) N) ∧ Below w.heap.size w w' := by
  refine (make_any K N (some ⟨w.heap.size, 0, none⟩) none 1 1 0 0 [t] [] _ (.inr ⟨w.heap.size, rfl, by simp, fun i hi => ?_⟩) (.inl rfl) rfl rfl (by omega) (by omega) (by intro g hg; injection hg with hg; injection hg with hg _ _; subst hg; simp) (by simp)).mono ?_
  · match i, hi with
    | 0, _ => rw [World.cell?_alloc_at _ _ _ _ rfl]; rfl
  · rintro e w' ⟨rfl, hb⟩
    exact ⟨rfl, ((Below.refl _ w).alloc (Nat.le_refl _) _).trans (hb.mono (by simp))⟩
theorem mk3 (K N t a b : Int) (w : World) : Calls Tryd.prog 27 #[.int .i64 K, .int .u32 N, .slice (some ⟨w.heap.size, 0, none⟩) 1 1, .slice (some ⟨w.heap.size + 1, 0, none⟩) 2 2] ((w.alloc (.cells #[.int .i64 t] 3)).alloc (.cells #[.int .i64 a, .int .i64 b] 3)) fun e w' => e = .returned (opV K t (-1) a b (-1) (-1) N) ∧ Below w.heap.size w w' := by
  obtain ⟨w1, hw1⟩ : ∃ w1, w1 = w.alloc (.cells #[.int .i64 t] 3) := ⟨_, rfl⟩
  have hs : w1.heap.size = w.heap.size + 1 := by rw [hw1]; simp
  have hc : w1.cell? ⟨w.heap.size, 0, none⟩ = some (.int .i64 t) := by rw [hw1, World.cell?_alloc_at _ _ _ _ rfl]; rfl
  have hB : Below w.heap.size w w1 := by rw [hw1]; exact (Below.refl _ _).alloc (Nat.le_refl _) _
  rw [← hw1, ← hs]
  have hB2 : Below w1.heap.size w1 (w1.alloc (.cells #[.int .i64 a, .int .i64 b] 3)) := (Below.refl _ _).alloc (Nat.le_refl _) _
  refine (make_any K N (some ⟨w.heap.size, 0, none⟩) (some ⟨w1.heap.size, 0, none⟩) 1 1 2 2 [t] [a, b] _ (.inr ⟨w.heap.size, rfl, by simp; omega, fun i hi => ?_⟩) (.inr ⟨w1.heap.size, rfl, by simp, fun i hi => ?_⟩) rfl rfl (by omega) (by omega) (by intro g hg; injection hg with hg; injection hg with hg _ _; subst hg; simp; omega) (by intro g hg; injection hg with hg; injection hg with hg _ _; subst hg; simp)).mono ?_
  · match i, hi with
    | 0, _ => exact (hB2.cell (p := ⟨w.heap.size, 0, none⟩) (by show w.heap.size < w1.heap.size; omega)).trans hc
  · match i, hi with
    | 0, _ => rw [World.cell?_alloc_at _ _ _ _ rfl]; rfl
    | 1, _ => rw [World.cell?_alloc_at _ _ _ _ rfl]; rfl
  · rintro e w' ⟨rfl, hb⟩
    exact ⟨rfl, (hB.trans (hB2.mono hB.size)).trans (hb.mono (by simp; omega))⟩
theorem index5 (w : World) (k : Nat) (hk : k < 5) :
    (Instr.index 77 (.agg #[.int .i64 0, .int .i64 1, .int .i64 2, .int .i64 3, .int .i64 0]) (.int .i64 k)).run Tryd.prog w = .ok (.int .i64 (([0, 1, 2, 3, 0] : List Int).getD k 0)) w := by
  match k, hk with
  | 0, _ => rfl
  | 1, _ => rfl
  | 2, _ => rfl
  | 3, _ => rfl
  | 4, _ => rfl
set_option maxHeartbeats 4000000 in
theorem anchor17_any (w : World) (hR : HasRows w) : Calls Tryd.prog 11 #[] w fun e w' => e = .returned (.bool true) ∧ Below w.heap.size w w' := by
  have HR := Lib.hid hR
  clear hR
  go_enter Tryd.func11, Tryd.ntmps11
  go_wp2_with fail
  refine (mk1 1 1 0 w).mono ?_
  rintro e w1 ⟨rfl, hb⟩
  have H1 := Lib.hid hb
  clear hb
  go_wp2_with fail
  refine (mk1 1 2 1 w1).mono ?_
  rintro e w2 ⟨rfl, hb⟩
  have H2 := Lib.hid (H1.out.trans (hb.mono H1.out.size))
  clear hb
  go_wp2_with fail
  refine (mk1 1 3 2 w2).mono ?_
  rintro e w3 ⟨rfl, hb⟩
  have H3 := Lib.hid (H2.out.trans (hb.mono H2.out.size))
  clear hb
  go_wp2_with fail
  refine (mk3 10 0 3 0 1 w3).mono ?_
  rintro e w4 ⟨rfl, hb⟩
  have H4 := Lib.hid (H3.out.trans (hb.mono H3.out.size))
  clear hb
  go_wp2_with fail
  refine (mk3 10 0 4 2 3 w4).mono ?_
  rintro e w5 ⟨rfl, hb⟩
  have H5 := Lib.hid (H4.out.trans (hb.mono H4.out.size))
  clear hb
  go_wp2_with fail
  have hbA := (Below.refl _ w5).alloc (Nat.le_refl _) (.cells (outC exL).toArray 37)
  have hO : OpsSl (w5.alloc (.cells (outC exL).toArray 37)) (some ⟨w5.heap.size, 0, none⟩) exL := by
    refine .inr ⟨w5.heap.size, 0, rfl, by simp, fun i hi => ?_⟩
    simp only [World.cell?_alloc_at _ _ _ _ rfl]
    match i, hi with
    | 0, _ => exact ⟨rfl, rfl, rfl, rfl, rfl, rfl, rfl, rfl⟩
    | 1, _ => exact ⟨rfl, rfl, rfl, rfl, rfl, rfl, rfl, rfl⟩
    | 2, _ => exact ⟨rfl, rfl, rfl, rfl, rfl, rfl, rfl, rfl⟩
    | 3, _ => exact ⟨rfl, rfl, rfl, rfl, rfl, rfl, rfl, rfl⟩
    | 4, _ => exact ⟨rfl, rfl, rfl, rfl, rfl, rfl, rfl, rfl⟩
  simp only [outC, exL, List.flatMap_cons, List.flatMap_nil, opCellsA, List.cons_append, List.nil_append] at hbA hO
  generalize w5.alloc _ = w6 at hbA hO ⊢
  have H6 := Lib.hid (H5.out.trans (hbA.mono H5.out.size))
  have hal := alloc_any (some ⟨w5.heap.size, 0, none⟩) 5 5 exL 0 w6 (HR.out.below H6.out) hO rfl (by omega) (by omega) (by intro o ho; simp [exL] at ho; rcases ho with rfl | rfl | rfl | rfl | rfl <;> simp)
  rw [ex_alloc] at hal
  have HAl := Lib.hid hal
  clear hal hbA hO
  refine HAl.out.mono ?_
  rintro e w7 ⟨vo, rfl, hown, hb7⟩
  obtain ⟨x, co, rfl, hco, hO7, hg7, -⟩ := outs_ops hown
  have H7 := Lib.hid (H6.out.trans (hb7.mono H6.out.size))
  obtain ⟨g, o, rfl, hgl, hcells⟩ := hO7.resolve_left (by simp [exO])
  have q0 := (hcells 0 (by simp [exO])).2.1
  have q1 := (hcells 1 (by simp [exO])).2.1
  have q2 := (hcells 2 (by simp [exO])).2.1
  have q3 := (hcells 3 (by simp [exO])).2.1
  have q4 := (hcells 4 (by simp [exO])).2.1
  have hq : ∀ k : Nat, k < 5 → w7.cell? ⟨g, o + k * 8 + 1, none⟩ = some (.int .i64 (([0, 1, 2, 3, 0] : List Int).getD k 0)) := by
    intro k hk
    match k, hk with
    | 0, _ => exact q0
    | 1, _ => exact q1
    | 2, _ => exact q2
    | 3, _ => exact q3
    | 4, _ => exact q4
  have Hq := Lib.hid hq
  clear hown hb7 hO7 hg7 hcells q0 q1 q2 q3 q4 hq HAl H1 H2 H3 H4 H5 H6 HR
  rw [show exO.length = 5 from rfl] at hco ⊢
  go_wp2_with fail
  have hbZ := (Below.refl _ w7).alloc (Nat.le_refl _) (.cells #[.slice (some ⟨g, o, none⟩) 5 co, .int .i64 0] 25)
  have z0 : (w7.alloc (.cells #[.slice (some ⟨g, o, none⟩) 5 co, .int .i64 0] 25)).cell? ⟨w7.heap.size, 0, none⟩ = some (.slice (some ⟨g, o, none⟩) 5 co) := by rw [World.cell?_alloc_at _ _ _ _ rfl]; rfl
  have zl : w7.heap.size < (w7.alloc (.cells #[.slice (some ⟨g, o, none⟩) 5 co, .int .i64 0] 25)).heap.size := by simp
  generalize w7.alloc _ = w8 at hbZ z0 zl ⊢
  have hq8 : ∀ k : Nat, k < 5 → w8.cell? ⟨g, o + k * 8 + 1, none⟩ = some (.int .i64 (([0, 1, 2, 3, 0] : List Int).getD k 0)) := fun k hk => (hbZ.cell (p := ⟨g, o + k * 8 + 1, none⟩) hgl).trans (Hq.out k hk)
  have hgl8 : g < w8.heap.size := Nat.lt_of_lt_of_le hgl hbZ.size
  have Hq8 := Lib.hid hq8
  have H8 := Lib.hid (H7.out.trans (hbZ.mono H7.out.size))
  clear hq8 hbZ
  go_loopw [36] (fun i wr => ∃ k : Nat, k ≤ 5 ∧ i = .int .i64 k ∧ wr = w8) (fun i _ => 5 - (intOf i).toNat)
  case atStart => exact ⟨0, Nat.zero_le _, rfl, rfl⟩
  case round =>
    obtain ⟨k, hk, rfl, rfl⟩ := hrel
    by_cases hlt : k < 5
    · have hix := fun wq => index5 wq k hlt
      have hc := Hq8.out k hlt
      have wq : IntKind.i64.wrap ((k : Int) + 1) = (k : Int) + 1 := IntWalk.i64_in _ (by omega)
      generalize ([0, 1, 2, 3, 0] : List Int).getD k 0 = X at hix hc
      go_wp2_with fail
      exact ⟨⟨k + 1, by omega, by simp, trivial⟩, by simp only [intOf]; omega⟩
    · go_wp2_with fail
      go_ret
      exact ⟨rfl, H8.out⟩
end Go.Proofs.YtmkencdkglbpbaaDoor
