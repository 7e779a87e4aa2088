/- VopApart: the walk. -/
import Derived.Test.YtmkencdkglbpbaaDoorVopU
import Derived.Test.YtmkencdkglbpbaaDoorVopN
import Derived.Deep.DeepCutAuto
set_option maxRecDepth 100000
set_option linter.unusedVariables false
namespace Go.Proofs.YtmkencdkglbpbaaDoor
open Go.RowKit

/-- A state behind what turns another block alone. -/
theorem RegAt.grown {w w' : World} {sb rb rc mb : Nat} {S : Int} {R : List Int} {r : Nat} (h : RegAt w sb rb rc mb S R) (hg : w.grownBy w' (some r)) (h1 : r ≠ sb) (h2 : r ≠ rb) : RegAt w' sb rb rc mb S R :=
  { h with
    blk := (hg.block _ (lt_of_block h.blk) (by intro e; injection e with e; exact h1 e.symm)).trans h.blk
    row := fun i hi => by
      rw [World.cell?_of_block (w := w) (a := ⟨rb, i, none⟩) (hg.block _ h.rlt (by intro e; injection e with e; exact h2 e.symm))]
      exact h.row i hi
    free := fun i => by
      rw [World.frozen?_of_block (w := w) (a := ⟨rb, i, none⟩) (hg.block _ h.rlt (by intro e; injection e with e; exact h2 e.symm))]
      exact h.free i
    rlt := Nat.lt_of_lt_of_le h.rlt hg.size }
theorem OpAt.grown {w w' : World} {b r : Nat} {K t0 t1 f0 f1 f2 f3 N : Int} (h : OpAt w b K t0 t1 f0 f1 f2 f3 N) (hg : w.grownBy w' (some r)) (h1 : r ≠ b) : OpAt w' b K t0 t1 f0 f1 f2 f3 N :=
  (hg.block _ (lt_of_block h) (by intro e; injection e with e; exact h1 e.symm)).trans h

/-- The four calls of Do, of two operations that stand apart. -/
theorem apart_four {K s0 s1 a0 a1 a2 a3 N K' t0 t1 b0 b1 b2 b3 N' : Int} (L : List Int) (ha : rightV K s0 s1 a0 a1 a2 a3 N = true) (hb : rightV K' t0 t1 b0 b1 b2 b3 N' = true) (hN : 0 ≤ N ∧ N < 4294967296) (hN' : 0 ≤ N' ∧ N' < 4294967296)
    (hk : K < 2 ∨ 6 < K) (hk' : K' < 2 ∨ 6 < K')
    (h1 : ∀ t ∈ regsOf [s0, s1], ∀ x ∈ regsOf [t0, t1] ++ regsOf [b0, b1, b2, b3], t ≠ x) (h2 : ∀ t ∈ regsOf [t0, t1], ∀ x ∈ regsOf [a0, a1, a2, a3], t ≠ x) :
    ∃ m1 e1 n1 f1 R1 R2 R3,
      (∀ sb rb rc mb S w, RegAt w sb rb rc mb S L → Calls Tryd.prog 22 #[.pointer (some ⟨sb, 0, none⟩), opV K s0 s1 a0 a1 a2 a3 N] w fun e w' => e = .returned (.tuple #[.int .i64 m1, .int .i64 e1]) ∧ RegAt w' sb rb rc mb S R1 ∧ w.grownBy w' (some rb)) ∧
      (∀ sb rb rc mb S w, RegAt w sb rb rc mb S R1 → Calls Tryd.prog 22 #[.pointer (some ⟨sb, 0, none⟩), opV K' t0 t1 b0 b1 b2 b3 N'] w fun e w' => e = .returned (.tuple #[.int .i64 n1, .int .i64 f1]) ∧ RegAt w' sb rb rc mb S R2 ∧ w.grownBy w' (some rb)) ∧
      (∀ sb rb rc mb S w, RegAt w sb rb rc mb S L → Calls Tryd.prog 22 #[.pointer (some ⟨sb, 0, none⟩), opV K' t0 t1 b0 b1 b2 b3 N'] w fun e w' => e = .returned (.tuple #[.int .i64 n1, .int .i64 f1]) ∧ RegAt w' sb rb rc mb S R3 ∧ w.grownBy w' (some rb)) ∧
      (∀ sb rb rc mb S w, RegAt w sb rb rc mb S R3 → Calls Tryd.prog 22 #[.pointer (some ⟨sb, 0, none⟩), opV K s0 s1 a0 a1 a2 a3 N] w fun e w' => e = .returned (.tuple #[.int .i64 m1, .int .i64 e1]) ∧ RegAt w' sb rb rc mb S R2 ∧ w.grownBy w' (some rb)) := by
  obtain ⟨k, rfl, hra⟩ := rightOp_of ha
  obtain ⟨k', rfl, hrb⟩ := rightOp_of hb
  obtain ⟨p1, p2, p3⟩ := right_regs hra
  obtain ⟨q1, q2, q3⟩ := right_regs hrb
  have hres : ∀ {k : Nat} {t0 t1 f0 f1 f2 f3 N : Int}, RightOp k t0 t1 f0 f1 f2 f3 N → (k < 2 ∨ 6 < k) → (0 ≤ t0 ∨ ∀ v0 v1 v2 v3, (resV k N v0 v1 v2 v3).2 = none) := by
    intro k t0 t1 f0 f1 f2 f3 N h hk
    by_cases h30 : k < 30
    · exact .inl (right_sets h ⟨hk, h30⟩).1
    · right
      intro v0 v1 v2 v3
      have := h.h2
      unfold resV
      by_cases e : (k : Int) = 30
      · rw [if_pos e]
      · rw [if_neg e, if_pos (by omega)]
  have hka : k < 2 ∨ 6 < k := by omega
  have hkb : k' < 2 ∨ 6 < k' := by omega
  obtain ⟨x1, x2, x3, x4, x5⟩ := doV_apart k s0 s1 a0 a1 a2 a3 N k' t0 t1 b0 b1 b2 b3 N' L (hres hra hka) (hres hrb hkb) p3 q3 p1 q1 h1 h2
  refine ⟨(doV k s0 s1 a0 a1 a2 a3 N L).1, (doV k s0 s1 a0 a1 a2 a3 N L).2.1, (doV k' t0 t1 b0 b1 b2 b3 N' L).1, (doV k' t0 t1 b0 b1 b2 b3 N' L).2.1, (doV k s0 s1 a0 a1 a2 a3 N L).2.2, (doV k' t0 t1 b0 b1 b2 b3 N' (doV k s0 s1 a0 a1 a2 a3 N L).2.2).2.2, (doV k' t0 t1 b0 b1 b2 b3 N' L).2.2, fun sb rb rc mb S w h => ?_, fun sb rb rc mb S w h => ?_, fun sb rb rc mb S w h => ?_, fun sb rb rc mb S w h => ?_⟩
  · exact do_any sb rb rc mb S _ k s0 s1 a0 a1 a2 a3 N w h hra hka hN
  · have := do_any sb rb rc mb S _ k' t0 t1 b0 b1 b2 b3 N' w h hrb hkb hN'
    rw [x3, x4] at this; exact this
  · exact do_any sb rb rc mb S _ k' t0 t1 b0 b1 b2 b3 N' w h hrb hkb hN'
  · have := do_any sb rb rc mb S _ k s0 s1 a0 a1 a2 a3 N w h hra hka hN
    rw [← x1, ← x2, ← x5] at this; exact this

/-- What lets a pair go. -/
def badV (Va Vb : Bool) (n : Nat) (K K' : Int) : Bool := !Va || (!Vb || (decide (40 < (n : Int)) || ((decide (2 ≤ K) && decide (K ≤ 6)) || (decide (2 ≤ K') && decide (K' ≤ 6)))))

set_option maxHeartbeats 16000000 in
theorem vopApart_walk (K s0 s1 a0 a1 a2 a3 N K' t0 t1 b0 b1 b2 b3 N' : Int) (x : Option Addr) (n c : Nat) (L : List Int) (w : World) (hS : HasRows w) (hN : 0 ≤ N ∧ N < 4294967296) (hN' : 0 ≤ N' ∧ N' < 4294967296)
    (hx : USl w x L) (hn : L.length = n) (hb : ∀ x ∈ L, 0 ≤ x ∧ x < 4294967296) :
    Calls Tryd.prog 7 #[opV K s0 s1 a0 a1 a2 a3 N, opV K' t0 t1 b0 b1 b2 b3 N', .slice x n c] w fun e w' => e = .returned (.bool true) ∧ Below w.heap.size w w' := by
  obtain ⟨i0, hi, hz0, hz1, hz2⟩ := info_parts Tryd.infoInt
  obtain ⟨Va, hVa⟩ : ∃ V, V = rightV K s0 s1 a0 a1 a2 a3 N := ⟨_, rfl⟩
  obtain ⟨Vb, hVb⟩ : ∃ V, V = rightV K' t0 t1 b0 b1 b2 b3 N' := ⟨_, rfl⟩
  have HA : Hid (∀ w, HasRows w → Calls Tryd.prog 17 #[opV K s0 s1 a0 a1 a2 a3 N] w fun e w' => e = .returned (.bool Va) ∧ Below w.heap.size w w') := fun w h => by
    have := right_any K s0 s1 a0 a1 a2 a3 N hN.1 hN.2 w h
    rw [← hVa] at this; exact this
  have HB : Hid (∀ w, HasRows w → Calls Tryd.prog 17 #[opV K' t0 t1 b0 b1 b2 b3 N'] w fun e w' => e = .returned (.bool Vb) ∧ Below w.heap.size w w') := fun w h => by
    have := right_any K' t0 t1 b0 b1 b2 b3 N' hN'.1 hN'.2 w h
    rw [← hVb] at this; exact this
  have HVA := Lib.hid hVa
  have HVB := Lib.hid hVb
  have HS := Lib.hid hS
  have HX := Lib.hid hx
  have HN := Lib.hid hn
  have HNN := Lib.hid (And.intro hN hN')
  have HLB := Lib.hid hb
  clear hVa hVb hS hx hn hN hN' hb
  have hB1 := ((Below.refl _ w).alloc (Nat.le_refl _) (.cells #[.int .i64 K, .int .i64 s0, .int .i64 s1, .int .i64 a0, .int .i64 a1, .int .i64 a2, .int .i64 a3, .int .u32 N] 37)).alloc (by simp) (.cells #[.int .i64 K', .int .i64 t0, .int .i64 t1, .int .i64 b0, .int .i64 b1, .int .i64 b2, .int .i64 b3, .int .u32 N'] 37)
  have hOa := (opAt_new w K s0 s1 a0 a1 a2 a3 N).below ((Below.refl _ _).alloc (Nat.le_refl _) (.cells #[.int .i64 K', .int .i64 t0, .int .i64 t1, .int .i64 b0, .int .i64 b1, .int .i64 b2, .int .i64 b3, .int .u32 N'] 37))
  have hOb := opAt_new (w.alloc (.cells #[.int .i64 K, .int .i64 s0, .int .i64 s1, .int .i64 a0, .int .i64 a1, .int .i64 a2, .int .i64 a3, .int .u32 N] 37)) K' t0 t1 b0 b1 b2 b3 N'
  rw [World.size_alloc] at hOb
  have HB1 := Lib.hid hB1
  have HOa1 := Lib.hid hOa
  have HOb1 := Lib.hid hOb
  clear hB1 hOa hOb
  go_enter Tryd.func7, Tryd.ntmps7
  go_wp2_with fail
  generalize World.alloc _ _ = w1 at HB1 HOa1 HOb1 ⊢
  refine (anchor_any w1).mono ?_
  rintro e w2 ⟨rfl, hb2⟩
  have HB2 := Lib.hid (HB1.out.trans (hb2.mono HB1.out.size))
  have HOa2 := Lib.hid (HOa1.out.below hb2)
  have HOb2 := Lib.hid (HOb1.out.below hb2)
  have HS2 := Lib.hid (HS.out.below HB2.out)
  clear hb2
  go_upto_region 3 with fail
  go_cut [62] (fun bad wx => bad = .bool (badV Va Vb n K K') ∧ Below w2.heap.size w2 wx)
  case first =>
    obtain ⟨c0, c1, c2, c3, c4, c5, c6, c7⟩ := HOa2.out.cells
    go_wp2_with fail
    refine (HA.out w2 HS2.out).mono ?_
    rintro e w3 ⟨rfl, hb3⟩
    have HO3 := Lib.hid (HOb2.out.below hb3)
    have HOa3 := Lib.hid (HOa2.out.below hb3)
    have HB3 := Lib.hid hb3
    clear hb3 c0 c1 c2 c3 c4 c5 c6 c7
    cases Va
    · go_wp2_with fail
      go_meet
      exact ⟨rfl, HB3.out⟩
    obtain ⟨c0, c1, c2, c3, c4, c5, c6, c7⟩ := HO3.out.cells
    go_wp2_with fail
    refine (HB.out w3 (HS2.out.below HB3.out)).mono ?_
    rintro e w4 ⟨rfl, hb4⟩
    have HOa4 := Lib.hid (HOa3.out.below hb4)
    have HO4 := Lib.hid (HO3.out.below hb4)
    have HB4 := Lib.hid (HB3.out.trans (hb4.mono HB3.out.size))
    clear hb4 c0 c1 c2 c3 c4 c5 c6 c7
    cases Vb
    · go_wp2_with fail
      go_meet
      exact ⟨rfl, HB4.out⟩
    obtain ⟨c0, c1, c2, c3, c4, c5, c6, c7⟩ := HOa4.out.cells
    obtain ⟨d0, d1, d2, d3, d4, d5, d6, d7⟩ := HO4.out.cells
    by_cases h40 : 40 < (n : Int)
    · have e1 : decide ((40 : Int) < (n : Int)) = true := by simpa using h40
      go_wp2_with fail
      go_meet
      exact ⟨by simp [badV, e1], HB4.out⟩
    have e1 : decide ((40 : Int) < (n : Int)) = false := by simpa using h40
    by_cases hk1 : 2 ≤ K
    · have e2 : decide ((2 : Int) ≤ K) = true := by simpa using hk1
      by_cases hk2 : K ≤ 6
      · have e3 : decide (K ≤ (6 : Int)) = true := by simpa using hk2
        go_wp2_with fail
        go_meet
        exact ⟨by simp [badV, e1, e2, e3], HB4.out⟩
      have e3 : decide (K ≤ (6 : Int)) = false := by simpa using hk2
      by_cases hk3 : 2 ≤ K'
      · have e4 : decide ((2 : Int) ≤ K') = true := by simpa using hk3
        go_wp2_with fail
        go_meet
        exact ⟨by simp [badV, e1, e2, e3, e4], HB4.out⟩
      have e4 : decide ((2 : Int) ≤ K') = false := by simpa using hk3
      go_wp2_with fail
      go_meet
      exact ⟨by simp [badV, e1, e2, e3, e4], HB4.out⟩
    have e2 : decide ((2 : Int) ≤ K) = false := by simpa using hk1
    by_cases hk3 : 2 ≤ K'
    · have e4 : decide ((2 : Int) ≤ K') = true := by simpa using hk3
      go_wp2_with fail
      go_meet
      exact ⟨by simp [badV, e1, e2, e4], HB4.out⟩
    have e4 : decide ((2 : Int) ≤ K') = false := by simpa using hk3
    go_wp2_with fail
    go_meet
    exact ⟨by simp [badV, e1, e2, e4], HB4.out⟩
  case rest =>
  obtain ⟨rfl, hb5⟩ := hcut
  have HB5 := Lib.hid (HB2.out.trans (hb5.mono HB2.out.size))
  have HOa5 := Lib.hid (HOa2.out.below hb5)
  have HOb5 := Lib.hid (HOb2.out.below hb5)
  have HS5 := Lib.hid (HS2.out.below hb5)
  clear hb5
  cases hbad : badV Va Vb n K K'
  case true =>
    go_wp2_with fail
    go_ret
    exact ⟨rfl, HB5.out⟩
  simp only [badV, Bool.or_eq_false_iff, Bool.not_eq_false', Bool.and_eq_false_iff, decide_eq_false_iff_not] at hbad
  have HBAD := Lib.hid hbad
  clear hbad
  obtain ⟨c0, c1, c2, c3, c4, c5, c6, c7⟩ := HOa5.out.cells
  go_wp2_with fail
  refine (sets_any K s0 s1 a0 a1 a2 a3 N wc).mono ?_
  rintro e w6 ⟨v6, rfl, hown6, hb6⟩
  obtain ⟨T, hT⟩ : ∃ T, T = regsOf [s0, s1] := ⟨_, rfl⟩
  have hlT : (regsOf [s0, s1]).length ≤ 2 := by have := List.length_filter_le (fun x : Int => x != -1) [s0, s1]; simpa using this
  rw [← hT] at hown6 hlT
  have HT := Lib.hid hT
  obtain ⟨x6, c6', rfl, hc6, hf6⟩ := own_form hown6 rfl
  have HF6 := Lib.hid hf6
  have HB6 := Lib.hid (HB5.out.trans (hb6.mono HB5.out.size))
  have HOa6 := Lib.hid (HOa5.out.below hb6)
  have HOb6 := Lib.hid (HOb5.out.below hb6)
  obtain ⟨V, hV⟩ : ∃ V, V = regsOf [t0, t1] ++ regsOf [b0, b1, b2, b3] := ⟨_, rfl⟩
  have HV := Lib.hid hV
  have hlV : V.length ≤ 6 := by
    have h1 : (regsOf [t0, t1]).length ≤ 2 := by have := List.length_filter_le (fun x : Int => x != -1) [t0, t1]; simpa using this
    have h2 : (regsOf [b0, b1, b2, b3]).length ≤ 4 := by have := List.length_filter_le (fun x : Int => x != -1) [b0, b1, b2, b3]; simpa using this
    rw [hV, List.length_append]
    omega
  clear hown6 hf6 hb6 hT hV c0 c1 c2 c3 c4 c5 c6 c7
  go_wp2_with fail
  go_loopw [66] (fun i wr => ∃ k : Nat, k ≤ T.length ∧ i = .int .i64 k ∧ Below w6.heap.size w6 wr ∧ ∀ t ∈ T.take k, ∀ x ∈ V, t ≠ x) (fun i _ => T.length - (intOf i).toNat)
  case atStart => exact ⟨0, Nat.zero_le _, rfl, Below.refl _ _, by simp⟩
  case round =>
    obtain ⟨k, hk, rfl, hbr, hno⟩ := hrel
    have HBr := Lib.hid hbr
    have HNO := Lib.hid hno
    have HObr := Lib.hid (HOb6.out.below hbr)
    clear hbr hno
    by_cases hlt : k < T.length
    · obtain ⟨g, rfl, hg, hg2, hc⟩ := HF6.out (by omega)
      have q0 := (HBr.out.cell (p := ⟨g, k, none⟩) hg2).trans (hc k hlt)
      have hst : T.take (k + 1) = T.take k ++ [T[k]] := List.take_succ_eq_append_getElem hlt
      obtain ⟨X, hX⟩ : ∃ X, T[k]'hlt = X := ⟨_, rfl⟩
      rw [hX] at q0 hst
      have Hst := Lib.hid hst
      have wq : IntKind.i64.wrap ((k : Int) + 1) = (k : Int) + 1 := IntWalk.i64_in _ (by omega)
      clear hst hX hc
      have Kp : Hid (∀ w', Below wr.heap.size wr w' → w'.cell? ⟨w.heap.size + 1, 0, none⟩ = some (.int .i64 K') ∧ w'.cell? ⟨w.heap.size + 1, 1, none⟩ = some (.int .i64 t0) ∧ w'.cell? ⟨w.heap.size + 1, 2, none⟩ = some (.int .i64 t1) ∧ w'.cell? ⟨w.heap.size + 1, 3, none⟩ = some (.int .i64 b0) ∧ w'.cell? ⟨w.heap.size + 1, 4, none⟩ = some (.int .i64 b1) ∧ w'.cell? ⟨w.heap.size + 1, 5, none⟩ = some (.int .i64 b2) ∧ w'.cell? ⟨w.heap.size + 1, 6, none⟩ = some (.int .i64 b3) ∧ w'.cell? ⟨w.heap.size + 1, 7, none⟩ = some (.int .u32 N') ) := fun w' h => (HObr.out.below h).cells
      have hD : Below wr.heap.size wr wr.drew := (Below.refl _ wr).drew
      go_wp2_with fail
      go_region_held3 (fun w' => w'.cell? ⟨w.heap.size + 1, 0, none⟩ = some (.int .i64 K') ∧ w'.cell? ⟨w.heap.size + 1, 1, none⟩ = some (.int .i64 t0) ∧ w'.cell? ⟨w.heap.size + 1, 2, none⟩ = some (.int .i64 t1) ∧ w'.cell? ⟨w.heap.size + 1, 3, none⟩ = some (.int .i64 b0) ∧ w'.cell? ⟨w.heap.size + 1, 4, none⟩ = some (.int .i64 b1) ∧ w'.cell? ⟨w.heap.size + 1, 5, none⟩ = some (.int .i64 b2) ∧ w'.cell? ⟨w.heap.size + 1, 6, none⟩ = some (.int .i64 b3) ∧ w'.cell? ⟨w.heap.size + 1, 7, none⟩ = some (.int .u32 N') )
        (first
          | exact Kp.out _ hD
          | exact Kp.out _ (hD.trans hbs)
          | exact Kp.out _ ((hD.trans hbs).trans hbu)
          | exact Kp.out _ hb7)
        (first
          | (go_at_call 16; refine (sets_any K' t0 t1 b0 b1 b2 b3 N' _).mono ?_; rintro e ws ⟨vs, rfl, hos, hbs0⟩; have hbs := hbs0.mono hD.size)
          | (go_at_call 15; refine (uses_any K' t0 t1 b0 b1 b2 b3 N' _).mono ?_; rintro e wu ⟨vu, rfl, hou, hbu0⟩; have hbu := hbu0.mono (hD.trans hbs).size; have hos2 := ownsRow_below hos hbu0)
          | (refine step_append_rows (by rfl) _ _ _ (by rfl) wr.drew.heap.size ws.heap.size 3 i0 (.int .i64 0) 1 8 Tryd.underlying41 hi hz0 hz1 hz2 rfl (by omega) vs (regsOf [t0, t1]).length (iCells (regsOf [t0, t1])) (by rfl) hos2 vu (regsOf [b0, b1, b2, b3]).length (iCells (regsOf [b0, b1, b2, b3])) (by rfl) hou (i_all _) (by have h1 : (regsOf [t0, t1]).length ≤ 2 := by { have := List.length_filter_le (fun x : Int => x != -1) [t0, t1]; simpa using this }; have h2 : (regsOf [b0, b1, b2, b3]).length ≤ 4 := by { have := List.length_filter_le (fun x : Int => x != -1) [b0, b1, b2, b3]; simpa using this }; unfold maxLen; omega) (by have h1 : (regsOf [t0, t1]).length ≤ 2 := by { have := List.length_filter_le (fun x : Int => x != -1) [t0, t1]; simpa using this }; have h2 : (regsOf [b0, b1, b2, b3]).length ≤ 4 := by { have := List.length_filter_le (fun x : Int => x != -1) [b0, b1, b2, b3]; simpa using this }; omega) ((hbs.trans hbu).size) ?_; intro va w7 hown7 hgrow7; have hb7 := ((hD.trans hbs).trans hbu).grown hgrow7 ((hD.trans hbs).trans hbu).size (fun k e => (hos2.lt k e).1); rw [show iCells (regsOf [t0, t1]) ++ iCells (regsOf [b0, b1, b2, b3]) = iCells V from by rw [HV.out]; simp [iCells], show (regsOf [t0, t1]).length + (regsOf [b0, b1, b2, b3]).length = V.length from by rw [HV.out, List.length_append]] at hown7; obtain ⟨x7, c7', rfl, hc7, hf7⟩ := own_form hown7 rfl))
      have HB7 := Lib.hid (HBr.out.trans (hb7.mono HBr.out.size))
      have HF7 := Lib.hid hf7
      clear hown7 hgrow7 hb7 hf7 hos hou hos2 hbs hbu hbs0 hbu0 hD
      go_wp2_with fail
      go_loopw [76] (fun i wz => ∃ j : Nat, j ≤ V.length ∧ i = .int .i64 j ∧ wz = w7 ∧ ∀ x ∈ V.take j, X ≠ x) (fun i _ => V.length - (intOf i).toNat)
      case atStart => exact ⟨0, Nat.zero_le _, rfl, rfl, by simp⟩
      case round =>
        obtain ⟨j, hj, rfl, rfl, hne⟩ := hrel
        have HNE := Lib.hid hne
        clear hne
        by_cases hlj : j < V.length
        · obtain ⟨g', rfl, hg', hg2', hc'⟩ := HF7.out (by omega)
          have y0 := hc' j hlj
          have hst : V.take (j + 1) = V.take j ++ [V[j]] := List.take_succ_eq_append_getElem hlj
          obtain ⟨Y, hY⟩ : ∃ Y, V[j]'hlj = Y := ⟨_, rfl⟩
          rw [hY] at y0 hst
          have Hst' := Lib.hid hst
          have wq' : IntKind.i64.wrap ((j : Int) + 1) = (j : Int) + 1 := IntWalk.i64_in _ (by omega)
          clear hst hY hc'
          by_cases hxy : X = Y
          · have e1 : (X == Y) = true := by simpa using hxy
            clear hxy
            go_wp2_with fail
            go_ret
            exact ⟨rfl, HB6.out.trans (HB7.out.mono HB6.out.size)⟩
          · have e1 : (X == Y) = false := by simpa using hxy
            have HXY := Lib.hid hxy
            clear hxy
            go_wp2_with fail
            refine ⟨⟨j + 1, by omega, by simp, trivial, ?_⟩, by simp only [intOf]; omega⟩
            rw [Hst'.out]
            intro x hx
            rcases List.mem_append.1 hx with hx | hx
            · exact HNE.out x hx
            · rw [List.mem_singleton.1 hx]; exact HXY.out
        · have hjq : j = V.length := by omega
          have hne := HNE.out
          rw [hjq, List.take_length] at hne
          have HNE2 := Lib.hid hne
          clear hne
          go_wp2_with fail
          refine ⟨⟨k + 1, by omega, by simp, HB7.out, ?_⟩, by simp only [intOf]; omega⟩
          rw [Hst.out]
          intro t ht
          rcases List.mem_append.1 ht with ht | ht
          · exact HNO.out t ht
          · rw [List.mem_singleton.1 ht]; exact HNE2.out
    · have hkq : k = T.length := by omega
      have hno := HNO.out
      rw [hkq, List.take_length] at hno
      have HNO2 := Lib.hid hno
      clear hno
      obtain ⟨c0, c1, c2, c3, c4, c5, c6, c7⟩ := HObr.out.cells
      have HBw := Lib.hid (HB6.out.trans (HBr.out.mono HB6.out.size))
      have HOaw := Lib.hid (HOa6.out.below HBr.out)
      go_wp2_with fail
      refine (sets_any K' t0 t1 b0 b1 b2 b3 N' wr).mono ?_
      rintro e w8 ⟨v8, rfl, hown8, hb8⟩
      obtain ⟨T', hT'⟩ : ∃ T', T' = regsOf [t0, t1] := ⟨_, rfl⟩
      have hlT' : (regsOf [t0, t1]).length ≤ 2 := by have := List.length_filter_le (fun x : Int => x != -1) [t0, t1]; simpa using this
      rw [← hT'] at hown8 hlT'
      have HT' := Lib.hid hT'
      obtain ⟨x8, c8', rfl, hc8, hf8⟩ := own_form hown8 rfl
      have HF8 := Lib.hid hf8
      have HB8 := Lib.hid (HBw.out.trans (hb8.mono HBw.out.size))
      have HOa8 := Lib.hid (HOaw.out.below hb8)
      have HOb8 := Lib.hid (HObr.out.below hb8)
      obtain ⟨U, hU⟩ : ∃ U, U = regsOf [a0, a1, a2, a3] := ⟨_, rfl⟩
      have HU := Lib.hid hU
      have hlU : U.length ≤ 4 := by
        have h2 : (regsOf [a0, a1, a2, a3]).length ≤ 4 := by have := List.length_filter_le (fun x : Int => x != -1) [a0, a1, a2, a3]; simpa using this
        rw [hU]; exact h2
      clear hown8 hf8 hb8 hT' hU c0 c1 c2 c3 c4 c5 c6 c7 hkq
      go_wp2_with fail
      go_loopw [88] (fun i wz => ∃ k : Nat, k ≤ T'.length ∧ i = .int .i64 k ∧ Below w8.heap.size w8 wz ∧ ∀ t ∈ T'.take k, ∀ x ∈ U, t ≠ x) (fun i _ => T'.length - (intOf i).toNat)
      case atStart => exact ⟨0, Nat.zero_le _, rfl, Below.refl _ _, by simp⟩
      case round =>
        obtain ⟨l, hl, rfl, hbr2, hno2⟩ := hrel
        have HBr2 := Lib.hid hbr2
        have HNO3 := Lib.hid hno2
        have HOar := Lib.hid (HOa8.out.below hbr2)
        have HObr2 := Lib.hid (HOb8.out.below hbr2)
        clear hbr2 hno2
        by_cases hlt : l < T'.length
        · obtain ⟨g, rfl, hg, hg2, hc⟩ := HF8.out (by omega)
          have q0 := (HBr2.out.cell (p := ⟨g, l, none⟩) hg2).trans (hc l hlt)
          have hst : T'.take (l + 1) = T'.take l ++ [T'[l]] := List.take_succ_eq_append_getElem hlt
          obtain ⟨X, hX⟩ : ∃ X, T'[l]'hlt = X := ⟨_, rfl⟩
          rw [hX] at q0 hst
          have Hst := Lib.hid hst
          have wq : IntKind.i64.wrap ((l : Int) + 1) = (l : Int) + 1 := IntWalk.i64_in _ (by omega)
          clear hst hX hc
          obtain ⟨c0, c1, c2, c3, c4, c5, c6, c7⟩ := HOar.out.cells
          go_wp2_with fail
          refine (uses_any K s0 s1 a0 a1 a2 a3 N wr).mono ?_
          rintro e w9 ⟨v9, rfl, hown9, hb9⟩
          rw [← HU.out] at hown9
          obtain ⟨x9, c9', rfl, hc9, hf9⟩ := own_form hown9 rfl
          have HF9 := Lib.hid hf9
          have HB9 := Lib.hid (HBr2.out.trans (hb9.mono HBr2.out.size))
          clear hown9 hf9 hb9 c0 c1 c2 c3 c4 c5 c6 c7
          go_wp2_with fail
          go_loopw [95] (fun i wz => ∃ j : Nat, j ≤ U.length ∧ i = .int .i64 j ∧ wz = w9 ∧ ∀ x ∈ U.take j, X ≠ x) (fun i _ => U.length - (intOf i).toNat)
          case atStart => exact ⟨0, Nat.zero_le _, rfl, rfl, by simp⟩
          case round =>
            obtain ⟨j, hj, rfl, rfl, hne⟩ := hrel
            have HNE := Lib.hid hne
            clear hne
            by_cases hlj : j < U.length
            · obtain ⟨g', rfl, hg', hg2', hc'⟩ := HF9.out (by omega)
              have y0 := hc' j hlj
              have hst : U.take (j + 1) = U.take j ++ [U[j]] := List.take_succ_eq_append_getElem hlj
              obtain ⟨Y, hY⟩ : ∃ Y, U[j]'hlj = Y := ⟨_, rfl⟩
              rw [hY] at y0 hst
              have Hst' := Lib.hid hst
              have wq' : IntKind.i64.wrap ((j : Int) + 1) = (j : Int) + 1 := IntWalk.i64_in _ (by omega)
              clear hst hY hc'
              by_cases hxy : X = Y
              · have e1 : (X == Y) = true := by simpa using hxy
                clear hxy
                go_wp2_with fail
                go_ret
                exact ⟨rfl, HB8.out.trans (HB9.out.mono HB8.out.size)⟩
              · have e1 : (X == Y) = false := by simpa using hxy
                have HXY := Lib.hid hxy
                clear hxy
                go_wp2_with fail
                refine ⟨⟨j + 1, by omega, by simp, trivial, ?_⟩, by simp only [intOf]; omega⟩
                rw [Hst'.out]
                intro x hx
                rcases List.mem_append.1 hx with hx | hx
                · exact HNE.out x hx
                · rw [List.mem_singleton.1 hx]; exact HXY.out
            · have hjq : j = U.length := by omega
              have hne := HNE.out
              rw [hjq, List.take_length] at hne
              have HNE2 := Lib.hid hne
              clear hne
              go_wp2_with fail
              refine ⟨⟨l + 1, by omega, by simp, HB9.out, ?_⟩, by simp only [intOf]; omega⟩
              rw [Hst.out]
              intro t ht
              rcases List.mem_append.1 ht with ht | ht
              · exact HNO3.out t ht
              · rw [List.mem_singleton.1 ht]; exact HNE2.out
        · have hkq : l = T'.length := by omega
          have hno := HNO3.out
          rw [hkq, List.take_length] at hno
          have HNO4 := Lib.hid hno
          clear hno
          have h2' := HNO4.out
          have h1' := HNO2.out
          rw [HT'.out, HU.out] at h2'
          rw [HT.out, HV.out] at h1'
          obtain ⟨hva, hvb, h40, hka, hkb⟩ := HBAD.out
          obtain ⟨m1, e1, n1, f1, R1, R2, R3, D1, D2, D3, D4⟩ := apart_four L (HVA.out.symm.trans hva) (HVB.out.symm.trans hvb) HNN.out.1 HNN.out.2 (by omega) (by omega) h1' h2'
          have HD1 := Lib.hid D1
          have HD2 := Lib.hid D2
          have HD3 := Lib.hid D3
          have HD4 := Lib.hid D4
          have HBx := Lib.hid (HB8.out.trans (HBr2.out.mono HB8.out.size))
          have HXx := Lib.hid (HX.out.below HBx.out)
          clear h1' h2' hva hvb hka hkb D1 D2 D3 D4 hkq
          go_wp2_with fail
          refine (started_any x n c L 536870912 wr HXx.out HN.out HLB.out (by omega) (by omega)).mono ?_
          rintro e w10 ⟨sb, rb, rc, mb, fv, rg, rb2, rc2, B, m, rfl, hc2, hS⟩
          have HS10 := Lib.hid hS
          have HB10 := Lib.hid (HBx.out.trans (hS.below.mono HBx.out.size))
          have HOa10 := Lib.hid (HOar.out.below hS.below)
          have HOb10 := Lib.hid (HObr2.out.below hS.below)
          clear hS
          have hl10a := lt_of_block HOa10.out
          have hl10b := lt_of_block HOb10.out
          have hbA := (Below.refl _ w10).alloc (Nat.le_refl _) (.cells #[.slice (some ⟨rb2, 0, none⟩) n rc2, .int .u32 536870912, .slice none 0 0, .slice none 0 0] 52)
          go_wp2_with fail
          generalize w10.alloc _ = w11 at hbA ⊢
          have HB11 := Lib.hid (HB10.out.trans (hbA.mono HB10.out.size))
          have HOa11 := Lib.hid (HOa10.out.below hbA)
          have HOb11 := Lib.hid (HOb10.out.below hbA)
          have HRs11 := Lib.hid (HS10.out.reg.below hbA)
          clear hbA
          refine (started_any x n c L 536870912 w11 (HX.out.below HB11.out) HN.out HLB.out (by omega) (by omega)).mono ?_
          rintro e w12 ⟨tb, qb, qc, mb', fv', rg', rb2', rc2', B', m', rfl, hc2', hS'⟩
          have HS12 := Lib.hid hS'
          have HB12 := Lib.hid (HB11.out.trans (hS'.below.mono HB11.out.size))
          have HOa12 := Lib.hid (HOa11.out.below hS'.below)
          have HOb12 := Lib.hid (HOb11.out.below hS'.below)
          have HRs12 := Lib.hid (HRs11.out.below hS'.below)
          have hbA := (Below.refl _ w12).alloc (Nat.le_refl _) (.cells #[.slice (some ⟨rb2', 0, none⟩) n rc2', .int .u32 536870912, .slice none 0 0, .slice none 0 0] 52)
          have HB13 := Lib.hid (HB12.out.trans (hbA.mono HB12.out.size))
          have HOa13 := Lib.hid (HOa12.out.below hbA)
          have HOb13 := Lib.hid (HOb12.out.below hbA)
          have HRs13 := Lib.hid (HRs12.out.below hbA)
          have HRt13 := Lib.hid (hS'.reg.below hbA)
          have dd : sb < tb ∧ sb < qb ∧ rb < tb ∧ rb < qb ∧ w.heap.size + 1 < rb ∧ w.heap.size + 1 < sb ∧ rb ≠ sb ∧ qb ≠ tb := by
            have h1 := HS10.out
            have h2 := HS12.out
            have := lt_of_block HRs11.out.blk
            have := HRs11.out.rlt
            have := h2.hB
            have := h2.mem.hb
            have := h2.hm1
            have := h2.hm4
            have := h2.hm5
            have := h1.hB
            have := h1.mem.hb
            have := h1.hm1
            have := h1.hm4
            have := h1.hm5
            have := lt_of_block HObr2.out
            have := h1.reg.ne
            have := h2.reg.ne
            omega
          have DD := Lib.hid dd
          obtain ⟨c0, c1, c2, c3, c4, c5, c6, c7⟩ := HOa13.out.cells
          clear hS' dd
          go_wp2_with fail
          generalize w12.alloc _ = w13 at HB13 HOa13 HOb13 HRs13 HRt13 c0 c1 c2 c3 c4 c5 c6 c7 ⊢
          refine (HD1.out sb rb rc mb _ w13 HRs13.out).mono ?_
          rintro e w14 ⟨rfl, hR, hg⟩
          have dd := DD.out
          have HRs14 := Lib.hid hR
          have HRt14 := Lib.hid (HRt13.out.grown hg (by omega) (by omega))
          have HB14 := Lib.hid (HB13.out.grown hg HB13.out.size (fun b e => by injection e with e; omega))
          have HOa14 := Lib.hid (HOa13.out.grown hg (by omega))
          have HOb14 := Lib.hid (HOb13.out.grown hg (by omega))
          clear hR hg dd c0 c1 c2 c3 c4 c5 c6 c7
          obtain ⟨c0, c1, c2, c3, c4, c5, c6, c7⟩ := HOb14.out.cells
          go_wp2_with fail
          refine (HD2.out sb rb rc mb _ w14 HRs14.out).mono ?_
          rintro e w15 ⟨rfl, hR, hg⟩
          have dd := DD.out
          have HRs15 := Lib.hid hR
          have HRt15 := Lib.hid (HRt14.out.grown hg (by omega) (by omega))
          have HB15 := Lib.hid (HB14.out.grown hg HB14.out.size (fun b e => by injection e with e; omega))
          have HOa15 := Lib.hid (HOa14.out.grown hg (by omega))
          have HOb15 := Lib.hid (HOb14.out.grown hg (by omega))
          clear hR hg dd c0 c1 c2 c3 c4 c5 c6 c7
          obtain ⟨c0, c1, c2, c3, c4, c5, c6, c7⟩ := HOb15.out.cells
          go_wp2_with fail
          refine (HD3.out tb qb qc mb' _ w15 HRt15.out).mono ?_
          rintro e w16 ⟨rfl, hR, hg⟩
          have dd := DD.out
          have HRt16 := Lib.hid hR
          have HRs16 := Lib.hid (HRs15.out.grown hg (by omega) (by omega))
          have HB16 := Lib.hid (HB15.out.grown hg HB15.out.size (fun b e => by injection e with e; omega))
          have HOa16 := Lib.hid (HOa15.out.grown hg (by omega))
          have HOb16 := Lib.hid (HOb15.out.grown hg (by omega))
          clear hR hg dd c0 c1 c2 c3 c4 c5 c6 c7
          obtain ⟨c0, c1, c2, c3, c4, c5, c6, c7⟩ := HOa16.out.cells
          go_wp2_with fail
          refine (HD4.out tb qb qc mb' _ w16 HRt16.out).mono ?_
          rintro e w17 ⟨rfl, hR, hg⟩
          have dd := DD.out
          have HRt17 := Lib.hid hR
          have HRs17 := Lib.hid (HRs16.out.grown hg (by omega) (by omega))
          have HB17 := Lib.hid (HB16.out.grown hg HB16.out.size (fun b e => by injection e with e; omega))
          have HOa17 := Lib.hid (HOa16.out.grown hg (by omega))
          have HOb17 := Lib.hid (HOb16.out.grown hg (by omega))
          clear hR hg dd c0 c1 c2 c3 c4 c5 c6 c7
          obtain ⟨p0, p1, p2⟩ := HRs17.out.cells
          obtain ⟨r0, r1, r2⟩ := HRt17.out.cells
          go_wp2_with fail
          have hrsm := HRs17.out.small
          go_loopw [167] (fun i wz => ∃ j : Nat, j ≤ R2.length ∧ i = .int .i64 j ∧ ∃ nd, wz = w17.drewN nd) (fun i _ => R2.length - (intOf i).toNat)
          case atStart => exact ⟨0, Nat.zero_le _, rfl, 0, rfl⟩
          case round =>
            obtain ⟨j, hj, rfl, nd, rfl⟩ := hrel
            by_cases hlj : j < R2.length
            · have y0 := HRs17.out.row j hlj
              have z0 := HRt17.out.row j hlj
              obtain ⟨Y, hY⟩ : ∃ Y, R2[j]'hlj = Y := ⟨_, rfl⟩
              rw [hY] at y0 z0
              clear hY
              have e1 : decide ((R2.length : Int) ≤ (j : Int)) = false := by simp; omega
              have i0 : (0 : Int) ≤ (j : Int) := by omega
              have i1 : (j : Int) < (R2.length : Int) := by omega
              have wq' : IntKind.i64.wrap ((j : Int) + 1) = (j : Int) + 1 := IntWalk.i64_in _ (by omega)
              go_wp2_with fail
              go_quiet (fail)
              go_wp2_with fail
              exact ⟨⟨j + 1, by omega, by simp, _, rfl⟩, by simp only [intOf]; omega⟩
            · have hjq : j = R2.length := by omega
              go_wp2_with fail
              go_ret
              exact ⟨rfl, below_drewN HB17.out nd⟩
end Go.Proofs.YtmkencdkglbpbaaDoor
