/- vop: Run of right operations. -/
import Derived.Test.YtmkencdkglbpbaaVopW
set_option maxRecDepth 100000
set_option linter.unusedVariables false
namespace Go.Proofs.Ytmkencdkglbpbaa
open Go.RowKit

/-- An operation. -/
structure Op8 where
  K : Int
  t0 : Int
  t1 : Int
  f0 : Int
  f1 : Int
  f2 : Int
  f3 : Int
  N : Int
/-- It may be. -/
def Op8.ok (o : Op8) : Prop := rightV o.K o.t0 o.t1 o.f0 o.f1 o.f2 o.f3 o.N = true ∧ 0 ≤ o.N ∧ o.N < 4294967296
/-- What it does. -/
def Op8.run (o : Op8) (S : Int) (R : List Int) (m : Nat → Int) : Int × Int × List Int × (Nat → Int) := doM o.K o.t0 o.t1 o.f0 o.f1 o.f2 o.f3 o.N S R m
/-- A run: its operations, up to the first that traps. -/
def runM (S : Int) : List Op8 → List Int → (Nat → Int) → Int × Int × List Int × (Nat → Int)
  | [], R, m => (0, 0, R, m)
  | o :: l, R, m => if (o.run S R m).1 ≠ 0 ∨ (o.run S R m).2.1 ≠ 0 then o.run S R m else runM S l (o.run S R m).2.2.1 (o.run S R m).2.2.2

/-- A slice of operations in memory. -/
def OpsSl (w : World) (x : Option Addr) (L : List Op8) : Prop := L.length = 0 ∨ ∃ b o, x = some ⟨b, o, none⟩ ∧ b < w.heap.size ∧ ∀ i (hi : i < L.length),
  w.cell? ⟨b, o + i * 8, none⟩ = some (.int .i64 L[i].K) ∧ w.cell? ⟨b, o + i * 8 + 1, none⟩ = some (.int .i64 L[i].t0) ∧ w.cell? ⟨b, o + i * 8 + 2, none⟩ = some (.int .i64 L[i].t1) ∧ w.cell? ⟨b, o + i * 8 + 3, none⟩ = some (.int .i64 L[i].f0) ∧
  w.cell? ⟨b, o + i * 8 + 4, none⟩ = some (.int .i64 L[i].f1) ∧ w.cell? ⟨b, o + i * 8 + 5, none⟩ = some (.int .i64 L[i].f2) ∧ w.cell? ⟨b, o + i * 8 + 6, none⟩ = some (.int .i64 L[i].f3) ∧ w.cell? ⟨b, o + i * 8 + 7, none⟩ = some (.int .u32 L[i].N)
theorem OpsSl.kept {w w' : World} {x : Option Addr} {L : List Op8} (h : OpsSl w x L) (hs : w.heap.size ≤ w'.heap.size) (hk : ∀ b o, x = some ⟨b, o, none⟩ → b < w.heap.size → w'.heap[b]? = w.heap[b]?) : OpsSl w' x L := by
  rcases h with h | ⟨b, o, rfl, hl, hc⟩
  · exact .inl h
  · have hb := hk b o rfl hl
    refine .inr ⟨b, o, rfl, Nat.lt_of_lt_of_le hl hs, fun i hi => ?_⟩
    obtain ⟨h0, h1, h2, h3, h4, h5, h6, h7⟩ := hc i hi
    exact ⟨(World.cell?_of_block hb).trans h0, (World.cell?_of_block hb).trans h1, (World.cell?_of_block hb).trans h2, (World.cell?_of_block hb).trans h3, (World.cell?_of_block hb).trans h4, (World.cell?_of_block hb).trans h5, (World.cell?_of_block hb).trans h6, (World.cell?_of_block hb).trans h7⟩
theorem OpsSl.below {w w' : World} {x : Option Addr} {L : List Op8} (h : OpsSl w x L) (hb : Below w.heap.size w w') : OpsSl w' x L := h.kept hb.size fun b o _ hl => hb.block b hl

theorem op_full (sb rb rc mb : Nat) (fv : Value) (rg B : Nat) (S : Int) (R : List Int) (m : Nat → Int) (o : Op8) (w : World) (hSt : StAt w sb rb rc mb fv rg B S R m) (h : o.ok) :
    Calls Try.prog 10 #[.pointer (some ⟨sb, 0, none⟩), opV o.K o.t0 o.t1 o.f0 o.f1 o.f2 o.f3 o.N] w fun e w' => e = .returned (.tuple #[.int .i64 (o.run S R m).1, .int .i64 (o.run S R m).2.1]) ∧ StAt w' sb rb rc mb fv rg B S (o.run S R m).2.2.1 (o.run S R m).2.2.2 ∧ Kept w w' rb rg := by
  obtain ⟨K, t0, t1, f0, f1, f2, f3, N⟩ := o
  obtain ⟨h1, h2⟩ := h
  obtain ⟨k, hk, hr⟩ := rightOp_of h1
  simp only at hk hr h2 ⊢
  subst hk
  exact do_full sb rb rc mb fv rg B S R m k t0 t1 f0 f1 f2 f3 N w hSt hr h2

set_option maxHeartbeats 4000000 in
theorem run_any (sb rb rc mb : Nat) (fv : Value) (rg B : Nat) (S : Int) (R : List Int) (m : Nat → Int) (x : Option Addr) (n c : Nat) (L : List Op8) (w : World) (hSt : StAt w sb rb rc mb fv rg B S R m) (hL : OpsSl w x L) (hn : L.length = n) (hl : n ≤ 100) (hok : ∀ o ∈ L, o.ok)
    (hx : ∀ b o, x = some ⟨b, o, none⟩ → b ≠ rb ∧ b ≠ rg) (hnc : n ≤ c) :
    Calls Try.prog 7 #[.pointer (some ⟨sb, 0, none⟩), .slice x n c] w fun e w' => e = .returned (.tuple #[.int .i64 (runM S L R m).1, .int .i64 (runM S L R m).2.1]) ∧ StAt w' sb rb rc mb fv rg B S (runM S L R m).2.2.1 (runM S L R m).2.2.2 ∧ Kept w w' rb rg := by
  have HSt := Lib.hid hSt
  have HL := Lib.hid hL
  have HN := Lib.hid hn
  have HOK := Lib.hid hok
  have HX := Lib.hid hx
  obtain ⟨V, hV⟩ : ∃ V, V = runM S L R m := ⟨_, rfl⟩
  rw [← hV]
  have HV := Lib.hid hV
  clear hSt hL hn hok hx hV
  go_enter Try.func7, Try.ntmps7
  go_wp2_with fail
  go_loopw [12] (fun i wr => ∃ (k : Nat) (R' : List Int) (m' : Nat → Int), k ≤ n ∧ i = .int .i64 k ∧ StAt wr sb rb rc mb fv rg B S R' m' ∧ Kept w wr rb rg ∧ runM S (L.drop k) R' m' = V) (fun i _ => n - (intOf i).toNat)
  case atStart => exact ⟨0, R, m, Nat.zero_le _, rfl, HSt.out, Kept.of_below _ _ (Below.refl _ _), by rw [HV.out]; rfl⟩
  case round =>
    obtain ⟨k, R', m', hk, rfl, hst, hkp, hv⟩ := hrel
    have HSTr := Lib.hid hst
    have HKP := Lib.hid hkp
    have Hv := Lib.hid hv
    have HLr := Lib.hid (HL.out.kept hkp.size fun b o e hb => hkp.block b hb (HX.out b o e).1 (HX.out b o e).2)
    clear hst hkp hv
    by_cases hlt : k < n
    · have hlt' : k < L.length := by rw [HN.out]; exact hlt
      obtain ⟨b, o, rfl, hb, hc⟩ := HLr.out.resolve_left (by omega)
      obtain ⟨c0, c1, c2, c3, c4, c5, c6, c7⟩ := hc k hlt'
      have hdrop : L.drop k = L[k] :: L.drop (k + 1) := List.drop_eq_getElem_cons hlt'
      have hop := HOK.out _ (List.getElem_mem hlt')
      generalize L[k]'hlt' = p at c0 c1 c2 c3 c4 c5 c6 c7 hdrop hop
      have HD := Lib.hid hdrop
      have HP := Lib.hid hop
      have wq : IntKind.i64.wrap ((k : Int) + 1) = (k : Int) + 1 := IntWalk.i64_in _ (by omega)
      have hbA := (Below.refl _ wr).alloc (Nat.le_refl _) (.cells #[.int .i64 p.K, .int .i64 p.t0, .int .i64 p.t1, .int .i64 p.f0, .int .i64 p.f1, .int .i64 p.f2, .int .i64 p.f3, .int .u32 p.N] 40)
      clear hc hdrop hop
      have dlt : b ≠ wr.heap.size := by omega
      go_wp2_with fail
      generalize wr.alloc _ = w1 at hbA ⊢
      have HB1 := Lib.hid hbA
      clear hbA c0 c1 c2 c3 c4 c5 c6 c7
      have hdo := op_full sb rb rc mb fv rg B S R' m' p w1 (HSTr.out.below HB1.out) HP.out
      refine hdo.mono ?_
      rintro e w2 ⟨rfl, hst2, hk2⟩
      have hrun : (if (p.run S R' m').1 ≠ 0 ∨ (p.run S R' m').2.1 ≠ 0 then p.run S R' m' else runM S (L.drop (k + 1)) (p.run S R' m').2.2.1 (p.run S R' m').2.2.2) = V := by
        rw [← Hv.out, HD.out]; rfl
      have HR := Lib.hid hrun
      have HST2 := Lib.hid hst2
      have HK2 := Lib.hid (HKP.out.trans ((Kept.of_below rb rg HB1.out).trans hk2))
      generalize p.run S R' m' = Q at HR HST2 ⊢
      obtain ⟨q1, q2, R2, m2⟩ := Q
      clear hdo hrun hst2 hk2
      dsimp only at HR HST2 ⊢
      by_cases hq1 : q1 = 0
      · by_cases hq2 : q2 = 0
        · subst hq1 hq2
          go_wp2_with fail
          refine ⟨⟨k + 1, R2, m2, by omega, by simp, HST2.out, HK2.out, ?_⟩, by simp only [intOf]; omega⟩
          simpa using HR.out
        · have e2 : (q2 == 0) = false := by simpa using hq2
          have HQ := Lib.hid hq2
          subst hq1
          clear hq2
          go_wp2_with fail
          go_ret2
          have hv := HR.out
          rw [if_pos (.inr HQ.out)] at hv
          rw [← hv]
          exact ⟨rfl, HST2.out, HK2.out⟩
      · have e1 : (q1 == 0) = false := by simpa using hq1
        have HQ := Lib.hid hq1
        clear hq1
        go_wp2_with fail
        go_ret2
        have hv := HR.out
        rw [if_pos (.inl HQ.out)] at hv
        rw [← hv]
        exact ⟨rfl, HST2.out, HK2.out⟩
    · have hkn : k = n := by omega
      have hv := Hv.out
      rw [hkn, ← HN.out, List.drop_length] at hv
      have HVV := Lib.hid hv
      clear hv
      go_wp2_with fail
      go_ret2
      rw [← HVV.out]
      exact ⟨rfl, HSTr.out, HKP.out⟩
end Go.Proofs.Ytmkencdkglbpbaa
