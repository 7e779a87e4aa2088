/- vop: Run of right operations. -/
import Derived.Test.YtmkencdkglbpbaaDoorVopW
import Derived.Test.YtmkencdkglbpbaaDoorOps8
set_option maxRecDepth 100000
set_option linter.unusedVariables false
namespace Go.Proofs.YtmkencdkglbpbaaDoor
open Go.RowKit

/-- What it does. -/
def Op8.run (o : Op8) (S : Int) (R : List Int) (m : Nat → Int) : Int × Int × List Int × (Nat → Int) := doM o.K o.t0 o.t1 o.f0 o.f1 o.f2 o.f3 o.N S R m
/-- A run: its operations, up to the first that traps. -/
def runM (S : Int) : List Op8 → List Int → (Nat → Int) → Int × Int × List Int × (Nat → Int)
  | [], R, m => (0, 0, R, m)
  | o :: l, R, m => if (o.run S R m).1 ≠ 0 ∨ (o.run S R m).2.1 ≠ 0 then o.run S R m else runM S l (o.run S R m).2.2.1 (o.run S R m).2.2.2

theorem op_full (sb rb rc mb : Nat) (fv : Value) (rg B : Nat) (S : Int) (R : List Int) (m : Nat → Int) (o : Op8) (w : World) (hSt : StAt w sb rb rc mb fv rg B S R m) (h : o.ok) :
    Calls Tryd.prog 22 #[.pointer (some ⟨sb, 0, none⟩), opV o.K o.t0 o.t1 o.f0 o.f1 o.f2 o.f3 o.N] w fun e w' => e = .returned (.tuple #[.int .i64 (o.run S R m).1, .int .i64 (o.run S R m).2.1]) ∧ StAt w' sb rb rc mb fv rg B S (o.run S R m).2.2.1 (o.run S R m).2.2.2 ∧ Kept w w' rb rg := by
  obtain ⟨K, t0, t1, f0, f1, f2, f3, N⟩ := o
  obtain ⟨h1, h2⟩ := h
  obtain ⟨k, hk, hr⟩ := rightOp_of h1
  simp only at hk hr h2 ⊢
  subst hk
  exact do_full sb rb rc mb fv rg B S R m k t0 t1 f0 f1 f2 f3 N w hSt hr h2

set_option maxHeartbeats 4000000 in
theorem run_any (sb rb rc mb : Nat) (fv : Value) (rg B : Nat) (S : Int) (R : List Int) (m : Nat → Int) (x : Option Addr) (n c : Nat) (L : List Op8) (w : World) (hSt : StAt w sb rb rc mb fv rg B S R m) (hL : OpsSl w x L) (hn : L.length = n) (hl : n ≤ 100000) (hok : ∀ o ∈ L, o.ok)
    (hx : ∀ b o, x = some ⟨b, o, none⟩ → b ≠ rb ∧ b ≠ rg) (hnc : n ≤ c) :
    Calls Tryd.prog 34 #[.pointer (some ⟨sb, 0, none⟩), .slice x n c] w fun e w' => e = .returned (.tuple #[.int .i64 (runM S L R m).1, .int .i64 (runM S L R m).2.1]) ∧ StAt w' sb rb rc mb fv rg B S (runM S L R m).2.2.1 (runM S L R m).2.2.2 ∧ Kept w w' rb rg := by
  have HSt := Lib.hid hSt
  have HL := Lib.hid hL
  have HN := Lib.hid hn
  have HOK := Lib.hid hok
  have HX := Lib.hid hx
  obtain ⟨V, hV⟩ : ∃ V, V = runM S L R m := ⟨_, rfl⟩
  rw [← hV]
  have HV := Lib.hid hV
  clear hSt hL hn hok hx hV
  go_enter Tryd.func34, Tryd.ntmps34
  go_wp2_with fail
  go_loopw [12] (fun i wr => ∃ (k : Nat) (R' : List Int) (m' : Nat → Int), k ≤ n ∧ i = .int .i64 k ∧ StAt wr sb rb rc mb fv rg B S R' m' ∧ Kept w wr rb rg ∧ runM S (L.drop k) R' m' = V) (fun i _ => n - (intOf i).toNat)
  case atStart => exact ⟨0, R, m, Nat.zero_le _, rfl, HSt.out, Kept.of_below _ _ (Below.refl _ _), by rw [HV.out]; rfl⟩
  case round =>
    obtain ⟨k, R', m', hk, rfl, hst, hkp, hv⟩ := hrel
    have HSTr := Lib.hid hst
    have HKP := Lib.hid hkp
    have Hv := Lib.hid hv
    have HLr := Lib.hid (HL.out.kept hkp.size fun b o e hb => hkp.block b hb (HX.out b o e).1 (HX.out b o e).2)
    clear hst hkp hv
    by_cases hlt : k < n
    · have hlt' : k < L.length := by rw [HN.out]; exact hlt
      obtain ⟨b, o, rfl, hb, hc⟩ := HLr.out.resolve_left (by omega)
      obtain ⟨c0, c1, c2, c3, c4, c5, c6, c7⟩ := hc k hlt'
      have hdrop : L.drop k = L[k] :: L.drop (k + 1) := List.drop_eq_getElem_cons hlt'
      have hop := HOK.out _ (List.getElem_mem hlt')
      generalize L[k]'hlt' = p at c0 c1 c2 c3 c4 c5 c6 c7 hdrop hop
      have HD := Lib.hid hdrop
      have HP := Lib.hid hop
      have wq : IntKind.i64.wrap ((k : Int) + 1) = (k : Int) + 1 := IntWalk.i64_in _ (by omega)
      have hbA := (Below.refl _ wr).alloc (Nat.le_refl _) (.cells #[.int .i64 p.K, .int .i64 p.t0, .int .i64 p.t1, .int .i64 p.f0, .int .i64 p.f1, .int .i64 p.f2, .int .i64 p.f3, .int .u32 p.N] 37)
      clear hc hdrop hop
      have dlt : b ≠ wr.heap.size := by omega
      go_wp2_with fail
      generalize wr.alloc _ = w1 at hbA ⊢
      have HB1 := Lib.hid hbA
      clear hbA c0 c1 c2 c3 c4 c5 c6 c7
      have hdo := op_full sb rb rc mb fv rg B S R' m' p w1 (HSTr.out.below HB1.out) HP.out
      refine hdo.mono ?_
      rintro e w2 ⟨rfl, hst2, hk2⟩
      have hrun : (if (p.run S R' m').1 ≠ 0 ∨ (p.run S R' m').2.1 ≠ 0 then p.run S R' m' else runM S (L.drop (k + 1)) (p.run S R' m').2.2.1 (p.run S R' m').2.2.2) = V := by
        rw [← Hv.out, HD.out]; rfl
      have HR := Lib.hid hrun
      have HST2 := Lib.hid hst2
      have HK2 := Lib.hid (HKP.out.trans ((Kept.of_below rb rg HB1.out).trans hk2))
      generalize p.run S R' m' = Q at HR HST2 ⊢
      obtain ⟨q1, q2, R2, m2⟩ := Q
      clear hdo hrun hst2 hk2
      dsimp only at HR HST2 ⊢
      by_cases hq1 : q1 = 0
      · by_cases hq2 : q2 = 0
        · subst hq1 hq2
          go_wp2_with fail
          refine ⟨⟨k + 1, R2, m2, by omega, by simp, HST2.out, HK2.out, ?_⟩, by simp only [intOf]; omega⟩
          simpa using HR.out
        · have e2 : (q2 == 0) = false := by simpa using hq2
          have HQ := Lib.hid hq2
          subst hq1
          clear hq2
          go_wp2_with fail
          go_ret2
          have hv := HR.out
          rw [if_pos (.inr HQ.out)] at hv
          rw [← hv]
          exact ⟨rfl, HST2.out, HK2.out⟩
      · have e1 : (q1 == 0) = false := by simpa using hq1
        have HQ := Lib.hid hq1
        clear hq1
        go_wp2_with fail
        go_ret2
        have hv := HR.out
        rw [if_pos (.inl HQ.out)] at hv
        rw [← hv]
        exact ⟨rfl, HST2.out, HK2.out⟩
    · have hkn : k = n := by omega
      have hv := Hv.out
      rw [hkn, ← HN.out, List.drop_length] at hv
      have HVV := Lib.hid hv
      clear hv
      go_wp2_with fail
      go_ret2
      rw [← HVV.out]
      exact ⟨rfl, HSTr.out, HKP.out⟩
end Go.Proofs.YtmkencdkglbpbaaDoor
