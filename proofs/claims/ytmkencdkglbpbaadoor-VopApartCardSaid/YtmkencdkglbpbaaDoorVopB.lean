/- vop: is, number, placed; the document's reg and Shape. -/
import Derived.Test.YtmkencdkglbpbaaDoorVopA
set_option maxRecDepth 100000
set_option linter.unusedVariables false
namespace Go.Proofs.YtmkencdkglbpbaaDoor
open Go.RowKit

theorem is_any (K : Int) (w : World) : Calls Tryd.prog 40 #[.int .i64 K] w fun e w' => e = .returned (.bool (decide (1 ≤ K) && decide (K ≤ 31))) ∧ w' = w := by
  by_cases h0 : 1 ≤ K
  · have e1 : decide ((1 : Int) ≤ K) = true := by simpa using h0
    go_enter Tryd.func40, Tryd.ntmps40
    go_wp2
    go_ret
    exact ⟨by simp [h0], rfl⟩
  · have e1 : decide ((1 : Int) ≤ K) = false := by simpa using h0
    go_enter Tryd.func40, Tryd.ntmps40
    go_wp2
    go_ret
    exact ⟨by simp, rfl⟩

/-- May N be, of a kind? -/
def numberV (K N : Int) : Bool :=
  if K = 1 then true else if K = 2 ∨ K = 3 ∨ K = 4 then decide (N % 4 = 0) && decide (N ≤ 1020) else if K = 18 ∨ K = 19 ∨ K = 20 then decide (1 ≤ N) && decide (N < 32)
  else if K = 30 then (decide (1 ≤ N) && decide (N ≤ 255)) || (decide (N % 4 = 0) && decide (255 < N) && decide (N ≤ 1024)) else decide (N = 0)

set_option maxHeartbeats 1000000 in
theorem number_any (K N : Int) (h0 : 0 ≤ N) (h1 : N < 4294967296) (w : World) : Calls Tryd.prog 42 #[.int .i64 K, .int .u32 N] w fun e w' => e = .returned (.bool (numberV K N)) ∧ w' = w := by
  obtain ⟨V, hV⟩ : ∃ V, V = numberV K N := ⟨_, rfl⟩
  rw [← hV]
  have HV := Lib.hid hV
  clear hV
  go_enter Tryd.func42, Tryd.ntmps42
  go_wp2
  all_goals go_ret
  all_goals (refine ⟨?_, rfl⟩; rw [HV.out]; simp_all [numberV] <;> first | omega | (rw [Bool.eq_iff_iff]; simp))

theorem reg_any (r i n : Int) (w : World) : Calls Tryd.prog 52 #[.int .i64 r, .int .i64 i, .int .i64 n] w fun e w' => e = .returned (.bool (if i < n then decide (0 ≤ r) && decide (r ≤ 65535) else decide (r = -1))) ∧ w' = w := by
  obtain ⟨V, hV⟩ : ∃ V, V = (if i < n then decide (0 ≤ r) && decide (r ≤ 65535) else decide (r = -1)) := ⟨_, rfl⟩
  rw [← hV]
  have HV := Lib.hid hV
  clear hV
  go_enter Tryd.func52, Tryd.ntmps52
  go_wp2
  all_goals go_ret
  all_goals (refine ⟨?_, rfl⟩; rw [HV.out]; simp_all <;> first | omega | (rw [if_neg (by omega), Bool.eq_iff_iff]; simp))

/-- May a number stand at a place? -/
def okAt (n : Int) (j : Nat) (x : Int) : Bool := if (j : Int) < n then decide (0 ≤ x) && decide (x ≤ 65535) else decide (x = -1)
def placedV (n : Int) : Nat → List Int → Bool
  | _, [] => true
  | j, x :: r => okAt n j x && placedV n (j + 1) r
theorem placedV_drop (n : Int) (F : List Int) (k : Nat) (hk : k < F.length) : placedV n k (F.drop k) = (okAt n k F[k] && placedV n (k + 1) (F.drop (k + 1))) := by
  rw [List.drop_eq_getElem_cons hk, placedV]

set_option maxHeartbeats 1000000 in
theorem placed_any (b o q cap : Nat) (F : List Int) (n : Int) (w : World) (hF : IRow w b o F) (hq : F.length = q) (hq2 : q ≤ 1000) :
    Calls Tryd.prog 41 #[.slice (some ⟨b, o, none⟩) q cap, .int .i64 n] w fun e w' => e = .returned (.bool (placedV n 0 F)) ∧ w' = w := by
  obtain ⟨V, hV⟩ : ∃ V, V = placedV n 0 F := ⟨_, rfl⟩
  rw [← hV]
  have HF := Lib.hid hF
  have Hq := Lib.hid hq
  clear hF hq
  go_enter Tryd.func41, Tryd.ntmps41
  go_wp2_with fail
  go_loop [9] (fun i => ∃ k : Nat, k ≤ q ∧ i = .int .i64 k ∧ V = placedV n k (F.drop k)) (fun i => q - (intOf i).toNat)
  case atStart => exact ⟨0, Nat.zero_le _, rfl, hV⟩
  case round =>
    obtain ⟨k, hk, rfl, hV2⟩ := hrel
    have HV := Lib.hid hV2
    clear hV2 hV
    by_cases hlt : k < q
    · have hlt' : k < F.length := by rw [Hq.out]; exact hlt
      have c0 := HF.out.2 k hlt'
      have hst := placedV_drop n F k hlt'
      obtain ⟨x, hx⟩ : ∃ x, F[k]'hlt' = x := ⟨_, rfl⟩
      rw [hx] at c0 hst
      have Hst := Lib.hid hst
      have wq : IntKind.i64.wrap ((k : Int) + 1) = (k : Int) + 1 := IntWalk.i64_in _ (by omega)
      clear hst hx
      by_cases hok : okAt n k x = true
      · have HN : Hid (V = placedV n (k + 1) (F.drop (k + 1))) := by rw [HV.out, Hst.out, hok]; rfl
        unfold okAt at hok
        by_cases hn : (k : Int) < n
        · rw [if_pos hn] at hok
          simp only [Bool.and_eq_true, decide_eq_true_eq] at hok
          have e1 : decide ((k : Int) < n) = true := by simpa using hn
          have e2 : decide (x < 0) = false := by simp; omega
          have e3 : decide ((65535 : Int) < x) = false := by simp; omega
          have e4 : decide (n ≤ (k : Int)) = false := by simp; omega
          go_wp2_with fail
          exact ⟨⟨k + 1, by omega, by simp, HN.out⟩, by simp only [intOf]; omega⟩
        · rw [if_neg hn] at hok
          simp only [decide_eq_true_eq] at hok
          subst hok
          have e1 : decide ((k : Int) < n) = false := by simpa using hn
          have e4 : decide (n ≤ (k : Int)) = true := by simp; omega
          go_wp2_with fail
          exact ⟨⟨k + 1, by omega, by simp, HN.out⟩, by simp only [intOf]; omega⟩
      · have HN : Hid (V = false) := by rw [HV.out, Hst.out, (Bool.not_eq_true _).mp hok]; rfl
        unfold okAt at hok
        by_cases hn : (k : Int) < n
        · rw [if_pos hn] at hok
          have e1 : decide ((k : Int) < n) = true := by simpa using hn
          by_cases h0 : x < 0
          · have e2 : decide (x < 0) = true := by simpa using h0
            go_wp2_with fail
            go_ret
            exact ⟨by rw [HN.out]; rfl, rfl⟩
          · have e2 : decide (x < 0) = false := by simpa using h0
            have e3 : decide ((65535 : Int) < x) = true := by simp at hok ⊢; omega
            go_wp2_with fail
            go_ret
            exact ⟨by rw [HN.out]; rfl, rfl⟩
        · rw [if_neg hn] at hok
          have e1 : decide ((k : Int) < n) = false := by simpa using hn
          have e4 : decide (n ≤ (k : Int)) = true := by simp; omega
          have e5 : (x != -1) = true := by simpa using hok
          go_wp2_with fail
          go_ret
          exact ⟨by rw [HN.out]; rfl, rfl⟩
    · have hkq : k = q := by omega
      have HN : Hid (V = true) := by
        rw [HV.out, hkq, List.drop_of_length_le (by rw [Hq.out]; exact Nat.le_refl _)]; rfl
      go_wp2_with fail
      go_ret
      exact ⟨by rw [HN.out]; rfl, rfl⟩
end Go.Proofs.YtmkencdkglbpbaaDoor
