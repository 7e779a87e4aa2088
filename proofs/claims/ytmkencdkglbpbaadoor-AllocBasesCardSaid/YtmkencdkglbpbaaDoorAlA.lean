/- alloc: slices.Index, slices.Contains, where, offset. -/
import Derived.Test.YtmkencdkglbpbaaDoorRightL
set_option maxRecDepth 100000
set_option linter.unusedVariables false
namespace Go.Proofs.YtmkencdkglbpbaaDoor
open Go.RowKit

/-- Where a number stands first, from a place on; -1: nowhere. -/
def idxV : List Int → Int → Nat → Int
  | [], _, _ => -1
  | x :: l, v, k => if v = x then k else idxV l v (k + 1)
theorem idxV_bd : ∀ (L : List Int) (v : Int) (k : Nat), -1 ≤ idxV L v k ∧ idxV L v k < k + L.length
  | [], v, k => by simp [idxV]; omega
  | x :: l, v, k => by
    have ih := idxV_bd l v (k + 1)
    unfold idxV
    split
    · simp; omega
    · simp only [List.length_cons]; omega
theorem idxV_mem : ∀ (L : List Int) (v : Int) (k : Nat), 0 ≤ idxV L v k ↔ v ∈ L
  | [], v, k => by simp [idxV]
  | x :: l, v, k => by
    have ih := idxV_mem l v (k + 1)
    unfold idxV
    by_cases h : v = x
    · rw [if_pos h]; simp [h]
    · rw [if_neg h, ih]; simp [h]

set_option maxHeartbeats 1000000 in
theorem index_any (b o : Nat) (n c : Nat) (L : List Int) (v : Int) (w : World) (hL : IRow w b o L) (hn : L.length = n) (hn2 : n ≤ 100000) :
    Calls Tryd.prog 74 #[.slice (some ⟨b, o, none⟩) n c, .int .i64 v] w fun e w' => e = .returned (.int .i64 (idxV L v 0)) ∧ w' = w := by
  have HL := Lib.hid hL
  have HN := Lib.hid hn
  obtain ⟨V, hV⟩ : ∃ V, V = idxV L v 0 := ⟨_, rfl⟩
  rw [← hV]
  have HV := Lib.hid hV
  clear hL hn hV
  go_enter Tryd.func74, Tryd.ntmps74
  go_wp2_with fail
  go_loopw [8] (fun i wr => ∃ k : Nat, k ≤ n ∧ i = .int .i64 k ∧ wr = w ∧ idxV (L.drop k) v k = V) (fun i _ => n - (intOf i).toNat)
  case atStart => exact ⟨0, Nat.zero_le _, rfl, rfl, HV.out.symm⟩
  case round =>
    obtain ⟨k, hk, rfl, rfl, hv⟩ := hrel
    have Hv := Lib.hid hv
    clear hv
    by_cases hlt : k < n
    · have hlt' : k < L.length := by rw [HN.out]; exact hlt
      have c0 := HL.out.2 k hlt'
      have hdr : L.drop k = L[k] :: L.drop (k + 1) := List.drop_eq_getElem_cons hlt'
      generalize L[k]'hlt' = X at c0 hdr
      have hv := Hv.out
      rw [hdr, idxV] at hv
      have wq : IntKind.i64.wrap ((k : Int) + 1) = (k : Int) + 1 := IntWalk.i64_in _ (by omega)
      clear hdr
      by_cases hx : v = X
      · have e1 : (v == X) = true := by simpa using hx
        rw [if_pos hx] at hv
        have HVV := Lib.hid hv
        clear hx hv
        go_wp2_with fail
        go_ret
        exact ⟨by rw [← HVV.out]; rfl, rfl⟩
      · have e1 : (v == X) = false := by simpa using hx
        rw [if_neg hx] at hv
        have HVV := Lib.hid hv
        clear hx hv
        go_wp2_with fail
        exact ⟨⟨k + 1, by omega, by simp, trivial, HVV.out⟩, by simp only [intOf]; omega⟩
    · have hkn : k = n := by omega
      have hv := Hv.out
      rw [hkn, ← HN.out, List.drop_length, idxV] at hv
      have HVV := Lib.hid hv
      clear hv
      go_wp2_with fail
      go_ret
      exact ⟨by rw [← HVV.out]; rfl, rfl⟩
theorem index_nil (n c : Nat) (x : Option Addr) (v : Int) (w : World) (hn : n = 0) :
    Calls Tryd.prog 74 #[.slice x n c, .int .i64 v] w fun e w' => e = .returned (.int .i64 (-1)) ∧ w' = w := by
  subst hn
  go_enter Tryd.func74, Tryd.ntmps74
  go_wp2_with fail
  refine wp_loop_rounds 1 ?_
  rw [rounds_succ]
  go_wp2_with fail
  go_ret
  exact ⟨rfl, rfl⟩
/-- A slice of numbers that may be empty. -/
theorem index_sl (x : Option Addr) (n c : Nat) (L : List Int) (v : Int) (w : World) (hL : LSl w x L) (hn : L.length = n) (hn2 : n ≤ 100000) :
    Calls Tryd.prog 74 #[.slice x n c, .int .i64 v] w fun e w' => e = .returned (.int .i64 (idxV L v 0)) ∧ w' = w := by
  rcases hL with rfl | ⟨g, rfl, h⟩
  · exact index_nil n c x v w (by simpa using hn.symm)
  · exact index_any g 0 n c L v w h hn hn2
theorem contains_sl (x : Option Addr) (n c : Nat) (L : List Int) (v : Int) (w : World) (hL : LSl w x L) (hn : L.length = n) (hn2 : n ≤ 100000) :
    Calls Tryd.prog 75 #[.slice x n c, .int .i64 v] w fun e w' => e = .returned (.bool (L.contains v)) ∧ w' = w := by
  have HC := Lib.hid (index_sl x n c L v w hL hn hn2)
  have hv : decide (0 ≤ idxV L v 0) = L.contains v := by
    rw [Bool.eq_iff_iff, decide_eq_true_iff, idxV_mem, List.contains_iff_mem]
  generalize L.contains v = V at hv ⊢
  generalize idxV L v 0 = X at hv HC
  go_enter Tryd.func75, Tryd.ntmps75
  go_wp2_with fail
  refine HC.out.mono ?_
  rintro e w2 ⟨rfl, rfl⟩
  go_wp2_with fail
  go_ret
  exact ⟨rfl, rfl⟩
theorem where_any (ab : Nat) (G : List Int) (v : Int) (w : World) (hG : IRow w ab 4 G) (hn : G.length = 8) :
    Calls Tryd.prog 67 #[.pointer (some ⟨ab, 0, none⟩), .int .i64 v] w fun e w' => e = .returned (.int .i64 (idxV G v 0)) ∧ w' = w := by
  have HC := Lib.hid (index_any ab 4 8 8 G v w hG hn (by omega))
  generalize idxV G v 0 = X at HC ⊢
  clear hG
  go_enter Tryd.func67, Tryd.ntmps67
  go_wp2_with fail
  refine HC.out.mono ?_
  rintro e w2 ⟨rfl, rfl⟩
  go_wp2_with fail
  go_ret
  exact ⟨rfl, rfl⟩
theorem offset_any (ab : Nat) (base s : Int) (w : World) (hc : w.cell? ⟨ab, 1, none⟩ = some (.int .i64 base)) (hb : 0 ≤ base ∧ base ≤ 1020) (hs : 0 ≤ s ∧ s ≤ 100000) :
    Calls Tryd.prog 68 #[.pointer (some ⟨ab, 0, none⟩), .int .i64 s] w fun e w' => e = .returned (.int .u32 (base + 4 * s)) ∧ w' = w := by
  have w1 : IntKind.i64.wrap (4 * s) = 4 * s := IntWalk.i64_in _ (by omega)
  have w2 : IntKind.i64.wrap (base + 4 * s) = base + 4 * s := IntWalk.i64_in _ (by omega)
  have w3 : IntKind.u32.wrap (base + 4 * s) = base + 4 * s := by rw [IntKind.wrap_u32]; omega
  obtain ⟨b0, b1⟩ := hb
  obtain ⟨s0, s1⟩ := hs
  go_enter Tryd.func68, Tryd.ntmps68
  go_wp2_with fail
  go_ret
  exact ⟨rfl, rfl⟩
end Go.Proofs.YtmkencdkglbpbaaDoor
