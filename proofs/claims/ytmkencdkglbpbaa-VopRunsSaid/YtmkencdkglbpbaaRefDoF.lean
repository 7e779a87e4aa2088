/- The document's Do: joined: what Do of the code does. -/
import Derived.Test.YtmkencdkglbpbaaRefDoE
set_option maxRecDepth 100000
set_option linter.unusedVariables false
namespace Go.Proofs.Ytmkencdkglbpbaa
open Go.RowKit

theorem not_word (x : Int) (h : 0 ≤ x ∧ x < 4294967296) : bits .xor .u32 4294967295 x = (4294967295 - x) % 4294967296 := by
  obtain ⟨n, rfl⟩ := Int.eq_ofNat_of_zero_le h.1
  have hn : n < 4294967296 := by omega
  have key : ∀ b : BitVec 32, (BitVec.ofInt 32 (4294967295 : Int) ^^^ b).toNat = 4294967295 - b.toNat := by
    intro b
    have e1 : BitVec.ofInt 32 (4294967295 : Int) = BitVec.allOnes 32 := by decide
    rw [e1, BitVec.allOnes_xor, BitVec.toNat_not]
  show IntKind.u32.wrap (((BitVec.ofInt 32 (4294967295 : Int) ^^^ BitVec.ofInt 32 (n : Int)).toNat : Nat) : Int) = _
  rw [key, BitVec.ofInt_natCast, BitVec.toNat_ofNat, IntKind.wrap_u32, Nat.mod_eq_of_lt (show n < 2 ^ 32 from hn)]
  have : ((4294967295 - n : Nat) : Int) = 4294967295 - n := by omega
  rw [this]
theorem rv_vv (R F : List Int) (i : Nat) (hF : ∀ x ∈ F, 0 ≤ x) : rv R F i = vvR R (padV F i) := by
  unfold rv padV vvR
  rw [List.getD_eq_getElem?_getD]
  cases h : F[i]? with
  | none => rfl
  | some r =>
    have := hF r (List.mem_of_getElem? h)
    simp only [Option.getD_some]
    rw [if_pos this]
/-- What the document's values say of a kind is what the code's do. -/
theorem res_val (kk : Nat) (N v0 v1 v2 v3 : Int) (hk : (kk = 1 ∨ 7 ≤ kk) ∧ kk ≤ 29) (hN : 0 ≤ N ∧ N < 4294967296) (h0 : 0 ≤ v0 ∧ v0 < 4294967296) (h1 : 0 ≤ v1 ∧ v1 < 4294967296) (h2 : 0 ≤ v2 ∧ v2 < 4294967296) (h3 : 0 ≤ v3 ∧ v3 < 4294967296) :
    0 ≤ (valL N v0 v1 v2 v3 (v0 / v1)).getD kk 0 ∧ (valL N v0 v1 v2 v3 (v0 / v1)).getD kk 0 < 18446744073709551616 ∧
    resV kk N v0 v1 v2 v3 = (0, some ((valL N v0 v1 v2 v3 (v0 / v1)).getD kk 0 % 4294967296, (valL N v0 v1 v2 v3 (v0 / v1)).getD kk 0 / 4294967296)) := by
  have small : ∀ x : Int, 0 ≤ x ∧ x < 4294967296 → 0 ≤ x ∧ x < 18446744073709551616 ∧ x % 4294967296 = x ∧ x / 4294967296 = 0 := fun x hx => by omega
  have one : ∀ (k : Nat) (x : Int), (valL N v0 v1 v2 v3 (v0 / v1)).getD k 0 = x → 0 ≤ x ∧ x < 4294967296 → resV k N v0 v1 v2 v3 = (0, some (x, 0)) →
      0 ≤ (valL N v0 v1 v2 v3 (v0 / v1)).getD k 0 ∧ (valL N v0 v1 v2 v3 (v0 / v1)).getD k 0 < 18446744073709551616 ∧
      resV k N v0 v1 v2 v3 = (0, some ((valL N v0 v1 v2 v3 (v0 / v1)).getD k 0 % 4294967296, (valL N v0 v1 v2 v3 (v0 / v1)).getD k 0 / 4294967296)) := fun k x hx hb hr => by
    obtain ⟨p1, p2, p3, p4⟩ := small x hb
    rw [hx, p3, p4]
    exact ⟨p1, p2, hr⟩
  have it := fun kind n => iterV_bd kind v0 h0 n
  have bt := fun op => u32_bits_bd op v0 v1
  have tb := fun b => truthV_bd b
  have hq0 : 0 ≤ v0 / v1 := Int.ediv_nonneg h0.1 h1.1
  have hq1 : v0 / v1 ≤ v0 := Int.ediv_le_self _ h0.1
  obtain ⟨⟨hk1, hk2⟩⟩ : Nonempty ((kk = 1 ∨ 7 ≤ kk) ∧ kk ≤ 29) := ⟨hk⟩
  rcases (show kk = 1 ∨ kk = 7 ∨ kk = 8 ∨ kk = 9 ∨ kk = 10 ∨ kk = 11 ∨ kk = 12 ∨ kk = 13 ∨ kk = 14 ∨ kk = 15 ∨ kk = 16 ∨ kk = 17 ∨ kk = 18 ∨ kk = 19 ∨ kk = 20 ∨ kk = 21 ∨ kk = 22 ∨ kk = 23 ∨ kk = 24 ∨ kk = 25 ∨ kk = 26 ∨ kk = 27 ∨ kk = 28 ∨ kk = 29 by omega) with rfl | rfl | rfl | rfl | rfl | rfl | rfl | rfl | rfl | rfl | rfl | rfl | rfl | rfl | rfl | rfl | rfl | rfl | rfl | rfl | rfl | rfl | rfl | rfl
  · exact one 1 N rfl hN rfl
  · exact one 7 _ rfl (bt .and) rfl
  · exact one 8 _ rfl (bt .or) rfl
  · exact one 9 _ rfl (bt .xor) rfl
  · exact one 10 ((v0 + v1) % 4294967296) rfl (by omega) rfl
  · exact one 11 ((v0 - v1) % 4294967296) rfl (by omega) rfl
  · exact one 12 (v0 * v1 % 4294967296) rfl (by omega) rfl
  · exact one 13 _ rfl (it 0 _) rfl
  · exact one 14 _ rfl (it 1 _) rfl
  · exact one 15 _ rfl (it 3 _) rfl
  · refine one 16 ((4294967295 - v0) % 4294967296) rfl (by omega) ?_
    rw [← not_word v0 h0]; rfl
  · exact one 17 ((-v0) % 4294967296) rfl (by omega) rfl
  · exact one 18 _ rfl (it 0 _) rfl
  · exact one 19 _ rfl (it 1 _) rfl
  · exact one 20 _ rfl (it 3 _) rfl
  · exact one 21 _ rfl (tb _) rfl
  · exact one 22 _ rfl (tb _) rfl
  · exact ⟨by show 0 ≤ (v1 * 4294967296 + v0 + (v3 * 4294967296 + v2)) % 18446744073709551616; omega, by show (v1 * 4294967296 + v0 + (v3 * 4294967296 + v2)) % 18446744073709551616 < _; omega, rfl⟩
  · exact ⟨by show 0 ≤ (v1 * 4294967296 + v0 - (v3 * 4294967296 + v2)) % 18446744073709551616; omega, by show (v1 * 4294967296 + v0 - (v3 * 4294967296 + v2)) % 18446744073709551616 < _; omega, rfl⟩
  · refine ⟨(tb _).1, ?_, rfl⟩
    have := (tb (decide (v1 * 4294967296 + v0 < v3 * 4294967296 + v2))).2
    show truthV (decide (v1 * 4294967296 + v0 < v3 * 4294967296 + v2)) < _
    omega
  · exact ⟨by show 0 ≤ v0 * v1 % 18446744073709551616; omega, by show v0 * v1 % 18446744073709551616 < _; omega, rfl⟩
  · exact one 27 ((-(v0 % 2)) % 4294967296) rfl (by omega) rfl
  · exact one 28 (v0 / v1) rfl (by omega) rfl
  · exact one 29 ((v0 - v1 * v2 % 4294967296) % 4294967296) rfl (by omega) rfl

theorem refDo_any (rx : Option Addr) (n c : Nat) (R : List Int) (S : Int) (lx : Option Addr) (q lc : Nat) (L : List (Int × Int)) (m : Nat → Int) (k : Nat) (t0 t1 f0 f1 f2 f3 N : Int) (w : World) (hA : RefAt w rx n c R lx q lc L m) (hS : 0 ≤ S ∧ S < 4294967296) (hN : 0 ≤ N ∧ N < 4294967296) (hq : q ≤ 10000) (h : RightOp k t0 t1 f0 f1 f2 f3 N) :
    Calls Try.prog 11 #[refS rx n c S lx q lc, .agg #[.int .i64 k, .int .i64 t0, .int .i64 t1, .int .i64 f0, .int .i64 f1, .int .i64 f2, .int .i64 f3, .int .u32 N]] w
      (RefPost w rx lx S q (doM k t0 t1 f0 f1 f2 f3 N S R m).1 (doM k t0 t1 f0 f1 f2 f3 N S R m).2.1 (doM k t0 t1 f0 f1 f2 f3 N S R m).2.2.1 (doM k t0 t1 f0 f1 f2 f3 N S R m).2.2.2) := by
  have hlen := hA.len
  have p0 := (okAt_iff _ _ _).1 h.pf0
  have p1 := (okAt_iff _ _ _).1 h.pf1
  have p2 := (okAt_iff _ _ _).1 h.pf2
  have p3 := (okAt_iff _ _ _).1 h.pf3
  have pt0 := (okAt_iff _ _ _).1 h.pt0
  have pt1 := (okAt_iff _ _ _).1 h.pt1
  cases hr : reachV R t0 t1 f0 f1 f2 f3
  · have e : doM k t0 t1 f0 f1 f2 f3 N S R m = (0, 11, R, m) := by unfold doM; rw [if_pos hr]
    rw [e]
    refine refDo_far rx n c R S lx q lc L m k t0 t1 f0 f1 f2 f3 N w hA hS hN hq (fun hh => ?_)
    have : reachV R t0 t1 f0 f1 f2 f3 = true := by
      unfold reachV
      rw [List.all_eq_true]
      intro x hx
      rcases List.mem_append.1 hx with hx | hx
      · have h1 := hh.1 x (List.mem_filter.1 hx).1
        simp only [decide_eq_true_eq]; omega
      · have h1 := hh.2 x (List.mem_filter.1 hx).1
        simp only [decide_eq_true_eq]; omega
    rw [this] at hr
    cases hr
  · obtain ⟨hall, ht0, ht1⟩ := reach_all h hr
    have hrn : ¬ reachV R t0 t1 f0 f1 f2 f3 = false := by rw [hr]; simp
    have mem4 : ∀ x, x ∈ [f0, f1, f2, f3] → x ≠ -1 → x ∈ regsOf [f0, f1, f2, f3] := fun x hx hn => by
      unfold regsOf; exact List.mem_filter.2 ⟨hx, by simpa using hn⟩
    have hf : ∀ j (hj : j < [f0, f1, f2, f3].length), -1 ≤ [f0, f1, f2, f3][j] ∧ [f0, f1, f2, f3][j] < n := fun j hj => by
      have hm := List.getElem_mem hj
      by_cases h1 : [f0, f1, f2, f3][j] = -1
      · rw [h1]; omega
      · have := hall _ (mem4 _ hm h1)
        omega
    have ht : ∀ j (hj : j < [t0, t1].length), -1 ≤ [t0, t1][j] ∧ [t0, t1][j] < n := fun j hj => by
      match j, hj with
      | 0, _ =>
        show -1 ≤ t0 ∧ t0 < n
        rcases pt0 with h1 | h1
        · have := (ht0 h1.2.1).2; omega
        · omega
      | 1, _ =>
        show -1 ≤ t1 ∧ t1 < n
        rcases ht1 with h1 | h1
        · omega
        · have := h1.2; have := h1.1; omega
    have hpos : ∀ x ∈ regsOf [f0, f1, f2, f3], 0 ≤ x := fun x hx => (hall x hx).1
    obtain ⟨_, e0, e1, e2, e3⟩ := regs_four h.pf0 h.pf1 h.pf2 h.pf3 (fromL_bd4 k)
    have r0 : rv R (regsOf [f0, f1, f2, f3]) 0 = vvR R f0 := by rw [rv_vv _ _ _ hpos, e0]
    have r1 : rv R (regsOf [f0, f1, f2, f3]) 1 = vvR R f1 := by rw [rv_vv _ _ _ hpos, e1]
    have r2 : rv R (regsOf [f0, f1, f2, f3]) 2 = vvR R f2 := by rw [rv_vv _ _ _ hpos, e2]
    have r3 : rv R (regsOf [f0, f1, f2, f3]) 3 = vvR R f3 := by rw [rv_vv _ _ _ hpos, e3]
    have h1 := h.h1
    have h2 := h.h2
    have one : toL.getD k 0 = 1 → 0 ≤ t0 ∧ t1 = -1 := fun hT => by rw [hT] at pt0 pt1; omega
    have W1 : ∀ lo hi, t1 = -1 → wroteV R t0 t1 lo hi = R.set t0.toNat lo := fun lo hi e => by unfold wroteV; rw [if_pos e]
    by_cases k2 : k = 2
    · subst k2
      obtain ⟨a0, a1⟩ := one rfl
      have e : doM (2 : Nat) t0 t1 f0 f1 f2 f3 N S R m = (0, (loadV [] m (atV (2 : Nat) S N (vvR R f0) (vvR R f1))).2, if (loadV [] m (atV (2 : Nat) S N (vvR R f0) (vvR R f1))).2 = 0 then R.set t0.toNat (loadV [] m (atV (2 : Nat) S N (vvR R f0) (vvR R f1))).1 else R, m) := by
        unfold doM; rw [if_neg hrn, if_pos (.inl rfl), r0, r1, W1 _ _ a1]
      rw [e]
      exact refDo_2 rx n c R S lx q lc L m _ t0 t1 f0 f1 f2 f3 N w hA hS hN hq hf ht rfl a0 a1 _ _ rfl rfl
    by_cases k5 : k = 5
    · subst k5
      obtain ⟨a0, a1⟩ := one rfl
      have e : doM (5 : Nat) t0 t1 f0 f1 f2 f3 N S R m = (0, (loadV [] m (atV (5 : Nat) S N (vvR R f0) (vvR R f1))).2, if (loadV [] m (atV (5 : Nat) S N (vvR R f0) (vvR R f1))).2 = 0 then R.set t0.toNat (loadV [] m (atV (5 : Nat) S N (vvR R f0) (vvR R f1))).1 else R, m) := by
        unfold doM; rw [if_neg hrn, if_pos (.inr rfl), r0, r1, W1 _ _ a1]
      rw [e]
      exact refDo_5 rx n c R S lx q lc L m _ t0 t1 f0 f1 f2 f3 N w hA hS hN hq hf ht rfl a0 a1 _ _ rfl rfl
    have n25 : ¬ ((k : Int) = 2 ∨ (k : Int) = 5) := by omega
    by_cases k3 : k = 3
    · subst k3
      have e : doM (3 : Nat) t0 t1 f0 f1 f2 f3 N S R m = (0, storeE (atV (3 : Nat) S N (vvR R f0) (vvR R f1)), R, storeM m (atV (3 : Nat) S N (vvR R f0) (vvR R f1)) (vvR R f0)) := by
        unfold doM; rw [if_neg hrn, if_neg n25, if_pos (by omega), r0, r1]
      rw [e]
      exact refDo_3 rx n c R S lx q lc L m _ t0 t1 f0 f1 f2 f3 N w hA hS hN hq hf ht rfl
    by_cases k6 : k = 6
    · subst k6
      have e : doM (6 : Nat) t0 t1 f0 f1 f2 f3 N S R m = (0, storeE (atV (6 : Nat) S N (vvR R f0) (vvR R f1)), R, storeM m (atV (6 : Nat) S N (vvR R f0) (vvR R f1)) (vvR R f2)) := by
        unfold doM; rw [if_neg hrn, if_neg n25, if_neg (by omega), if_pos (by omega), r0, r1, r2]
      rw [e]
      exact refDo_6 rx n c R S lx q lc L m _ t0 t1 f0 f1 f2 f3 N w hA hS hN hq hf ht rfl
    by_cases k4 : k = 4
    · subst k4
      obtain ⟨a0, a1⟩ := one rfl
      have e : doM (4 : Nat) t0 t1 f0 f1 f2 f3 N S R m = (0, 0, R.set t0.toNat (atV (4 : Nat) S N (vvR R f0) (vvR R f1)), m) := by
        unfold doM; rw [if_neg hrn, if_neg n25, if_neg (by omega), if_neg (by omega), if_pos (by omega), r0, r1, W1 _ _ a1]
      rw [e]
      exact refDo_4 rx n c R S lx q lc L m _ t0 t1 f0 f1 f2 f3 N w hA hS hN hq hf ht rfl a0 a1 _ rfl
    have e : doM k t0 t1 f0 f1 f2 f3 N S R m = ((resV k N (vvR R f0) (vvR R f1) (vvR R f2) (vvR R f3)).1, 0, putV R t0 t1 (resV k N (vvR R f0) (vvR R f1) (vvR R f2) (vvR R f3)).2, m) := by
      unfold doM doV
      rw [if_neg hrn, if_neg n25, if_neg (by omega), if_neg (by omega), if_neg (by omega), if_neg hrn, r0, r1, r2, r3]
    rw [e]
    by_cases k30 : k = 30
    · subst k30
      exact refDo_30 rx n c R S lx q lc L m _ t0 t1 f0 f1 f2 f3 N w hA hS hN hq hf ht rfl
    by_cases k31 : k = 31
    · subst k31
      exact refDo_31 rx n c R S lx q lc L m _ t0 t1 f0 f1 f2 f3 N w hA hS hN hq hf ht rfl
    have b := fun f => vvR_bd hA.bytes f
    obtain ⟨x0, x1, hres⟩ := res_val k N (vvR R f0) (vvR R f1) (vvR R f2) (vvR R f3) (by omega) hN (b _) (b _) (b _) (b _)
    rw [hres]
    obtain ⟨a0, a1⟩ := right_sets h (by omega)
    by_cases hone : t1 = -1
    · have hp : putV R t0 t1 (some ((valL N (vvR R f0) (vvR R f1) (vvR R f2) (vvR R f3) (vvR R f0 / vvR R f1)).getD k 0 % 4294967296, (valL N (vvR R f0) (vvR R f1) (vvR R f2) (vvR R f3) (vvR R f0 / vvR R f1)).getD k 0 / 4294967296)) = R.set t0.toNat ((valL N (vvR R f0) (vvR R f1) (vvR R f2) (vvR R f3) (vvR R f0 / vvR R f1)).getD k 0 % 4294967296) := W1 _ _ hone
      exact refDo_one rx n c R S lx q lc L m k t0 t1 f0 f1 f2 f3 N w hA hS hN hq hf ht k rfl (by omega) (by omega) a0 hone _ rfl x0 x1 _ hp
    · have hp : putV R t0 t1 (some ((valL N (vvR R f0) (vvR R f1) (vvR R f2) (vvR R f3) (vvR R f0 / vvR R f1)).getD k 0 % 4294967296, (valL N (vvR R f0) (vvR R f1) (vvR R f2) (vvR R f3) (vvR R f0 / vvR R f1)).getD k 0 / 4294967296)) = (R.set t0.toNat ((valL N (vvR R f0) (vvR R f1) (vvR R f2) (vvR R f3) (vvR R f0 / vvR R f1)).getD k 0 % 4294967296)).set t1.toNat ((valL N (vvR R f0) (vvR R f1) (vvR R f2) (vvR R f3) (vvR R f0 / vvR R f1)).getD k 0 / 4294967296) := by
        show wroteV R t0 t1 _ _ = _
        unfold wroteV; rw [if_neg hone]
      exact refDo_two rx n c R S lx q lc L m k t0 t1 f0 f1 f2 f3 N w hA hS hN hq hf ht k rfl (by omega) (by omega) a0 (by omega) _ rfl x0 x1 _ hp
end Go.Proofs.Ytmkencdkglbpbaa
