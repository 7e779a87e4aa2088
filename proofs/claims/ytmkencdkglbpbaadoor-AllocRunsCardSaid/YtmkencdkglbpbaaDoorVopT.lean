/- alu: shifts; vop: logic. -/
import Derived.Test.YtmkencdkglbpbaaDoorVopL
import Derived.Laws.BitsLemmas
set_option maxRecDepth 100000
set_option linter.unusedVariables false
namespace Go.Proofs.YtmkencdkglbpbaaDoor
open Go.RowKit

/-- A word that is shifted by one bit. -/
def stepV (kind x : Int) : Int := if kind = 0 then x * 2 % 4294967296 else if kind = 1 then x / 2 else x / 2 + x % 2 * 2147483648
theorem stepV_bd (kind x : Int) (hx : 0 ≤ x ∧ x < 4294967296) : 0 ≤ stepV kind x ∧ stepV kind x < 4294967296 := by
  unfold stepV; split
  · omega
  · split <;> omega
/-- By some bits. -/
def iterV (kind x : Int) : Nat → Int
  | 0 => x
  | n + 1 => stepV kind (iterV kind x n)
theorem iterV_bd (kind x : Int) (hx : 0 ≤ x ∧ x < 4294967296) : ∀ n, 0 ≤ iterV kind x n ∧ iterV kind x n < 4294967296
  | 0 => hx
  | n + 1 => stepV_bd kind _ (iterV_bd kind x hx n)

theorem u32_and1 (x : Int) (h0 : 0 ≤ x) (h1 : x < 4294967296) : bits BinOp.and IntKind.u32 x 1 = x % 2 := by
  have := bits_mask .u32 32 (by decide) (fun n a b => by rw [IntKind.wrap_u32]; omega) 1 (by decide) x h0 h1
  simpa using this
theorem u32_and255 (x : Int) (h0 : 0 ≤ x) (h1 : x < 4294967296) : bits BinOp.and IntKind.u32 x 255 = x % 256 := by
  have := bits_mask .u32 32 (by decide) (fun n a b => by rw [IntKind.wrap_u32]; omega) 8 (by decide) x h0 h1
  simpa using this

theorem u32_ror (x : Int) (h0 : 0 ≤ x) (h1 : x < 4294967296) : bits BinOp.or IntKind.u32 (x / 2) (x % 2 * 2147483648) = x / 2 + x % 2 * 2147483648 := by
  obtain ⟨p, hp⟩ : ∃ p : Nat, x / 2 = (p : Int) := ⟨(x / 2).toNat, by omega⟩
  obtain ⟨q, hq⟩ : ∃ q : Nat, x % 2 * 2147483648 = (q : Int) := ⟨(x % 2 * 2147483648).toNat, by omega⟩
  have hq2 : q % 2 ^ 31 = 0 := by omega
  rw [hp, hq, u32_or_nat p q (by omega) (by omega), Nat.or_comm, nat_join 31 q p hq2 (by omega)]
  omega

set_option maxHeartbeats 1000000 in
theorem one_any (kind x : Int) (hk : kind = 0 ∨ kind = 1 ∨ kind = 3) (h0 : 0 ≤ x) (h1 : x < 4294967296) (w : World) :
    Calls Tryd.prog 76 #[.int .i64 kind, .int .u32 x] w fun e w' => ∃ c, e = .returned (.tuple #[.int .u32 (stepV kind x), .int .u32 c]) ∧ w' = w := by
  have e1 := u32_and1 x h0 h1
  have e3 := u32_ror x h0 h1
  rcases hk with rfl | rfl | rfl
  · go_enter Tryd.func76, Tryd.ntmps76
    go_wp2_with fail
    go_ret2
    exact ⟨_, rfl, rfl⟩
  · go_enter Tryd.func76, Tryd.ntmps76
    go_wp2_with fail
    go_ret2
    exact ⟨_, rfl, rfl⟩
  · go_enter Tryd.func76, Tryd.ntmps76
    go_wp2_with fail
    go_ret2
    exact ⟨_, rfl, rfl⟩

set_option maxHeartbeats 1000000 in
theorem shift_any (kind x : Int) (n : Nat) (hk : kind = 0 ∨ kind = 1 ∨ kind = 3) (hn : n ≤ 255) (hx : 0 ≤ x ∧ x < 4294967296) (w : World) :
    Calls Tryd.prog 73 #[.int .i64 kind, .int .u32 x, .int .i64 n, .int .u32 0] w fun e w' => ∃ c, e = .returned (.tuple #[.int .u32 (iterV kind x n), .int .u32 c, .int .i64 0]) ∧ w' = w := by
  have k0 : decide (kind < 0) = false := by simp; omega
  have k1 : decide (kind > 3) = false := by simp; omega
  have k2 : decide ((3 : Int) < kind) = false := by simp; omega
  have n0 : decide ((n : Int) < 0) = false := by simp
  have n1 : decide ((n : Int) > 255) = false := by simp; omega
  have n2 : decide ((255 : Int) < (n : Int)) = false := by simp; omega
  have hbd := Lib.hid (iterV_bd kind x hx)
  have HK := Lib.hid hk
  clear hk
  go_enter Tryd.func73, Tryd.ntmps73
  go_wp2_with fail
  go_loopw [1, 3, 28] (fun x' c i wr => ∃ (k : Nat) (c' : Int), k ≤ n ∧ x' = .int .u32 (iterV kind x k) ∧ c = .int .u32 c' ∧ i = .int .i64 k ∧ wr = w) (fun _ _ i _ => n - (intOf i).toNat)
  case atStart => exact ⟨0, _, Nat.zero_le _, rfl, rfl, rfl, rfl⟩
  case round =>
    obtain ⟨k, c', hk, rfl, rfl, rfl, rfl⟩ := hrel
    obtain ⟨X, hX⟩ : ∃ X, X = iterV kind x k := ⟨_, rfl⟩
    have hb := hbd.out k
    have hs : iterV kind x (k + 1) = stepV kind (iterV kind x k) := rfl
    rw [← hX] at hb hs ⊢
    have HX := Lib.hid hX
    have HS := Lib.hid hs
    clear hX hs
    have HC := Lib.hid (one_any kind X HK.out hb.1 hb.2 wr)
    by_cases hlt : k < n
    · have wq : IntKind.i64.wrap ((k : Int) + 1) = (k : Int) + 1 := IntWalk.i64_in _ (by omega)
      go_wp2_with fail
      refine HC.out.mono ?_
      rintro e w2 ⟨c2, rfl, rfl⟩
      go_wp2_with fail
      refine ⟨⟨k + 1, c2, by omega, by rw [HS.out], rfl, by simp, trivial⟩, by simp only [intOf]; omega⟩
    · have hkq : k = n := by omega
      subst hkq
      go_wp2_with fail
      go_ret3
      exact ⟨c', by rw [← HX.out]; rfl, rfl⟩

theorem shifted_any (kind x y : Int) (hk : kind = 0 ∨ kind = 1 ∨ kind = 3) (hx : 0 ≤ x ∧ x < 4294967296) (hy : 0 ≤ y ∧ y < 4294967296) (w : World) :
    Calls Tryd.prog 66 #[.int .i64 kind, .int .u32 x, .int .u32 y] w fun e w' => e = .returned (.int .u32 (iterV kind x (y % 256).toNat)) ∧ w' = w := by
  have e1 := u32_and255 y hy.1 hy.2
  obtain ⟨n, hn⟩ : ∃ n : Nat, y % 256 = (n : Int) := ⟨(y % 256).toNat, by omega⟩
  have hn2 : n ≤ 255 := by omega
  rw [hn] at e1 ⊢
  rw [show ((n : Int)).toNat = n from rfl]
  have e2 : IntKind.i64.wrap (n : Int) = (n : Int) := IntWalk.i64_in _ (by omega)
  have HC := Lib.hid (shift_any kind x n hk hn2 hx w)
  have hlo : (0 : Int) ≤ (n : Int) := by omega
  have hhi : (n : Int) ≤ 255 := by omega
  clear hn hk
  go_enter Tryd.func66, Tryd.ntmps66
  go_wp2_with fail
  refine HC.out.mono ?_
  rintro e w2 ⟨c, rfl, rfl⟩
  go_wp2_with fail
  go_ret
  exact ⟨rfl, rfl⟩

/-- What the other kinds make of two words. -/
def logicV (K N x y : Int) : Int :=
  if K = 7 then bits .and .u32 x y else if K = 8 then bits .or .u32 x y else if K = 9 then bits .xor .u32 x y
  else if K = 13 then iterV 0 x (y % 256).toNat else if K = 14 then iterV 1 x (y % 256).toNat else if K = 15 then iterV 3 x (y % 256).toNat
  else if K = 18 then iterV 0 x (N % 256).toNat else if K = 19 then iterV 1 x (N % 256).toNat else if K = 20 then iterV 3 x (N % 256).toNat
  else if K = 16 then bits .xor .u32 4294967295 x else (-(x % 2)) % 4294967296
theorem u32_bits_bd (op : BinOp) (x y : Int) : 0 ≤ bits op .u32 x y ∧ bits op .u32 x y < 4294967296 := by
  unfold bits
  simp only [IntKind.wrap_u32]
  omega
theorem logicV_bd (K N x y : Int) (hx : 0 ≤ x ∧ x < 4294967296) : 0 ≤ logicV K N x y ∧ logicV K N x y < 4294967296 := by
  unfold logicV
  repeat' split
  all_goals first | exact u32_bits_bd _ _ _ | exact iterV_bd _ _ hx _ | omega
set_option maxHeartbeats 1000000 in
theorem logic_any (K t0 t1 f0 f1 f2 f3 N x y : Int) (w : World) (hx : 0 ≤ x ∧ x < 4294967296) (hy : 0 ≤ y ∧ y < 4294967296) (hN : 0 ≤ N ∧ N < 4294967296) :
    Calls Tryd.prog 51 #[opV K t0 t1 f0 f1 f2 f3 N, .int .u32 x, .int .u32 y] w fun e w' => e = .returned (.int .u32 (logicV K N x y)) ∧ Below w.heap.size w w' := by
  have hB := Lib.hid ((Below.refl _ w).alloc (Nat.le_refl _) (.cells #[.int .i64 K, .int .i64 t0, .int .i64 t1, .int .i64 f0, .int .i64 f1, .int .i64 f2, .int .i64 f3, .int .u32 N] 37))
  have SY : ∀ kind, (kind = 0 ∨ kind = 1 ∨ kind = 3) → Hid (∀ w, Calls Tryd.prog 66 #[.int .i64 kind, .int .u32 x, .int .u32 y] w fun e w' => e = .returned (.int .u32 (iterV kind x (y % 256).toNat)) ∧ w' = w) := fun kind h w => shifted_any kind x y h hx hy w
  have SN : ∀ kind, (kind = 0 ∨ kind = 1 ∨ kind = 3) → Hid (∀ w, Calls Tryd.prog 66 #[.int .i64 kind, .int .u32 x, .int .u32 N] w fun e w' => e = .returned (.int .u32 (iterV kind x (N % 256).toNat)) ∧ w' = w) := fun kind h w => shifted_any kind x N h hx hN w
  have e1 := u32_and1 x hx.1 hx.2
  by_cases h7 : K = 7
  · subst h7
    clear SY SN
    go_enter Tryd.func51, Tryd.ntmps51
    go_wp2_with fail
    go_ret
    exact ⟨rfl, hB.out⟩
  by_cases h8 : K = 8
  · subst h8
    clear SY SN
    go_enter Tryd.func51, Tryd.ntmps51
    go_wp2_with fail
    go_ret
    exact ⟨rfl, hB.out⟩
  by_cases h9 : K = 9
  · subst h9
    clear SY SN
    go_enter Tryd.func51, Tryd.ntmps51
    go_wp2_with fail
    go_ret
    exact ⟨rfl, hB.out⟩
  by_cases h13 : K = 13
  · subst h13
    have HC := SY 0 (.inl rfl)
    clear SY SN
    go_enter Tryd.func51, Tryd.ntmps51
    go_wp2_with fail
    refine (HC.out _).mono ?_
    rintro e w2 ⟨rfl, rfl⟩
    go_wp2_with fail
    go_ret
    exact ⟨rfl, hB.out⟩
  by_cases h14 : K = 14
  · subst h14
    have HC := SY 1 (.inr (.inl rfl))
    clear SY SN
    go_enter Tryd.func51, Tryd.ntmps51
    go_wp2_with fail
    refine (HC.out _).mono ?_
    rintro e w2 ⟨rfl, rfl⟩
    go_wp2_with fail
    go_ret
    exact ⟨rfl, hB.out⟩
  by_cases h15 : K = 15
  · subst h15
    have HC := SY 3 (.inr (.inr rfl))
    clear SY SN
    go_enter Tryd.func51, Tryd.ntmps51
    go_wp2_with fail
    refine (HC.out _).mono ?_
    rintro e w2 ⟨rfl, rfl⟩
    go_wp2_with fail
    go_ret
    exact ⟨rfl, hB.out⟩
  by_cases h18 : K = 18
  · subst h18
    have HC := SN 0 (.inl rfl)
    clear SY SN
    go_enter Tryd.func51, Tryd.ntmps51
    go_wp2_with fail
    refine (HC.out _).mono ?_
    rintro e w2 ⟨rfl, rfl⟩
    go_wp2_with fail
    go_ret
    exact ⟨rfl, hB.out⟩
  by_cases h19 : K = 19
  · subst h19
    have HC := SN 1 (.inr (.inl rfl))
    clear SY SN
    go_enter Tryd.func51, Tryd.ntmps51
    go_wp2_with fail
    refine (HC.out _).mono ?_
    rintro e w2 ⟨rfl, rfl⟩
    go_wp2_with fail
    go_ret
    exact ⟨rfl, hB.out⟩
  by_cases h20 : K = 20
  · subst h20
    have HC := SN 3 (.inr (.inr rfl))
    clear SY SN
    go_enter Tryd.func51, Tryd.ntmps51
    go_wp2_with fail
    refine (HC.out _).mono ?_
    rintro e w2 ⟨rfl, rfl⟩
    go_wp2_with fail
    go_ret
    exact ⟨rfl, hB.out⟩
  by_cases h16 : K = 16
  · subst h16
    clear SY SN
    go_enter Tryd.func51, Tryd.ntmps51
    go_wp2_with fail
    go_ret
    exact ⟨rfl, hB.out⟩
  have m7 : (K == 7) = false := by simpa using h7
  have m8 : (K == 8) = false := by simpa using h8
  have m9 : (K == 9) = false := by simpa using h9
  have m13 : (K == 13) = false := by simpa using h13
  have m14 : (K == 14) = false := by simpa using h14
  have m15 : (K == 15) = false := by simpa using h15
  have m18 : (K == 18) = false := by simpa using h18
  have m19 : (K == 19) = false := by simpa using h19
  have m20 : (K == 20) = false := by simpa using h20
  have m16 : (K == 16) = false := by simpa using h16
  have hv : logicV K N x y = (-(x % 2)) % 4294967296 := by simp only [logicV, h7, h8, h9, h13, h14, h15, h18, h19, h20, h16, if_false]
  rw [hv]
  clear SY SN hv h7 h8 h9 h13 h14 h15 h18 h19 h20 h16
  go_enter Tryd.func51, Tryd.ntmps51
  go_wp2_with fail
  go_ret
  exact ⟨rfl, hB.out⟩
end Go.Proofs.YtmkencdkglbpbaaDoor
set_option maxRecDepth 100000
set_option linter.unusedVariables false
namespace Go.Proofs.YtmkencdkglbpbaaDoor
open Go.RowKit

set_option maxHeartbeats 4000000 in
theorem do_logic (sb rb rc mb : Nat) (S : Int) (R : List Int) (K t0 t1 f0 f1 f2 f3 N Z : Int) (w : World) (hR : RegAt w sb rb rc mb S R) (hall : ∀ x ∈ regsOf [f0, f1, f2, f3], 0 ≤ x ∧ x < (R.length : Int))
    (hyes : ((regsOf [f0, f1, f2, f3] ++ regsOf [t0, t1]).all fun x => decide (x < R.length)) = true) (hN : 0 ≤ N ∧ N < 4294967296)
    (h0 : At R t0) (h1 : t1 = -1 ∨ At R t1 ∧ t0 ≠ t1) (hK : K < 2 ∨ 6 < K) (hK2 : K < 30)
    (hX : pairsV K (rv R (regsOf [f0, f1, f2, f3]) 0) (rv R (regsOf [f0, f1, f2, f3]) 1) (rv R (regsOf [f0, f1, f2, f3]) 1 * 4294967296 + rv R (regsOf [f0, f1, f2, f3]) 0) (rv R (regsOf [f0, f1, f2, f3]) 3 * 4294967296 + rv R (regsOf [f0, f1, f2, f3]) 2) = (0, false))
    (hY : sumsV K N (rv R (regsOf [f0, f1, f2, f3]) 0) (rv R (regsOf [f0, f1, f2, f3]) 1) (rv R (regsOf [f0, f1, f2, f3]) 2) = (0, false))
    (hZ : logicV K N (rv R (regsOf [f0, f1, f2, f3]) 0) (rv R (regsOf [f0, f1, f2, f3]) 1) = Z) (hZ0 : 0 ≤ Z ∧ Z < 4294967296) :
    Calls Tryd.prog 22 #[.pointer (some ⟨sb, 0, none⟩), opV K t0 t1 f0 f1 f2 f3 N] w fun e w' => e = .returned (.tuple #[.int .i64 0, .int .i64 0]) ∧ RegAt w' sb rb rc mb S (wroteV R t0 t1 (Z) (0)) ∧ w.grownBy w' (some rb) := by
  have HR := Lib.hid hR
  have HC : Hid (∀ w', RegAt w' sb rb rc mb S R → Calls Tryd.prog 44 #[.pointer (some ⟨sb, 0, none⟩), opV K t0 t1 f0 f1 f2 f3 N] w' fun e w'' => e = .returned (.bool true) ∧ Below w'.heap.size w' w'') := fun w' h => by
    have := reach_any sb rb rc mb S R K t0 t1 f0 f1 f2 f3 N w' h
    rw [hyes] at this; exact this
  have b0 := rv_mem hall hR.bytes 0
  have b1 := rv_mem hall hR.bytes 1
  have b2 := rv_mem hall hR.bytes 2
  have b3 := rv_mem hall hR.bytes 3
  have HD : Hid (∀ w', RegAt w' sb rb rc mb S R → _) := fun w' h => read_any sb rb rc mb S R K t0 t1 f0 f1 f2 f3 N w' h hall
  have HW : Hid (∀ w', RegAt w' sb rb rc mb S R → Calls Tryd.prog 49 #[.pointer (some ⟨sb, 0, none⟩), opV K t0 t1 f0 f1 f2 f3 N, .int .u32 (Z), .int .u32 (0)] w' fun e w'' => e = .returned (.tuple #[]) ∧ RegAt w'' sb rb rc mb S (wroteV R t0 t1 (Z) (0)) ∧ w'.grownBy w'' (some rb)) := fun w' h => write_any sb rb rc mb S R K t0 t1 f0 f1 f2 f3 N _ _ w' h h0 h1 (by omega) (by omega)
  generalize rv R (regsOf [f0, f1, f2, f3]) 0 = a0 at HD b0 hX hY hZ ⊢
  generalize rv R (regsOf [f0, f1, f2, f3]) 1 = a1 at HD b1 hX hY hZ ⊢
  generalize rv R (regsOf [f0, f1, f2, f3]) 2 = a2 at HD b2 hX hY hZ ⊢
  generalize rv R (regsOf [f0, f1, f2, f3]) 3 = a3 at HD b3 hX hY hZ ⊢
  have HM : Hid (∀ w', RegAt w' sb rb rc mb S R → _) := fun w' h => memory_no sb rb rc mb S R K t0 t1 f0 f1 f2 f3 N a0 a1 a2 a3 w' h (by omega) hN
  have HP : Hid (∀ w', Calls Tryd.prog 48 #[opV K t0 t1 f0 f1 f2 f3 N, .agg #[.int .u32 a0, .int .u32 a1, .int .u32 a2, .int .u32 a3]] w' fun e w'' => e = .returned (.tuple #[.int .u64 0, .bool false]) ∧ Below w'.heap.size w' w'') := fun w' => by
    have := pairs_any K t0 t1 f0 f1 f2 f3 N a0 a1 a2 a3 w' b0 b1 b2 b3
    rw [hX] at this; exact this
  have HS : Hid (∀ w', Calls Tryd.prog 50 #[opV K t0 t1 f0 f1 f2 f3 N, .int .u32 a0, .int .u32 a1, .int .u32 a2] w' fun e w'' => e = .returned (.tuple #[.int .u32 0, .bool false]) ∧ Below w'.heap.size w' w'') := fun w' => by
    have := sums_any K t0 t1 f0 f1 f2 f3 N a0 a1 a2 w' b0 b1
    rw [hY] at this; exact this
  have HL : Hid (∀ w', Calls Tryd.prog 51 #[opV K t0 t1 f0 f1 f2 f3 N, .int .u32 a0, .int .u32 a1] w' fun e w'' => e = .returned (.int .u32 Z) ∧ Below w'.heap.size w' w'') := fun w' => by
    have := logic_any K t0 t1 f0 f1 f2 f3 N a0 a1 w' b0 b1 hN
    rw [hZ] at this; exact this
  have n30 : (K == 30) = false := by simp; omega
  have n31 : (K == 31) = false := by simp; omega
  clear hR hyes b0 b1 b2 b3 hall hN hX hY hZ h0 h1
  go_enter Tryd.func22, Tryd.ntmps22
  go_wp2_with fail
  have hB1 := (Below.refl _ w).alloc (Nat.le_refl _) (.cells #[.int .i64 K, .int .i64 t0, .int .i64 t1, .int .i64 f0, .int .i64 f1, .int .i64 f2, .int .i64 f3, .int .u32 N] 37)
  have hO1 := opAt_new w K t0 t1 f0 f1 f2 f3 N
  generalize w.alloc _ = w1 at hB1 hO1 ⊢
  have HB1 := Lib.hid hB1
  have HO1 := Lib.hid hO1
  clear hB1 hO1
  refine (HC.out _ (HR.out.below HB1.out)).mono ?_
  rintro e w4 ⟨rfl, hb4⟩
  have HB4 := Lib.hid (HB1.out.trans (hb4.mono HB1.out.size))
  have HO4 := Lib.hid (HO1.out.below hb4)
  obtain ⟨c0, c1, c2, c3, c4, c5, c6, c7⟩ := HO4.out.cells
  clear hb4
  go_wp2_with fail
  refine (HD.out _ (HR.out.below HB4.out)).mono ?_
  rintro e w5 ⟨rfl, hb5⟩
  have HB5 := Lib.hid (HB4.out.trans (hb5.mono HB4.out.size))
  have HO5 := Lib.hid (HO4.out.below hb5)
  clear hb5 c0 c1 c2 c3 c4 c5 c6 c7
  obtain ⟨c0, c1, c2, c3, c4, c5, c6, c7⟩ := HO5.out.cells
  have hl5 := lt_of_block HO5.out
  have hd5 : w.heap.size ≠ w5.heap.size := by omega
  go_wp2_with fail
  have hB6 := HB5.out.alloc HB5.out.size (.cells #[.int .u32 a0, .int .u32 a1, .int .u32 a2, .int .u32 a3] 97)
  have hO6 := HO5.out.below ((Below.refl _ _).alloc (Nat.le_refl _) (.cells #[.int .u32 a0, .int .u32 a1, .int .u32 a2, .int .u32 a3] 97))
  have hV6 := vAt_new w5 a0 a1 a2 a3
  generalize hvb : w5.heap.size = vb at hd5 hl5 hV6 ⊢
  generalize w5.alloc _ = w6 at hB6 hO6 hV6 ⊢
  have HB6 := Lib.hid hB6
  have HO6 := Lib.hid hO6
  have HV6 := Lib.hid hV6
  clear hB6 hO6 hV6 hvb c0 c1 c2 c3 c4 c5 c6 c7
  refine (HM.out _ (HR.out.below HB6.out)).mono ?_
  rintro e w7 ⟨rfl, hb7⟩
  have HB7 := Lib.hid (HB6.out.trans (hb7.mono HB6.out.size))
  have HO7 := Lib.hid (HO6.out.below hb7)
  have HV7 := Lib.hid (HV6.out.below hb7)
  clear hb7
  obtain ⟨c0, c1, c2, c3, c4, c5, c6, c7⟩ := HO7.out.cells
  obtain ⟨d0, d1, d2, d3⟩ := HV7.out.cells
  go_wp2_with fail
  refine (HP.out _).mono ?_
  rintro e w8 ⟨rfl, hb8⟩
  have HB8 := Lib.hid (HB7.out.trans (hb8.mono HB7.out.size))
  have HO8 := Lib.hid (HO7.out.below hb8)
  have HV8 := Lib.hid (HV7.out.below hb8)
  clear hb8 c0 c1 c2 c3 c4 c5 c6 c7 d0 d1 d2 d3
  obtain ⟨c0, c1, c2, c3, c4, c5, c6, c7⟩ := HO8.out.cells
  obtain ⟨d0, d1, d2, d3⟩ := HV8.out.cells
  go_wp2_with fail
  refine (HS.out _).mono ?_
  rintro e w9 ⟨rfl, hb9⟩
  have HB9 := Lib.hid (HB8.out.trans (hb9.mono HB8.out.size))
  have HO9 := Lib.hid (HO8.out.below hb9)
  have HV9 := Lib.hid (HV8.out.below hb9)
  clear hb9 c0 c1 c2 c3 c4 c5 c6 c7 d0 d1 d2 d3
  obtain ⟨c0, c1, c2, c3, c4, c5, c6, c7⟩ := HO9.out.cells
  obtain ⟨d0, d1, d2, d3⟩ := HV9.out.cells
  go_wp2_with fail
  refine (HL.out _).mono ?_
  rintro e w10 ⟨rfl, hb10⟩
  have HB10 := Lib.hid (HB9.out.trans (hb10.mono HB9.out.size))
  have HO10 := Lib.hid (HO9.out.below hb10)
  have HV10 := Lib.hid (HV9.out.below hb10)
  clear hb10 c0 c1 c2 c3 c4 c5 c6 c7 d0 d1 d2 d3
  obtain ⟨c0, c1, c2, c3, c4, c5, c6, c7⟩ := HO10.out.cells
  obtain ⟨d0, d1, d2, d3⟩ := HV10.out.cells
  go_wp2_with fail
  refine (HW.out _ (HR.out.below HB10.out)).mono ?_
  rintro e w20 ⟨rfl, hR20, hg20⟩
  go_wp2_with fail
  go_ret2
  exact ⟨rfl, hR20, grown_below HB10.out hg20⟩

end Go.Proofs.YtmkencdkglbpbaaDoor
