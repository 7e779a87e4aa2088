/- alu: shifts; vop: logic. -/
import Derived.Test.YtmkencdkglbpbaaVopL
import Derived.Laws.BitsLemmas
set_option maxRecDepth 100000
set_option linter.unusedVariables false
namespace Go.Proofs.Ytmkencdkglbpbaa
open Go.RowKit

/-- A word that is shifted by one bit. -/
def stepV (kind x : Int) : Int := if kind = 0 then x * 2 % 4294967296 else if kind = 1 then x / 2 else x / 2 + x % 2 * 2147483648
theorem stepV_bd (kind x : Int) (hx : 0 ≤ x ∧ x < 4294967296) : 0 ≤ stepV kind x ∧ stepV kind x < 4294967296 := by
  unfold stepV; split
  · omega
  · split <;> omega
/-- By some bits. -/
def iterV (kind x : Int) : Nat → Int
  | 0 => x
  | n + 1 => stepV kind (iterV kind x n)
theorem iterV_bd (kind x : Int) (hx : 0 ≤ x ∧ x < 4294967296) : ∀ n, 0 ≤ iterV kind x n ∧ iterV kind x n < 4294967296
  | 0 => hx
  | n + 1 => stepV_bd kind _ (iterV_bd kind x hx n)

theorem u32_and1 (x : Int) (h0 : 0 ≤ x) (h1 : x < 4294967296) : bits BinOp.and IntKind.u32 x 1 = x % 2 := by
  have := bits_mask .u32 32 (by decide) (fun n a b => by rw [IntKind.wrap_u32]; omega) 1 (by decide) x h0 h1
  simpa using this
theorem u32_and255 (x : Int) (h0 : 0 ≤ x) (h1 : x < 4294967296) : bits BinOp.and IntKind.u32 x 255 = x % 256 := by
  have := bits_mask .u32 32 (by decide) (fun n a b => by rw [IntKind.wrap_u32]; omega) 8 (by decide) x h0 h1
  simpa using this

theorem u32_ror (x : Int) (h0 : 0 ≤ x) (h1 : x < 4294967296) : bits BinOp.or IntKind.u32 (x / 2) (x % 2 * 2147483648) = x / 2 + x % 2 * 2147483648 := by
  obtain ⟨p, hp⟩ : ∃ p : Nat, x / 2 = (p : Int) := ⟨(x / 2).toNat, by omega⟩
  obtain ⟨q, hq⟩ : ∃ q : Nat, x % 2 * 2147483648 = (q : Int) := ⟨(x % 2 * 2147483648).toNat, by omega⟩
  have hq2 : q % 2 ^ 31 = 0 := by omega
  rw [hp, hq, u32_or_nat p q (by omega) (by omega), Nat.or_comm, nat_join 31 q p hq2 (by omega)]
  omega

set_option maxHeartbeats 1000000 in
theorem one_any (kind x : Int) (hk : kind = 0 ∨ kind = 1 ∨ kind = 3) (h0 : 0 ≤ x) (h1 : x < 4294967296) (w : World) :
    Calls Try.prog 45 #[.int .i64 kind, .int .u32 x] w fun e w' => ∃ c, e = .returned (.tuple #[.int .u32 (stepV kind x), .int .u32 c]) ∧ w' = w := by
  have e1 := u32_and1 x h0 h1
  have e3 := u32_ror x h0 h1
  rcases hk with rfl | rfl | rfl
  · go_enter Try.func45, Try.ntmps45
    go_wp2_with fail
    go_ret2
    exact ⟨_, rfl, rfl⟩
  · go_enter Try.func45, Try.ntmps45
    go_wp2_with fail
    go_ret2
    exact ⟨_, rfl, rfl⟩
  · go_enter Try.func45, Try.ntmps45
    go_wp2_with fail
    go_ret2
    exact ⟨_, rfl, rfl⟩

set_option maxHeartbeats 1000000 in
theorem shift_any (kind x : Int) (n : Nat) (hk : kind = 0 ∨ kind = 1 ∨ kind = 3) (hn : n ≤ 255) (hx : 0 ≤ x ∧ x < 4294967296) (w : World) :
    Calls Try.prog 43 #[.int .i64 kind, .int .u32 x, .int .i64 n, .int .u32 0] w fun e w' => ∃ c, e = .returned (.tuple #[.int .u32 (iterV kind x n), .int .u32 c, .int .i64 0]) ∧ w' = w := by
  have k0 : decide (kind < 0) = false := by simp; omega
  have k1 : decide (kind > 3) = false := by simp; omega
  have k2 : decide ((3 : Int) < kind) = false := by simp; omega
  have n0 : decide ((n : Int) < 0) = false := by simp
  have n1 : decide ((n : Int) > 255) = false := by simp; omega
  have n2 : decide ((255 : Int) < (n : Int)) = false := by simp; omega
  have hbd := Lib.hid (iterV_bd kind x hx)
  have HK := Lib.hid hk
  clear hk
  go_enter Try.func43, Try.ntmps43
  go_wp2_with fail
  go_loopw [1, 3, 28] (fun x' c i wr => ∃ (k : Nat) (c' : Int), k ≤ n ∧ x' = .int .u32 (iterV kind x k) ∧ c = .int .u32 c' ∧ i = .int .i64 k ∧ wr = w) (fun _ _ i _ => n - (intOf i).toNat)
  case atStart => exact ⟨0, _, Nat.zero_le _, rfl, rfl, rfl, rfl⟩
  case round =>
    obtain ⟨k, c', hk, rfl, rfl, rfl, rfl⟩ := hrel
    obtain ⟨X, hX⟩ : ∃ X, X = iterV kind x k := ⟨_, rfl⟩
    have hb := hbd.out k
    have hs : iterV kind x (k + 1) = stepV kind (iterV kind x k) := rfl
    rw [← hX] at hb hs ⊢
    have HX := Lib.hid hX
    have HS := Lib.hid hs
    clear hX hs
    have HC := Lib.hid (one_any kind X HK.out hb.1 hb.2 wr)
    by_cases hlt : k < n
    · have wq : IntKind.i64.wrap ((k : Int) + 1) = (k : Int) + 1 := IntWalk.i64_in _ (by omega)
      go_wp2_with fail
      refine HC.out.mono ?_
      rintro e w2 ⟨c2, rfl, rfl⟩
      go_wp2_with fail
      refine ⟨⟨k + 1, c2, by omega, by rw [HS.out], rfl, by simp, trivial⟩, by simp only [intOf]; omega⟩
    · have hkq : k = n := by omega
      subst hkq
      go_wp2_with fail
      go_ret3
      exact ⟨c', by rw [← HX.out]; rfl, rfl⟩

theorem shifted_any (kind x y : Int) (hk : kind = 0 ∨ kind = 1 ∨ kind = 3) (hx : 0 ≤ x ∧ x < 4294967296) (hy : 0 ≤ y ∧ y < 4294967296) (w : World) :
    Calls Try.prog 39 #[.int .i64 kind, .int .u32 x, .int .u32 y] w fun e w' => e = .returned (.int .u32 (iterV kind x (y % 256).toNat)) ∧ w' = w := by
  have e1 := u32_and255 y hy.1 hy.2
  obtain ⟨n, hn⟩ : ∃ n : Nat, y % 256 = (n : Int) := ⟨(y % 256).toNat, by omega⟩
  have hn2 : n ≤ 255 := by omega
  rw [hn] at e1 ⊢
  rw [show ((n : Int)).toNat = n from rfl]
  have e2 : IntKind.i64.wrap (n : Int) = (n : Int) := IntWalk.i64_in _ (by omega)
  have HC := Lib.hid (shift_any kind x n hk hn2 hx w)
  have hlo : (0 : Int) ≤ (n : Int) := by omega
  have hhi : (n : Int) ≤ 255 := by omega
  clear hn hk
  go_enter Try.func39, Try.ntmps39
  go_wp2_with fail
  refine HC.out.mono ?_
  rintro e w2 ⟨c, rfl, rfl⟩
  go_wp2_with fail
  go_ret
  exact ⟨rfl, rfl⟩

/-- What the other kinds make of two words. -/
def logicV (K N x y : Int) : Int :=
  if K = 7 then bits .and .u32 x y else if K = 8 then bits .or .u32 x y else if K = 9 then bits .xor .u32 x y
  else if K = 13 then iterV 0 x (y % 256).toNat else if K = 14 then iterV 1 x (y % 256).toNat else if K = 15 then iterV 3 x (y % 256).toNat
  else if K = 18 then iterV 0 x (N % 256).toNat else if K = 19 then iterV 1 x (N % 256).toNat else if K = 20 then iterV 3 x (N % 256).toNat
  else if K = 16 then bits .xor .u32 4294967295 x else (-(x % 2)) % 4294967296
theorem u32_bits_bd (op : BinOp) (x y : Int) : 0 ≤ bits op .u32 x y ∧ bits op .u32 x y < 4294967296 := by
  unfold bits
  simp only [IntKind.wrap_u32]
  omega
theorem logicV_bd (K N x y : Int) (hx : 0 ≤ x ∧ x < 4294967296) : 0 ≤ logicV K N x y ∧ logicV K N x y < 4294967296 := by
  unfold logicV
  repeat' split
  all_goals first | exact u32_bits_bd _ _ _ | exact iterV_bd _ _ hx _ | omega
set_option maxHeartbeats 1000000 in
theorem logic_any (K t0 t1 f0 f1 f2 f3 N x y : Int) (w : World) (hx : 0 ≤ x ∧ x < 4294967296) (hy : 0 ≤ y ∧ y < 4294967296) (hN : 0 ≤ N ∧ N < 4294967296) :
    Calls Try.prog 25 #[opV K t0 t1 f0 f1 f2 f3 N, .int .u32 x, .int .u32 y] w fun e w' => e = .returned (.int .u32 (logicV K N x y)) ∧ Below w.heap.size w w' := by
  have hB := Lib.hid ((Below.refl _ w).alloc (Nat.le_refl _) (.cells #[.int .i64 K, .int .i64 t0, .int .i64 t1, .int .i64 f0, .int .i64 f1, .int .i64 f2, .int .i64 f3, .int .u32 N] 40))
  have SY : ∀ kind, (kind = 0 ∨ kind = 1 ∨ kind = 3) → Hid (∀ w, Calls Try.prog 39 #[.int .i64 kind, .int .u32 x, .int .u32 y] w fun e w' => e = .returned (.int .u32 (iterV kind x (y % 256).toNat)) ∧ w' = w) := fun kind h w => shifted_any kind x y h hx hy w
  have SN : ∀ kind, (kind = 0 ∨ kind = 1 ∨ kind = 3) → Hid (∀ w, Calls Try.prog 39 #[.int .i64 kind, .int .u32 x, .int .u32 N] w fun e w' => e = .returned (.int .u32 (iterV kind x (N % 256).toNat)) ∧ w' = w) := fun kind h w => shifted_any kind x N h hx hN w
  have e1 := u32_and1 x hx.1 hx.2
  by_cases h7 : K = 7
  · subst h7
    clear SY SN
    go_enter Try.func25, Try.ntmps25
    go_wp2_with fail
    go_ret
    exact ⟨rfl, hB.out⟩
  by_cases h8 : K = 8
  · subst h8
    clear SY SN
    go_enter Try.func25, Try.ntmps25
    go_wp2_with fail
    go_ret
    exact ⟨rfl, hB.out⟩
  by_cases h9 : K = 9
  · subst h9
    clear SY SN
    go_enter Try.func25, Try.ntmps25
    go_wp2_with fail
    go_ret
    exact ⟨rfl, hB.out⟩
  by_cases h13 : K = 13
  · subst h13
    have HC := SY 0 (.inl rfl)
    clear SY SN
    go_enter Try.func25, Try.ntmps25
    go_wp2_with fail
    refine (HC.out _).mono ?_
    rintro e w2 ⟨rfl, rfl⟩
    go_wp2_with fail
    go_ret
    exact ⟨rfl, hB.out⟩
  by_cases h14 : K = 14
  · subst h14
    have HC := SY 1 (.inr (.inl rfl))
    clear SY SN
    go_enter Try.func25, Try.ntmps25
    go_wp2_with fail
    refine (HC.out _).mono ?_
    rintro e w2 ⟨rfl, rfl⟩
    go_wp2_with fail
    go_ret
    exact ⟨rfl, hB.out⟩
  by_cases h15 : K = 15
  · subst h15
    have HC := SY 3 (.inr (.inr rfl))
    clear SY SN
    go_enter Try.func25, Try.ntmps25
    go_wp2_with fail
    refine (HC.out _).mono ?_
    rintro e w2 ⟨rfl, rfl⟩
    go_wp2_with fail
    go_ret
    exact ⟨rfl, hB.out⟩
  by_cases h18 : K = 18
  · subst h18
    have HC := SN 0 (.inl rfl)
    clear SY SN
    go_enter Try.func25, Try.ntmps25
    go_wp2_with fail
    refine (HC.out _).mono ?_
    rintro e w2 ⟨rfl, rfl⟩
    go_wp2_with fail
    go_ret
    exact ⟨rfl, hB.out⟩
  by_cases h19 : K = 19
  · subst h19
    have HC := SN 1 (.inr (.inl rfl))
    clear SY SN
    go_enter Try.func25, Try.ntmps25
    go_wp2_with fail
    refine (HC.out _).mono ?_
    rintro e w2 ⟨rfl, rfl⟩
    go_wp2_with fail
    go_ret
    exact ⟨rfl, hB.out⟩
  by_cases h20 : K = 20
  · subst h20
    have HC := SN 3 (.inr (.inr rfl))
    clear SY SN
    go_enter Try.func25, Try.ntmps25
    go_wp2_with fail
    refine (HC.out _).mono ?_
    rintro e w2 ⟨rfl, rfl⟩
    go_wp2_with fail
    go_ret
    exact ⟨rfl, hB.out⟩
  by_cases h16 : K = 16
  · subst h16
    clear SY SN
    go_enter Try.func25, Try.ntmps25
    go_wp2_with fail
    go_ret
    exact ⟨rfl, hB.out⟩
  have m7 : (K == 7) = false := by simpa using h7
  have m8 : (K == 8) = false := by simpa using h8
  have m9 : (K == 9) = false := by simpa using h9
  have m13 : (K == 13) = false := by simpa using h13
  have m14 : (K == 14) = false := by simpa using h14
  have m15 : (K == 15) = false := by simpa using h15
  have m18 : (K == 18) = false := by simpa using h18
  have m19 : (K == 19) = false := by simpa using h19
  have m20 : (K == 20) = false := by simpa using h20
  have m16 : (K == 16) = false := by simpa using h16
  have hv : logicV K N x y = (-(x % 2)) % 4294967296 := by simp only [logicV, h7, h8, h9, h13, h14, h15, h18, h19, h20, h16, if_false]
  rw [hv]
  clear SY SN hv h7 h8 h9 h13 h14 h15 h18 h19 h20 h16
  go_enter Try.func25, Try.ntmps25
  go_wp2_with fail
  go_ret
  exact ⟨rfl, hB.out⟩
end Go.Proofs.Ytmkencdkglbpbaa
