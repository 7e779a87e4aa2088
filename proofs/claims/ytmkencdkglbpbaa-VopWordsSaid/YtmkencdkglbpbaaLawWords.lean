/- VopWords: the walk. -/
import Derived.Test.YtmkencdkglbpbaaLexTen
import Derived.Deep.DeepCutAuto
set_option maxRecDepth 100000
set_option linter.unusedVariables false
namespace Go.Proofs.Ytmkencdkglbpbaa
open Go.RowKit Go.BigFrame

def wOps : List Op8 := [⟨23, 4, 5, 0, 1, 2, 3, 0⟩, ⟨24, 6, 7, 4, 5, 2, 3, 0⟩, ⟨25, 8, -1, 0, 1, 2, 3, 0⟩, ⟨22, 9, -1, 0, 2, -1, -1, 0⟩, ⟨28, 10, -1, 0, 2, -1, -1, 0⟩, ⟨29, 11, -1, 0, 10, 2, -1, 0⟩]
theorem wOps_ok : ∀ o ∈ wOps, o.ok := by unfold Op8.ok; decide
theorem w_op1 (S : Int) (m : Nat → Int) (a b c d x4 x5 x6 x7 x8 x9 x10 x11 : Int) : Op8.run ⟨23, 4, 5, 0, 1, 2, 3, 0⟩ S [a, b, c, d, x4, x5, x6, x7, x8, x9, x10, x11] m =
  (0, 0, [a, b, c, d, ((b * 4294967296 + a) + (d * 4294967296 + c)) % 18446744073709551616 % 4294967296, ((b * 4294967296 + a) + (d * 4294967296 + c)) % 18446744073709551616 / 4294967296, x6, x7, x8, x9, x10, x11], m) := rfl
theorem w_op2 (S : Int) (m : Nat → Int) (a b c d x4 x5 x6 x7 x8 x9 x10 x11 : Int) : Op8.run ⟨24, 6, 7, 4, 5, 2, 3, 0⟩ S [a, b, c, d, x4, x5, x6, x7, x8, x9, x10, x11] m =
  (0, 0, [a, b, c, d, x4, x5, ((x5 * 4294967296 + x4) - (d * 4294967296 + c)) % 18446744073709551616 % 4294967296, ((x5 * 4294967296 + x4) - (d * 4294967296 + c)) % 18446744073709551616 / 4294967296, x8, x9, x10, x11], m) := rfl
theorem w_op3 (S : Int) (m : Nat → Int) (a b c d x4 x5 x6 x7 x8 x9 x10 x11 : Int) : Op8.run ⟨25, 8, -1, 0, 1, 2, 3, 0⟩ S [a, b, c, d, x4, x5, x6, x7, x8, x9, x10, x11] m =
  (0, 0, [a, b, c, d, x4, x5, x6, x7, truthV (decide (b * 4294967296 + a < d * 4294967296 + c)) % 4294967296, x9, x10, x11], m) := rfl
theorem w_op4 (S : Int) (m : Nat → Int) (a b c d x4 x5 x6 x7 x8 x9 x10 x11 : Int) : Op8.run ⟨22, 9, -1, 0, 2, -1, -1, 0⟩ S [a, b, c, d, x4, x5, x6, x7, x8, x9, x10, x11] m =
  (0, 0, [a, b, c, d, x4, x5, x6, x7, x8, truthV (a == c), x10, x11], m) := rfl
theorem w_op5 (S : Int) (m : Nat → Int) (a b c d x4 x5 x6 x7 x8 x9 x10 x11 : Int) : Op8.run ⟨28, 10, -1, 0, 2, -1, -1, 0⟩ S [a, b, c, d, x4, x5, x6, x7, x8, x9, x10, x11] m =
  (0, 0, [a, b, c, d, x4, x5, x6, x7, x8, x9, a / c, x11], m) := rfl
theorem w_op6 (S : Int) (m : Nat → Int) (a b c d x4 x5 x6 x7 x8 x9 x10 x11 : Int) : Op8.run ⟨29, 11, -1, 0, 10, 2, -1, 0⟩ S [a, b, c, d, x4, x5, x6, x7, x8, x9, x10, x11] m =
  (0, 0, [a, b, c, d, x4, x5, x6, x7, x8, x9, x10, (a - (x10 * c) % 4294967296) % 4294967296], m) := rfl
theorem runM_step (S : Int) (o : Op8) (l : List Op8) (R R' : List Int) (m : Nat → Int) (h : o.run S R m = (0, 0, R', m)) : runM S (o :: l) R m = runM S l R' m := by
  rw [runM, h]; simp
/-- What the six operations leave. -/
theorem w_run (S : Int) (m : Nat → Int) (a b c d : Int) (ha : 0 ≤ a ∧ a < 4294967296) (hb : 0 ≤ b ∧ b < 4294967296) (hc : 0 ≤ c ∧ c < 4294967296) (hd : 0 ≤ d ∧ d < 4294967296) :
    ∃ lo hi T8 q r, runM S wOps [a, b, c, d, 0, 0, 0, 0, 0, 0, 0, 0] m = (0, 0, [a, b, c, d, lo, hi, a, b, T8, truthV (a == c), q, r], m) ∧ (0 ≤ lo ∧ lo < 4294967296) ∧ (0 ≤ hi ∧ hi < 4294967296) ∧
      hi * 4294967296 + lo = ((b * 4294967296 + a) + (d * 4294967296 + c)) % 18446744073709551616 ∧ T8 = truthV (decide (b * 4294967296 + a < d * 4294967296 + c)) ∧ q = a / c ∧ r = a % c := by
  refine ⟨((b * 4294967296 + a) + (d * 4294967296 + c)) % 18446744073709551616 % 4294967296, ((b * 4294967296 + a) + (d * 4294967296 + c)) % 18446744073709551616 / 4294967296, _, _, _, ?_, by omega, by omega, by omega, rfl, rfl, rfl⟩
  unfold wOps
  rw [runM_step _ _ _ _ _ _ (w_op1 ..), runM_step _ _ _ _ _ _ (w_op2 ..), runM_step _ _ _ _ _ _ (w_op3 ..), runM_step _ _ _ _ _ _ (w_op4 ..), runM_step _ _ _ _ _ _ (w_op5 ..), runM_step _ _ _ _ _ _ (w_op6 ..), runM]
  obtain ⟨P, hP⟩ : ∃ P, P = ((b * 4294967296 + a) + (d * 4294967296 + c)) % 18446744073709551616 := ⟨_, rfl⟩
  rw [← hP]
  have e0 : P / 4294967296 * 4294967296 + P % 4294967296 = P := by omega
  have e1 : (P - (d * 4294967296 + c)) % 18446744073709551616 = b * 4294967296 + a := by omega
  rw [e0, e1]
  have e2 : (b * 4294967296 + a) % 4294967296 = a := by omega
  have e3 : (b * 4294967296 + a) / 4294967296 = b := by omega
  have e4 : truthV (decide (b * 4294967296 + a < d * 4294967296 + c)) % 4294967296 = truthV (decide (b * 4294967296 + a < d * 4294967296 + c)) := by
    have := truthV_bd (decide (b * 4294967296 + a < d * 4294967296 + c)); omega
  have e5 : (a - (a / c * c) % 4294967296) % 4294967296 = a % c := by
    have h1 := Int.ediv_mul_add_emod a c
    have h2 : 0 ≤ a % c := by
      by_cases hc0 : c = 0
      · subst hc0; simp; exact ha.1
      · exact Int.emod_nonneg _ hc0
    have h3 : 0 ≤ a / c := Int.ediv_nonneg ha.1 hc.1
    have h4 : 0 ≤ a / c * c := Int.mul_nonneg h3 hc.1
    generalize a / c * c = p at *
    omega
  rw [e2, e3, e4, e5]

theorem i_rows (W : World) (L M : List Int) (t t' : TypeId) :
    IRow ((W.alloc (.cells (L.map (Value.int .i64)).toArray t)).alloc (.cells (M.map (Value.int .i64)).toArray t')) W.heap.size 0 L ∧
    IRow ((W.alloc (.cells (L.map (Value.int .i64)).toArray t)).alloc (.cells (M.map (Value.int .i64)).toArray t')) (W.heap.size + 1) 0 M := by
  refine ⟨⟨by simp; omega, fun i hi => ?_⟩, by simp, fun i hi => ?_⟩
  · rw [World.cell?_alloc_past _ _ _ (by simp), World.cell?_alloc_at _ _ _ _ rfl]; simp [hi]
  · rw [World.cell?_alloc_at _ _ _ _ (by simp)]; simp [hi]
/-- Make of two slices that have just been made. -/
theorem make_new (K N : Int) (L M : List Int) (q2 q4 : Nat) (W : World) (h2 : L.length = q2) (h4 : M.length = q4) (b2 : q2 ≤ 1000) (b4 : q4 ≤ 1000) :
    Calls Try.prog 8 #[.int .i64 K, .int .u32 N, .slice (some ⟨W.heap.size, 0, none⟩) q2 q2, .slice (some ⟨W.heap.size + 1, 0, none⟩) q4 q4] ((W.alloc (.cells (L.map (Value.int .i64)).toArray 3)).alloc (.cells (M.map (Value.int .i64)).toArray 3)) fun e w' =>
      e = .returned (opV K (padV L 0) (padV L 1) (padV M 0) (padV M 1) (padV M 2) (padV M 3) N) ∧ Below W.heap.size W w' := by
  have hi := i_rows W L M 3 3
  have hB := ((Below.refl _ W).alloc (Nat.le_refl _) (.cells (L.map (Value.int .i64)).toArray 3)).alloc (by simp) (.cells (M.map (Value.int .i64)).toArray 3)
  generalize World.alloc _ _ = w1 at hi hB ⊢
  have l1 := hi.1.1
  have l2 := hi.2.1
  refine (make_any K N _ _ q2 q2 q4 q4 L M w1 (.inr ⟨_, rfl, hi.1⟩) (.inr ⟨_, rfl, hi.2⟩) h2 h4 b2 b4 (fun g e => by injection e with e; injection e with e; omega) (fun g e => by injection e with e; injection e with e; omega)).mono ?_
  rintro e w2 ⟨rfl, hb⟩
  exact ⟨rfl, hB.trans (hb.mono (Nat.le_trans (Nat.le_refl _) hB.size))⟩

theorem u64_join (x y : Int) (hx : 0 ≤ x ∧ x < 4294967296) (hy : 0 ≤ y ∧ y < 4294967296) : bits BinOp.or IntKind.u64 (x * 4294967296) y = x * 4294967296 + y := by
  obtain ⟨n, rfl⟩ := Int.eq_ofNat_of_zero_le hy.1
  obtain ⟨m, rfl⟩ := Int.eq_ofNat_of_zero_le hx.1
  have := u64_or_nat (m * 4294967296) n (by omega) (by omega)
  rw [nat_join 32 (m * 4294967296) n (by omega) (by omega)] at this
  simpa using this

set_option maxHeartbeats 16000000 in
theorem vopWords_walk (a b c d : Int) (w : World) (ha : 0 ≤ a ∧ a < 4294967296) (hb : 0 ≤ b ∧ b < 4294967296) (hc : 0 ≤ c ∧ c < 4294967296) (hd : 0 ≤ d ∧ d < 4294967296) :
    Calls Try.prog 3 #[.int .u32 a, .int .u32 b, .int .u32 c, .int .u32 d] w fun e w' => e = .returned (.bool true) ∧ Below w.heap.size w w' := by
  have HAB := Lib.hid (And.intro ha (And.intro hb (And.intro hc hd)))
  clear ha hb hc hd
  go_enter Try.func3, Try.ntmps3
  go_wp2_with fail
  refine (anchor_any w).mono ?_
  rintro e w1 ⟨rfl, hb1⟩
  have HB1 := Lib.hid hb1
  clear hb1
  go_wp2_with fail
  have hB2 := HB1.out.alloc HB1.out.size (.cells #[.int .u32 a, .int .u32 b, .int .u32 c, .int .u32 d, .int .u32 0, .int .u32 0, .int .u32 0, .int .u32 0, .int .u32 0, .int .u32 0, .int .u32 0, .int .u32 0] 22)
  have hU2 : USl (w1.alloc (.cells #[.int .u32 a, .int .u32 b, .int .u32 c, .int .u32 d, .int .u32 0, .int .u32 0, .int .u32 0, .int .u32 0, .int .u32 0, .int .u32 0, .int .u32 0, .int .u32 0] 22)) (some ⟨w1.heap.size, 0, none⟩) [a, b, c, d, 0, 0, 0, 0, 0, 0, 0, 0] := by
    refine .inr ⟨w1.heap.size, 0, rfl, by simp, fun i hi => ?_⟩
    rw [World.cell?_alloc_at _ _ _ _ rfl]
    have hi' : i < 12 := hi
    rcases (show i = 0 ∨ i = 1 ∨ i = 2 ∨ i = 3 ∨ i = 4 ∨ i = 5 ∨ i = 6 ∨ i = 7 ∨ i = 8 ∨ i = 9 ∨ i = 10 ∨ i = 11 by omega) with rfl | rfl | rfl | rfl | rfl | rfl | rfl | rfl | rfl | rfl | rfl | rfl <;> rfl
  generalize w1.alloc _ = w2 at hB2 hU2 ⊢
  have HB2 := Lib.hid hB2
  have HU2 := Lib.hid hU2
  clear hB2 hU2
  refine (started_any _ 12 12 [a, b, c, d, 0, 0, 0, 0, 0, 0, 0, 0] 536870912 w2 HU2.out rfl (by have := HAB.out; simp; omega) (by omega) (by omega)).mono ?_
  rintro e w3 ⟨sb, rb, rc, mb, fv, rg, rb2, rc2, B, m, rfl, hc2, hS⟩
  have HB3 := Lib.hid (HB2.out.trans (hS.below.mono HB2.out.size))
  have HSt3 : Hid (StAt w3 sb rb rc mb fv rg B 536870912 [a, b, c, d, 0, 0, 0, 0, 0, 0, 0, 0] (fun _ => 0)) :=
    ⟨hS.reg, hS.mem, by have := hS.hm2; have := hS.hm4; omega, by have := hS.hm2; have := hS.hm5; omega, by have := hS.hm1; have := hS.hm4; omega, fun e => by have := hS.hm3 _ e; have := hS.hm4; omega⟩
  have HLO := Lib.hid (show w.heap.size ≤ rb ∧ w.heap.size ≤ rg by have := hS.hB; have := hS.mem.hr; have := hS.mem.hb; have := hS.hm1; have := hS.hm4; have := HB2.out.size; omega)
  clear hS
  have hB4 := HB3.out.alloc HB3.out.size (.cells #[.slice (some ⟨rb2, 0, none⟩) 12 rc2, .int .u32 536870912, .slice none 0 0, .slice none 0 0] 31)
  have hS4 := HSt3.out.below ((Below.refl _ w3).alloc (Nat.le_refl _) (.cells #[.slice (some ⟨rb2, 0, none⟩) 12 rc2, .int .u32 536870912, .slice none 0 0, .slice none 0 0] 31))
  go_wp2_with fail
  rw [show w3.heap.size + 1 = (w3.alloc (.cells #[.slice (some ⟨rb2, 0, none⟩) 12 rc2, .int .u32 536870912, .slice none 0 0, .slice none 0 0] 31)).heap.size from (World.size_alloc _ _).symm]
  generalize w3.alloc (.cells #[.slice (some ⟨rb2, 0, none⟩) 12 rc2, .int .u32 536870912, .slice none 0 0, .slice none 0 0] 31) = w4 at hB4 hS4 ⊢
  have HB4 := Lib.hid hB4
  have HSt4 := Lib.hid hS4
  clear hB4 hS4
  have hm : Calls Try.prog 8 #[.int .i64 23, .int .u32 0, .slice (some ⟨w4.heap.size, 0, none⟩) 2 2, .slice (some ⟨w4.heap.size + 1, 0, none⟩) 4 4] ((w4.alloc (.cells #[.int .i64 4, .int .i64 5] 3)).alloc (.cells #[.int .i64 0, .int .i64 1, .int .i64 2, .int .i64 3] 3)) fun e w' => e = .returned (opV 23 4 5 0 1 2 3 0) ∧ Below w4.heap.size w4 w' := make_new 23 0 [4, 5] [0, 1, 2, 3] 2 4 w4 rfl rfl (by omega) (by omega)
  refine hm.mono ?_
  rintro e w5 ⟨rfl, hb5⟩
  have HB5 := Lib.hid (HB4.out.trans (hb5.mono HB4.out.size))
  have HSt5 := Lib.hid (HSt4.out.below hb5)
  clear hm hb5
  go_wp2_with fail
  have hm : Calls Try.prog 8 #[.int .i64 24, .int .u32 0, .slice (some ⟨w5.heap.size, 0, none⟩) 2 2, .slice (some ⟨w5.heap.size + 1, 0, none⟩) 4 4] ((w5.alloc (.cells #[.int .i64 6, .int .i64 7] 3)).alloc (.cells #[.int .i64 4, .int .i64 5, .int .i64 2, .int .i64 3] 3)) fun e w' => e = .returned (opV 24 6 7 4 5 2 3 0) ∧ Below w5.heap.size w5 w' := make_new 24 0 [6, 7] [4, 5, 2, 3] 2 4 w5 rfl rfl (by omega) (by omega)
  refine hm.mono ?_
  rintro e w6 ⟨rfl, hb6⟩
  have HB6 := Lib.hid (HB5.out.trans (hb6.mono HB5.out.size))
  have HSt6 := Lib.hid (HSt5.out.below hb6)
  clear hm hb6
  go_wp2_with fail
  have hm : Calls Try.prog 8 #[.int .i64 25, .int .u32 0, .slice (some ⟨w6.heap.size, 0, none⟩) 1 1, .slice (some ⟨w6.heap.size + 1, 0, none⟩) 4 4] ((w6.alloc (.cells #[.int .i64 8] 3)).alloc (.cells #[.int .i64 0, .int .i64 1, .int .i64 2, .int .i64 3] 3)) fun e w' => e = .returned (opV 25 8 (-1) 0 1 2 3 0) ∧ Below w6.heap.size w6 w' := make_new 25 0 [8] [0, 1, 2, 3] 1 4 w6 rfl rfl (by omega) (by omega)
  refine hm.mono ?_
  rintro e w7 ⟨rfl, hb7⟩
  have HB7 := Lib.hid (HB6.out.trans (hb7.mono HB6.out.size))
  have HSt7 := Lib.hid (HSt6.out.below hb7)
  clear hm hb7
  go_wp2_with fail
  have hm : Calls Try.prog 8 #[.int .i64 22, .int .u32 0, .slice (some ⟨w7.heap.size, 0, none⟩) 1 1, .slice (some ⟨w7.heap.size + 1, 0, none⟩) 2 2] ((w7.alloc (.cells #[.int .i64 9] 3)).alloc (.cells #[.int .i64 0, .int .i64 2] 3)) fun e w' => e = .returned (opV 22 9 (-1) 0 2 (-1) (-1) 0) ∧ Below w7.heap.size w7 w' := make_new 22 0 [9] [0, 2] 1 2 w7 rfl rfl (by omega) (by omega)
  refine hm.mono ?_
  rintro e w8 ⟨rfl, hb8⟩
  have HB8 := Lib.hid (HB7.out.trans (hb8.mono HB7.out.size))
  have HSt8 := Lib.hid (HSt7.out.below hb8)
  clear hm hb8
  go_wp2_with fail
  have hm : Calls Try.prog 8 #[.int .i64 28, .int .u32 0, .slice (some ⟨w8.heap.size, 0, none⟩) 1 1, .slice (some ⟨w8.heap.size + 1, 0, none⟩) 2 2] ((w8.alloc (.cells #[.int .i64 10] 3)).alloc (.cells #[.int .i64 0, .int .i64 2] 3)) fun e w' => e = .returned (opV 28 10 (-1) 0 2 (-1) (-1) 0) ∧ Below w8.heap.size w8 w' := make_new 28 0 [10] [0, 2] 1 2 w8 rfl rfl (by omega) (by omega)
  refine hm.mono ?_
  rintro e w9 ⟨rfl, hb9⟩
  have HB9 := Lib.hid (HB8.out.trans (hb9.mono HB8.out.size))
  have HSt9 := Lib.hid (HSt8.out.below hb9)
  clear hm hb9
  go_wp2_with fail
  have hm : Calls Try.prog 8 #[.int .i64 29, .int .u32 0, .slice (some ⟨w9.heap.size, 0, none⟩) 1 1, .slice (some ⟨w9.heap.size + 1, 0, none⟩) 3 3] ((w9.alloc (.cells #[.int .i64 11] 3)).alloc (.cells #[.int .i64 0, .int .i64 10, .int .i64 2] 3)) fun e w' => e = .returned (opV 29 11 (-1) 0 10 2 (-1) 0) ∧ Below w9.heap.size w9 w' := make_new 29 0 [11] [0, 10, 2] 1 3 w9 rfl rfl (by omega) (by omega)
  refine hm.mono ?_
  rintro e w10 ⟨rfl, hb10⟩
  have HB10 := Lib.hid (HB9.out.trans (hb10.mono HB9.out.size))
  have HSt10 := Lib.hid (HSt9.out.below hb10)
  clear hm hb10
  go_wp2_with fail
  have hB11 := HB10.out.alloc HB10.out.size (.cells #[.int .i64 23, .int .i64 4, .int .i64 5, .int .i64 0, .int .i64 1, .int .i64 2, .int .i64 3, .int .u32 0, .int .i64 24, .int .i64 6, .int .i64 7, .int .i64 4, .int .i64 5, .int .i64 2, .int .i64 3, .int .u32 0, .int .i64 25, .int .i64 8, .int .i64 (-1), .int .i64 0, .int .i64 1, .int .i64 2, .int .i64 3, .int .u32 0, .int .i64 22, .int .i64 9, .int .i64 (-1), .int .i64 0, .int .i64 2, .int .i64 (-1), .int .i64 (-1), .int .u32 0, .int .i64 28, .int .i64 10, .int .i64 (-1), .int .i64 0, .int .i64 2, .int .i64 (-1), .int .i64 (-1), .int .u32 0, .int .i64 29, .int .i64 11, .int .i64 (-1), .int .i64 0, .int .i64 10, .int .i64 2, .int .i64 (-1), .int .u32 0] 40)
  have hS11 := HSt10.out.below ((Below.refl _ w10).alloc (Nat.le_refl _) (.cells #[.int .i64 23, .int .i64 4, .int .i64 5, .int .i64 0, .int .i64 1, .int .i64 2, .int .i64 3, .int .u32 0, .int .i64 24, .int .i64 6, .int .i64 7, .int .i64 4, .int .i64 5, .int .i64 2, .int .i64 3, .int .u32 0, .int .i64 25, .int .i64 8, .int .i64 (-1), .int .i64 0, .int .i64 1, .int .i64 2, .int .i64 3, .int .u32 0, .int .i64 22, .int .i64 9, .int .i64 (-1), .int .i64 0, .int .i64 2, .int .i64 (-1), .int .i64 (-1), .int .u32 0, .int .i64 28, .int .i64 10, .int .i64 (-1), .int .i64 0, .int .i64 2, .int .i64 (-1), .int .i64 (-1), .int .u32 0, .int .i64 29, .int .i64 11, .int .i64 (-1), .int .i64 0, .int .i64 10, .int .i64 2, .int .i64 (-1), .int .u32 0] 40))
  have hO11 : OpsSl (w10.alloc (.cells #[.int .i64 23, .int .i64 4, .int .i64 5, .int .i64 0, .int .i64 1, .int .i64 2, .int .i64 3, .int .u32 0, .int .i64 24, .int .i64 6, .int .i64 7, .int .i64 4, .int .i64 5, .int .i64 2, .int .i64 3, .int .u32 0, .int .i64 25, .int .i64 8, .int .i64 (-1), .int .i64 0, .int .i64 1, .int .i64 2, .int .i64 3, .int .u32 0, .int .i64 22, .int .i64 9, .int .i64 (-1), .int .i64 0, .int .i64 2, .int .i64 (-1), .int .i64 (-1), .int .u32 0, .int .i64 28, .int .i64 10, .int .i64 (-1), .int .i64 0, .int .i64 2, .int .i64 (-1), .int .i64 (-1), .int .u32 0, .int .i64 29, .int .i64 11, .int .i64 (-1), .int .i64 0, .int .i64 10, .int .i64 2, .int .i64 (-1), .int .u32 0] 40)) (some ⟨w10.heap.size, 0, none⟩) wOps := by
    refine .inr ⟨w10.heap.size, 0, rfl, by simp, fun i hi => ?_⟩
    have hi' : i < 6 := hi
    simp only [World.cell?_alloc_at _ _ _ _ rfl]
    rcases (show i = 0 ∨ i = 1 ∨ i = 2 ∨ i = 3 ∨ i = 4 ∨ i = 5 by omega) with rfl | rfl | rfl | rfl | rfl | rfl <;> exact ⟨rfl, rfl, rfl, rfl, rfl, rfl, rfl, rfl⟩
  have hlt : rb < w10.heap.size ∧ rg < w10.heap.size := ⟨HSt10.out.reg.rlt, HSt10.out.mem.hrs⟩
  generalize hw11 : w10.alloc _ = w11 at hB11 hS11 hO11 ⊢
  have HB11 := Lib.hid hB11
  obtain ⟨hA, hB, hC, hD⟩ := HAB.out
  obtain ⟨lo, hi, T8, q, r, hrun, hlo, hhi, hP, hT8, hq, hr⟩ := w_run 536870912 (fun _ => 0) a b c d hA hB hC hD
  have hgo := run_any sb rb rc mb fv rg B 536870912 _ _ (some ⟨w10.heap.size, 0, none⟩) 6 6 wOps w11 hS11 hO11 rfl (by omega) wOps_ok (fun b o e => by injection e with e; injection e with e; omega) (by omega)
  rw [hrun] at hgo
  have HGO := Lib.hid hgo
  have HP := Lib.hid (And.intro hlo (And.intro hhi hP))
  have HT8 := Lib.hid hT8
  have HQR := Lib.hid (And.intro hq hr)
  clear hgo hrun hw11 hB11 hS11 hO11 hlt hlo hhi hP hT8 hq hr hA hB hC hD
  refine HGO.out.mono ?_
  rintro e w12 ⟨rfl, hs12, hk12⟩
  have HSt12 := Lib.hid hs12
  have HB12 := Lib.hid (hk12.below HB11.out (Nat.le_refl _) HLO.out.1 HLO.out.2)
  clear hs12 hk12
  obtain ⟨z0, z1, z2⟩ := HSt12.out.reg.cells
  rw [show [a, b, c, d, lo, hi, a, b, T8, truthV (a == c), q, r].length = 12 from rfl] at z0
  have y4 : w12.cell? ⟨rb, 4, none⟩ = some (.int .u32 lo) := HSt12.out.reg.row 4 (by simp)
  have y5 : w12.cell? ⟨rb, 5, none⟩ = some (.int .u32 hi) := HSt12.out.reg.row 5 (by simp)
  have y6 : w12.cell? ⟨rb, 6, none⟩ = some (.int .u32 a) := HSt12.out.reg.row 6 (by simp)
  have y7 : w12.cell? ⟨rb, 7, none⟩ = some (.int .u32 b) := HSt12.out.reg.row 7 (by simp)
  have y8 : w12.cell? ⟨rb, 8, none⟩ = some (.int .u32 T8) := HSt12.out.reg.row 8 (by simp)
  have y9 : w12.cell? ⟨rb, 9, none⟩ = some (.int .u32 (truthV (a == c))) := HSt12.out.reg.row 9 (by simp)
  have y10 : w12.cell? ⟨rb, 10, none⟩ = some (.int .u32 q) := HSt12.out.reg.row 10 (by simp)
  have y11 : w12.cell? ⟨rb, 11, none⟩ = some (.int .u32 r) := HSt12.out.reg.row 11 (by simp)
  obtain ⟨T9, hT9⟩ : ∃ T9, T9 = truthV (a == c) := ⟨_, rfl⟩
  rw [← hT9] at y9
  obtain ⟨hA, hB, hC, hD⟩ := HAB.out
  obtain ⟨hlo, hhi, hP⟩ := HP.out
  have or1 := u64_join b a hB hA
  have or2 := u64_join d c hD hC
  have or3 := u64_join hi lo hhi hlo
  rw [hP] at or3
  have hT8 := HT8.out
  obtain ⟨A, hAe⟩ : ∃ A, A = b * 4294967296 + a := ⟨_, rfl⟩
  obtain ⟨D, hDe⟩ : ∃ D, D = d * 4294967296 + c := ⟨_, rfl⟩
  rw [← hAe] at or1 or3 hT8
  rw [← hDe] at or2 or3 hT8
  obtain ⟨Bl, hBl⟩ : ∃ Bl, decide (A < D) = Bl := ⟨_, rfl⟩
  obtain ⟨Be, hBe⟩ : ∃ Be, (a == c) = Be := ⟨_, rfl⟩
  rw [hBl] at hT8
  rw [hBe] at hT9
  have f1 : (T8 == 1) = Bl := by rw [hT8]; cases Bl <;> rfl
  have f2 : (T9 == 1) = Be := by rw [hT9]; cases Be <;> rfl
  have f3 : decide (1 < T8) = false := by rw [hT8]; cases Bl <;> rfl
  have f4 : decide (1 < T9) = false := by rw [hT9]; cases Be <;> rfl
  have HAB2 := Lib.hid hAe
  obtain ⟨a0, a1⟩ := hA
  obtain ⟨b0, b1⟩ := hB
  obtain ⟨cc0, cc1⟩ := hC
  obtain ⟨d0, d1⟩ := hD
  obtain ⟨lo0, lo1⟩ := hlo
  obtain ⟨hi0, hi1⟩ := hhi
  clear hP hT8 hT9 hAe hDe
  have wh : IntKind.u64.wrap hi = hi := by rw [IntKind.wrap_u64]; omega
  have wl : IntKind.u64.wrap lo = lo := by rw [IntKind.wrap_u64]; omega
  have wh2 : IntKind.u64.wrap (hi * 4294967296) = hi * 4294967296 := by rw [IntKind.wrap_u64]; omega
  have or4 : bits BinOp.or IntKind.u64 (hi * 4294967296) lo = IntKind.u64.wrap (A + D) := by rw [IntKind.wrap_u64]; exact or3
  clear or3 HGO HB1 HB2 HB3 HB4 HB5 HB6 HB7 HB8 HB9 HB10 HB11 HSt3 HSt4 HSt5 HSt6 HSt7 HSt8 HSt9 HSt10 HU2 HLO
  go_upto_region 9 with fail
  go_cut [13, 14] (fun s13 s14 wx => s13 = .int .u64 A ∧ s14 = .int .u64 D ∧ wx = w12)
  case first =>
    go_wp2_with fail
    go_meet
    exact ⟨rfl, rfl, rfl⟩
  case rest =>
  obtain ⟨rfl, rfl, rfl⟩ := hcut
  go_upto_region 10 with fail
  go_cut [161] (fun t wx => t = .bool false ∧ ∃ n, wx = wc.drewN n)
  case first =>
    simp only [List.append_eq, List.cons_append, List.nil_append]
    refine wp_region_quiet_lit (by kernel_rfl) (Eq.trans (congrArg (Region.lexB .any) (show _ = (Try.f3.body.bind (regionOps 10)).getD #[] by kernel_rfl)) lexTen) ?_
    iterate 21 (go_big_quiet_step (fail))
    as_aux_lemma =>
      iterate 21 (go_big_quiet_step (fail))
      as_aux_lemma =>
        iterate 21 (go_big_quiet_step (fail))
        as_aux_lemma =>
          repeat (go_big_quiet_step (fail))
          refine wpQuiet_nil ?_
          intro _ hw'
          obtain ⟨nq, hw''⟩ := hw'
          subst hw''
          go_wp2_with fail
          go_meet
          exact ⟨rfl, _, rfl⟩
  case rest =>
  obtain ⟨rfl, nd, rfl⟩ := hcut
  obtain ⟨hq, hr⟩ := HQR.out
  by_cases hc0 : c = 0
  · have g1 : (c == 0) = true := by simpa using hc0
    have g2 : (q == 0) = true := by rw [hq, hc0]; simp
    have g3 : (r == a) = true := by rw [hr, hc0]; simp
    clear hq hr hc0 f1 f2 f3 f4 or1 or2 or4 wh wl wh2
    go_wp2_with fail
    go_quiet (fail)
    go_wp2_with fail
    go_ret
    exact ⟨rfl, below_drewN (below_drewN HB12.out _) _⟩
  · have hcp : 0 < c := by omega
    have hr0 : 0 ≤ r := by rw [hr]; exact Int.emod_nonneg _ hc0
    have hrc : r < c := by rw [hr]; exact Int.emod_lt_of_pos _ hcp
    have hq0 : 0 ≤ q := by rw [hq]; exact Int.ediv_nonneg a0 cc0
    have hqa : q ≤ a := by rw [hq]; exact Int.ediv_le_self _ a0
    have hs : q * c + r = a := by rw [hq, hr]; exact Int.ediv_mul_add_emod a c
    have hqc : 0 ≤ q * c := Int.mul_nonneg hq0 cc0
    have g1 : (c == 0) = false := by simpa using hc0
    have g2 : decide (0 < c) = true := by simpa using hcp
    have g3 : decide (r < c) = true := by simpa using hrc
    have g4 : IntKind.u64.wrap q = q := by rw [IntKind.wrap_u64]; omega
    have g5 : IntKind.u64.wrap c = c := by rw [IntKind.wrap_u64]; omega
    have g6 : IntKind.u64.wrap (q * c) = q * c := by rw [IntKind.wrap_u64]; generalize q * c = p at *; omega
    have g7 : IntKind.u64.wrap r = r := by rw [IntKind.wrap_u64]; omega
    have g8 : IntKind.u64.wrap (q * c + r) = a := by rw [hs, IntKind.wrap_u64]; omega
    have g9 : IntKind.u64.wrap a = a := by rw [IntKind.wrap_u64]; omega
    clear hq hr hc0 hcp hr0 hrc hq0 hqa hs hqc f1 f2 f3 f4 or1 or2 or4 wh wl wh2
    go_wp2_with fail
    go_quiet (fail)
    go_wp2_with fail
    go_ret
    exact ⟨rfl, below_drewN (below_drewN HB12.out _) _⟩
end Go.Proofs.Ytmkencdkglbpbaa
