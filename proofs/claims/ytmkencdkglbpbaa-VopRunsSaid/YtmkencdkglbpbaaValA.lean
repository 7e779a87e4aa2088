/- The document's values, kind by kind: the walk. -/
import Derived.Test.YtmkencdkglbpbaaLexVal
import Derived.Lib.EndianMore
set_option maxRecDepth 100000
set_option linter.unusedVariables false
namespace Go.Proofs.Ytmkencdkglbpbaa
open Go.RowKit Go.BigFrame

theorem alloc_two (w : World) (a b : Obj) : Below w.heap.size w ((w.alloc a).alloc b) ∧ ((w.alloc a).alloc b).heap[w.heap.size]? = some a ∧ ((w.alloc a).alloc b).heap[w.heap.size + 1]? = some b := by
  have s1 : (w.alloc a).heap.size = w.heap.size + 1 := by simp
  refine ⟨((Below.refl _ w).alloc (Nat.le_refl _) a).alloc (by omega) b, ?_, ?_⟩
  · rw [Below.heap_alloc _ _ _ (by omega), ← heap_alloc_new w a]
  · rw [← s1, heap_alloc_new]
/-- The document's values. -/
def valL (N v0 v1 v2 v3 q : Int) : List Int := [0, N, 0, 0, 0, 0, 0, bits .and .u32 v0 v1, bits .or .u32 v0 v1, bits .xor .u32 v0 v1, (v0 + v1) % 4294967296, (v0 - v1) % 4294967296, (v0 * v1) % 4294967296,
  iterV 0 v0 (v1 % 256).toNat, iterV 1 v0 (v1 % 256).toNat, iterV 3 v0 (v1 % 256).toNat, (4294967295 - v0) % 4294967296, (-v0) % 4294967296, iterV 0 v0 (N % 256).toNat, iterV 1 v0 (N % 256).toNat, iterV 3 v0 (N % 256).toNat,
  truthV (decide (v0 < v1)), truthV (v0 == v1), (v1 * 4294967296 + v0 + (v3 * 4294967296 + v2)) % 18446744073709551616, (v1 * 4294967296 + v0 - (v3 * 4294967296 + v2)) % 18446744073709551616,
  truthV (decide (v1 * 4294967296 + v0 < v3 * 4294967296 + v2)), v0 * v1 % 18446744073709551616, (-(v0 % 2)) % 4294967296, q, (v0 - v1 * v2 % 4294967296) % 4294967296]
theorem w64_of (x : Int) (h : 0 ≤ x ∧ x < 4294967296) : IntKind.u64.wrap x = x := by rw [IntKind.wrap_u64]; omega
theorem m64 (x : Int) : x % 4294967296 % 18446744073709551616 = x % 4294967296 := by omega
theorem val_cells (N v0 v1 v2 v3 q : Int) (hN : 0 ≤ N ∧ N < 4294967296) (h0 : 0 ≤ v0 ∧ v0 < 4294967296) (h1 : 0 ≤ v1 ∧ v1 < 4294967296) (hq : 0 ≤ q ∧ q < 4294967296) :
    [Value.int IntKind.u64 0, Value.int IntKind.u64 (IntKind.u64.wrap N), Value.int IntKind.u64 0, Value.int IntKind.u64 0, Value.int IntKind.u64 0, Value.int IntKind.u64 0, Value.int IntKind.u64 0, Value.int IntKind.u64 (IntKind.u64.wrap (bits BinOp.and IntKind.u32 v0 v1)), Value.int IntKind.u64 (IntKind.u64.wrap (bits BinOp.or IntKind.u32 v0 v1)), Value.int IntKind.u64 (IntKind.u64.wrap (bits BinOp.xor IntKind.u32 v0 v1)), Value.int IntKind.u64 (IntKind.u64.wrap (IntKind.u32.wrap (v0 + v1))), Value.int IntKind.u64 (IntKind.u64.wrap (IntKind.u32.wrap (v0 - v1))), Value.int IntKind.u64 (IntKind.u64.wrap (IntKind.u32.wrap (v0 * v1))), Value.int IntKind.u64 (iterV 0 v0 (v1 % 256).toNat), Value.int IntKind.u64 (iterV 1 v0 (v1 % 256).toNat), Value.int IntKind.u64 (iterV 3 v0 (v1 % 256).toNat), Value.int IntKind.u64 (IntKind.u64.wrap (IntKind.u32.wrap (4294967295 - v0))), Value.int IntKind.u64 (IntKind.u64.wrap (IntKind.u32.wrap (-v0))), Value.int IntKind.u64 (iterV 0 v0 (N % 256).toNat), Value.int IntKind.u64 (iterV 1 v0 (N % 256).toNat), Value.int IntKind.u64 (iterV 3 v0 (N % 256).toNat), Value.int IntKind.u64 (truthV (decide (v0 < v1))), Value.int IntKind.u64 (truthV (v0 == v1)), Value.int IntKind.u64 (IntKind.u64.wrap (v1 * 4294967296 + v0 + (v3 * 4294967296 + v2))), Value.int IntKind.u64 (IntKind.u64.wrap (v1 * 4294967296 + v0 - (v3 * 4294967296 + v2))), Value.int IntKind.u64 (truthV (decide (v1 * 4294967296 + v0 < v3 * 4294967296 + v2))), Value.int IntKind.u64 (IntKind.u64.wrap (IntKind.u64.wrap v0 * IntKind.u64.wrap v1)), Value.int IntKind.u64 (IntKind.u64.wrap (IntKind.u32.wrap (-v0.tmod 2))), Value.int IntKind.u64 (IntKind.u64.wrap q), Value.int IntKind.u64 (IntKind.u64.wrap (IntKind.u32.wrap (v0 - IntKind.u32.wrap (v1 * v2))))] = (valL N v0 v1 v2 v3 q).map (Value.int .u64) := by
  have e1 := w64_of N hN
  have e2 := w64_of q hq
  have e3 := w64_of v0 h0
  have e4 := w64_of v1 h1
  have e5 := fun op => w64_of _ (u32_bits_bd op v0 v1)
  have e6 : v0.tmod 2 = v0 % 2 := Int.tmod_eq_emod_of_nonneg h0.1
  simp only [valL, List.map_cons, List.map_nil, e1, e2, e3, e4, e5, e6, m64, IntKind.wrap_u64, IntKind.wrap_u32]
theorem u64_all (L : List Int) : ∀ v ∈ L.map (Value.int .u64), v.oneCell' = true := by
  intro v hv
  obtain ⟨x, _, rfl⟩ := List.mem_map.1 hv
  rfl
theorem there_zero (w : World) : ((w.alloc (Obj.cells #[Value.int IntKind.u64 0, Value.int IntKind.u64 0, Value.int IntKind.u64 0, Value.int IntKind.u64 0, Value.int IntKind.u64 0, Value.int IntKind.u64 0, Value.int IntKind.u64 0, Value.int IntKind.u64 0, Value.int IntKind.u64 0, Value.int IntKind.u64 0, Value.int IntKind.u64 0, Value.int IntKind.u64 0, Value.int IntKind.u64 0, Value.int IntKind.u64 0, Value.int IntKind.u64 0, Value.int IntKind.u64 0, Value.int IntKind.u64 0, Value.int IntKind.u64 0, Value.int IntKind.u64 0, Value.int IntKind.u64 0, Value.int IntKind.u64 0, Value.int IntKind.u64 0, Value.int IntKind.u64 0, Value.int IntKind.u64 0, Value.int IntKind.u64 0, Value.int IntKind.u64 0, Value.int IntKind.u64 0, Value.int IntKind.u64 0, Value.int IntKind.u64 0, Value.int IntKind.u64 0] 100)).drew).there w.heap.size 0 30 := by
  rw [World.there_drew]
  intro j hj
  have hk := heap_alloc_new w (Obj.cells #[Value.int IntKind.u64 0, Value.int IntKind.u64 0, Value.int IntKind.u64 0, Value.int IntKind.u64 0, Value.int IntKind.u64 0, Value.int IntKind.u64 0, Value.int IntKind.u64 0, Value.int IntKind.u64 0, Value.int IntKind.u64 0, Value.int IntKind.u64 0, Value.int IntKind.u64 0, Value.int IntKind.u64 0, Value.int IntKind.u64 0, Value.int IntKind.u64 0, Value.int IntKind.u64 0, Value.int IntKind.u64 0, Value.int IntKind.u64 0, Value.int IntKind.u64 0, Value.int IntKind.u64 0, Value.int IntKind.u64 0, Value.int IntKind.u64 0, Value.int IntKind.u64 0, Value.int IntKind.u64 0, Value.int IntKind.u64 0, Value.int IntKind.u64 0, Value.int IntKind.u64 0, Value.int IntKind.u64 0, Value.int IntKind.u64 0, Value.int IntKind.u64 0, Value.int IntKind.u64 0] 100)
  refine ⟨?_, by unfold World.frozen?; rw [hk]; rfl⟩
  rw [World.cell?_alloc_at _ _ _ _ rfl]
  have : j < (#[Value.int IntKind.u64 0, Value.int IntKind.u64 0, Value.int IntKind.u64 0, Value.int IntKind.u64 0, Value.int IntKind.u64 0, Value.int IntKind.u64 0, Value.int IntKind.u64 0, Value.int IntKind.u64 0, Value.int IntKind.u64 0, Value.int IntKind.u64 0, Value.int IntKind.u64 0, Value.int IntKind.u64 0, Value.int IntKind.u64 0, Value.int IntKind.u64 0, Value.int IntKind.u64 0, Value.int IntKind.u64 0, Value.int IntKind.u64 0, Value.int IntKind.u64 0, Value.int IntKind.u64 0, Value.int IntKind.u64 0, Value.int IntKind.u64 0, Value.int IntKind.u64 0, Value.int IntKind.u64 0, Value.int IntKind.u64 0, Value.int IntKind.u64 0, Value.int IntKind.u64 0, Value.int IntKind.u64 0, Value.int IntKind.u64 0, Value.int IntKind.u64 0, Value.int IntKind.u64 0] : Array Value).size := hj
  rw [Nat.zero_add, Array.getElem?_eq_getElem this]; rfl

theorem cell_setCells_far (w : World) (b o : Nat) (vs : List Value) (a i : Nat) (h : a ≠ b) : (w.setCells b o vs).cell? ⟨a, i, none⟩ = w.cell? ⟨a, i, none⟩ := World.cell?_setCells_out b vs o w _ (fun e => absurd e h)

set_option maxHeartbeats 16000000 in
theorem value_any (k : Nat) (t0 t1 f0 f1 f2 f3 N v0 v1 v2 v3 : Int) (w : World) (hk : k ≤ 29) (hN : 0 ≤ N ∧ N < 4294967296) (h0 : 0 ≤ v0 ∧ v0 < 4294967296) (h1 : 0 ≤ v1 ∧ v1 < 4294967296) (h2 : 0 ≤ v2 ∧ v2 < 4294967296) (h3 : 0 ≤ v3 ∧ v3 < 4294967296) :
    Calls Try.prog 28 #[.agg #[.int .i64 k, .int .i64 t0, .int .i64 t1, .int .i64 f0, .int .i64 f1, .int .i64 f2, .int .i64 f3, .int .u32 N], .agg #[.int .u32 v0, .int .u32 v1, .int .u32 v2, .int .u32 v3]] w fun e w' => e = .returned (.int .u64 ((valL N v0 v1 v2 v3 (v0 / v1)).getD k 0)) ∧ Below w.heap.size w w' := by
  obtain ⟨a0, a1⟩ := h0
  obtain ⟨b0, b1⟩ := h1
  obtain ⟨c0, c1⟩ := h2
  obtain ⟨d0, d1⟩ := h3
  obtain ⟨n0, n1⟩ := hN
  obtain ⟨V, hV⟩ : ∃ V, V = (valL N v0 v1 v2 v3 (v0 / v1)).getD k 0 := ⟨_, rfl⟩
  rw [← hV]
  have HV := Lib.hid hV
  clear hV
  go_enter Try.func28, Try.ntmps28
  go_upto_if 32 with fail
  obtain ⟨hB2, k5, kV⟩ := alloc_two w (.cells #[.int .i64 k, .int .i64 t0, .int .i64 t1, .int .i64 f0, .int .i64 f1, .int .i64 f2, .int .i64 f3, .int .u32 N] 50) (.cells #[.int .u32 v0, .int .u32 v1, .int .u32 v2, .int .u32 v3] 69)
  generalize (w.alloc _).alloc _ = w2 at hB2 k5 kV ⊢
  have HB2 := Lib.hid hB2
  have K5 := Lib.hid k5
  have KV := Lib.hid kV
  obtain ⟨q, hq⟩ : ∃ q, q = v0 / v1 := ⟨_, rfl⟩
  have hq0 : 0 ≤ q := by rw [hq]; exact Int.ediv_nonneg a0 b0
  have hq1 : q ≤ v0 := by rw [hq]; exact Int.ediv_le_self _ a0
  have Hq := Lib.hid hq
  clear hB2 k5 kV hq
  go_cut [9] (fun s9 wx => s9 = .int .u32 q ∧ wx = w2)
  case first =>
    by_cases hz : v1 = 0
    · have e0 : q = 0 := by rw [Hq.out, hz]; simp
      subst hz
      go_wp2_with fail
      go_meet
      exact ⟨by rw [e0], rfl⟩
    · have e1 : decide (0 < v1) = true := by simp; omega
      have hv : 0 < v1 := by omega
      clear hz
      go_wp2_with fail
      go_meet
      exact ⟨by rw [Hq.out], rfl⟩
  case rest =>
  obtain ⟨rfl, hwc⟩ := hcut
  replace hwc := hwc.symm
  subst hwc
  go_upto_region 8 with fail
  obtain ⟨VL, hVL⟩ : ∃ VL, VL = (valL N v0 v1 v2 v3 q).map (Value.int .u64) := ⟨_, rfl⟩
  have HVL := Lib.hid hVL
  clear hVL
  have c7 : w2.cell? ⟨w.heap.size, 7, none⟩ = some (.int .u32 N) := by simp only [World.cell?, K5.out]; rfl
  have d2 : w2.cell? ⟨w.heap.size + 1, 2, none⟩ = some (.int .u32 v2) := by simp only [World.cell?, KV.out]; rfl
  go_cut [10] (fun s10 wx => s10 = .pointer (some ⟨w2.heap.size, 0, none⟩) ∧ Below w2.heap.size w2 wx ∧ wx.rangeAt w2.heap.size 0 VL)
  case first =>
    have hl2 := lt_of_block KV.out
    have i100 : (Try.prog.info? 100).map (·.size) = some 30 := by kernel_rfl
    have hlen : ([Value.int IntKind.u64 0, Value.int IntKind.u64 (IntKind.u64.wrap N), Value.int IntKind.u64 0, Value.int IntKind.u64 0, Value.int IntKind.u64 0, Value.int IntKind.u64 0, Value.int IntKind.u64 0, Value.int IntKind.u64 (IntKind.u64.wrap (bits BinOp.and IntKind.u32 v0 v1)), Value.int IntKind.u64 (IntKind.u64.wrap (bits BinOp.or IntKind.u32 v0 v1)), Value.int IntKind.u64 (IntKind.u64.wrap (bits BinOp.xor IntKind.u32 v0 v1)), Value.int IntKind.u64 (IntKind.u64.wrap (IntKind.u32.wrap (v0 + v1))), Value.int IntKind.u64 (IntKind.u64.wrap (IntKind.u32.wrap (v0 - v1))), Value.int IntKind.u64 (IntKind.u64.wrap (IntKind.u32.wrap (v0 * v1))), Value.int IntKind.u64 (iterV 0 v0 (v1 % 256).toNat), Value.int IntKind.u64 (iterV 1 v0 (v1 % 256).toNat), Value.int IntKind.u64 (iterV 3 v0 (v1 % 256).toNat), Value.int IntKind.u64 (IntKind.u64.wrap (IntKind.u32.wrap (4294967295 - v0))), Value.int IntKind.u64 (IntKind.u64.wrap (IntKind.u32.wrap (-v0))), Value.int IntKind.u64 (iterV 0 v0 (N % 256).toNat), Value.int IntKind.u64 (iterV 1 v0 (N % 256).toNat), Value.int IntKind.u64 (iterV 3 v0 (N % 256).toNat), Value.int IntKind.u64 (truthV (decide (v0 < v1))), Value.int IntKind.u64 (truthV (v0 == v1)), Value.int IntKind.u64 (IntKind.u64.wrap (v1 * 4294967296 + v0 + (v3 * 4294967296 + v2))), Value.int IntKind.u64 (IntKind.u64.wrap (v1 * 4294967296 + v0 - (v3 * 4294967296 + v2))), Value.int IntKind.u64 (truthV (decide (v1 * 4294967296 + v0 < v3 * 4294967296 + v2))), Value.int IntKind.u64 (IntKind.u64.wrap (IntKind.u64.wrap v0 * IntKind.u64.wrap v1)), Value.int IntKind.u64 (IntKind.u64.wrap (IntKind.u32.wrap (-v0.tmod 2))), Value.int IntKind.u64 (IntKind.u64.wrap q), Value.int IntKind.u64 (IntKind.u64.wrap (IntKind.u32.wrap (v0 - IntKind.u32.wrap (v1 * v2))))]).length = 30 := rfl
    have hone : ∀ v ∈ [Value.int IntKind.u64 0, Value.int IntKind.u64 (IntKind.u64.wrap N), Value.int IntKind.u64 0, Value.int IntKind.u64 0, Value.int IntKind.u64 0, Value.int IntKind.u64 0, Value.int IntKind.u64 0, Value.int IntKind.u64 (IntKind.u64.wrap (bits BinOp.and IntKind.u32 v0 v1)), Value.int IntKind.u64 (IntKind.u64.wrap (bits BinOp.or IntKind.u32 v0 v1)), Value.int IntKind.u64 (IntKind.u64.wrap (bits BinOp.xor IntKind.u32 v0 v1)), Value.int IntKind.u64 (IntKind.u64.wrap (IntKind.u32.wrap (v0 + v1))), Value.int IntKind.u64 (IntKind.u64.wrap (IntKind.u32.wrap (v0 - v1))), Value.int IntKind.u64 (IntKind.u64.wrap (IntKind.u32.wrap (v0 * v1))), Value.int IntKind.u64 (iterV 0 v0 (v1 % 256).toNat), Value.int IntKind.u64 (iterV 1 v0 (v1 % 256).toNat), Value.int IntKind.u64 (iterV 3 v0 (v1 % 256).toNat), Value.int IntKind.u64 (IntKind.u64.wrap (IntKind.u32.wrap (4294967295 - v0))), Value.int IntKind.u64 (IntKind.u64.wrap (IntKind.u32.wrap (-v0))), Value.int IntKind.u64 (iterV 0 v0 (N % 256).toNat), Value.int IntKind.u64 (iterV 1 v0 (N % 256).toNat), Value.int IntKind.u64 (iterV 3 v0 (N % 256).toNat), Value.int IntKind.u64 (truthV (decide (v0 < v1))), Value.int IntKind.u64 (truthV (v0 == v1)), Value.int IntKind.u64 (IntKind.u64.wrap (v1 * 4294967296 + v0 + (v3 * 4294967296 + v2))), Value.int IntKind.u64 (IntKind.u64.wrap (v1 * 4294967296 + v0 - (v3 * 4294967296 + v2))), Value.int IntKind.u64 (truthV (decide (v1 * 4294967296 + v0 < v3 * 4294967296 + v2))), Value.int IntKind.u64 (IntKind.u64.wrap (IntKind.u64.wrap v0 * IntKind.u64.wrap v1)), Value.int IntKind.u64 (IntKind.u64.wrap (IntKind.u32.wrap (-v0.tmod 2))), Value.int IntKind.u64 (IntKind.u64.wrap q), Value.int IntKind.u64 (IntKind.u64.wrap (IntKind.u32.wrap (v0 - IntKind.u32.wrap (v1 * v2))))], v.oneCell' = true := u64_all [0, IntKind.u64.wrap N, 0, 0, 0, 0, 0, IntKind.u64.wrap (bits BinOp.and IntKind.u32 v0 v1), IntKind.u64.wrap (bits BinOp.or IntKind.u32 v0 v1), IntKind.u64.wrap (bits BinOp.xor IntKind.u32 v0 v1), IntKind.u64.wrap (IntKind.u32.wrap (v0 + v1)), IntKind.u64.wrap (IntKind.u32.wrap (v0 - v1)), IntKind.u64.wrap (IntKind.u32.wrap (v0 * v1)), iterV 0 v0 (v1 % 256).toNat, iterV 1 v0 (v1 % 256).toNat, iterV 3 v0 (v1 % 256).toNat, IntKind.u64.wrap (IntKind.u32.wrap (4294967295 - v0)), IntKind.u64.wrap (IntKind.u32.wrap (-v0)), iterV 0 v0 (N % 256).toNat, iterV 1 v0 (N % 256).toNat, iterV 3 v0 (N % 256).toNat, truthV (decide (v0 < v1)), truthV (v0 == v1), IntKind.u64.wrap (v1 * 4294967296 + v0 + (v3 * 4294967296 + v2)), IntKind.u64.wrap (v1 * 4294967296 + v0 - (v3 * 4294967296 + v2)), truthV (decide (v1 * 4294967296 + v0 < v3 * 4294967296 + v2)), IntKind.u64.wrap (IntKind.u64.wrap v0 * IntKind.u64.wrap v1), IntKind.u64.wrap (IntKind.u32.wrap (-v0.tmod 2)), IntKind.u64.wrap q, IntKind.u64.wrap (IntKind.u32.wrap (v0 - IntKind.u32.wrap (v1 * v2)))]
    have hth := there_zero w2
    simp only [List.append_eq, List.cons_append, List.nil_append]
    refine wp_region_noPanic ?_
    refine wp_region_both (S := fun w' => w'.cell? ⟨w.heap.size, 7, none⟩ = some (.int .u32 N) ∧ w'.cell? ⟨w.heap.size + 1, 2, none⟩ = some (.int .u32 v2)) 91 2 (by rfl) (by kernel_rfl)
      (Eq.trans (congrArg Region.noSelect (show _ = (Try.f28.body.bind (regionOps 8)).getD #[] by kernel_rfl)) nosVal)
      (Eq.trans (congrArg (fun x => Region.lexHead .any x 2 91 0 (Array.replicate 93 false)) (show _ = (Try.f28.body.bind (regionOps 8)).getD #[] by kernel_rfl)) lexVal)
      (fun _ _ _ _ _ h => h) ⟨by rw [World.cell?_drew]; exact c7, by rw [World.cell?_drew]; exact d2⟩ ?_
    simp only [List.take_succ_cons, List.take_zero]
    iterate 23 (refine wpBoth_step (fun K hK => ?_); rw [if_pos (by rfl)]; apply Exists.intro; refine ⟨fun w' hSw => ?_, hK _ ?_⟩; (focus (obtain ⟨hc7, hd2⟩ := hSw; go_simp; first | done | rfl | (go_at_call 40; exact (refShifted_any _ _ _ (by omega) ⟨by omega, by omega⟩ ⟨by omega, by omega⟩ _)) | (go_at_call 26; exact refBool_any _ _))); clear hK K; simp only [Act.put, List.setIfInBounds_toArray, List.set_cons_zero, List.set_cons_succ])
    iterate 23 (refine wpBoth_step (fun K hK => ?_); rw [if_pos (by rfl)]; apply Exists.intro; refine ⟨fun w' hSw => ?_, hK _ ?_⟩; (focus (obtain ⟨hc7, hd2⟩ := hSw; go_simp; first | done | rfl | (go_at_call 40; exact (refShifted_any _ _ _ (by omega) ⟨by omega, by omega⟩ ⟨by omega, by omega⟩ _)) | (go_at_call 26; exact refBool_any _ _))); clear hK K; simp only [Act.put, List.setIfInBounds_toArray, List.set_cons_zero, List.set_cons_succ])
    iterate 23 (refine wpBoth_step (fun K hK => ?_); rw [if_pos (by rfl)]; apply Exists.intro; refine ⟨fun w' hSw => ?_, hK _ ?_⟩; (focus (obtain ⟨hc7, hd2⟩ := hSw; go_simp; first | done | rfl | (go_at_call 40; exact (refShifted_any _ _ _ (by omega) ⟨by omega, by omega⟩ ⟨by omega, by omega⟩ _)) | (go_at_call 26; exact refBool_any _ _))); clear hK K; simp only [Act.put, List.setIfInBounds_toArray, List.set_cons_zero, List.set_cons_succ])
    iterate 22 (refine wpBoth_step (fun K hK => ?_); rw [if_pos (by rfl)]; apply Exists.intro; refine ⟨fun w' hSw => ?_, hK _ ?_⟩; (focus (obtain ⟨hc7, hd2⟩ := hSw; go_simp; first | done | rfl | (go_at_call 40; exact (refShifted_any _ _ _ (by omega) ⟨by omega, by omega⟩ ⟨by omega, by omega⟩ _)) | (go_at_call 26; exact refBool_any _ _))); clear hK K; simp only [Act.put, List.setIfInBounds_toArray, List.set_cons_zero, List.set_cons_succ])
    refine wpBoth_nil ?_
    intro listed' hseq
    simp only [Region.seqB, Bool.and_eq_true, decide_eq_true_eq] at hseq
    obtain ⟨h1, h2, h3⟩ := hseq
    refine wpAnyH_all h1 (by simp) ?_
    intro i hi
    obtain rfl := List.mem_singleton.1 hi
    refine wpOp_step rfl (fun K hK => ?_)
    go_simp
    refine hK _ _ ⟨?_, ?_⟩
    · go_keep
    clear hK K
    try simp only [Act.put, List.setIfInBounds_toArray, List.set_cons_zero, List.set_cons_succ]
    refine wpAnyH_all h2 (by simp) ?_
    intro i hi
    obtain rfl := List.mem_singleton.1 hi
    refine wpOp_step rfl (fun K hK => ?_)
    rw [if_pos (by rfl)]
    refine wp_store_mid _ _ _ rfl _ _ (List.toArray _) rfl rfl ?_ ?_ (all_oneCell_toArray hone) ?_
    · simp only [List.size_toArray, hlen]
      exact hth
    · simp only [List.size_toArray, hlen]
      exact i100
    refine hK _ _ ⟨?_, ?_⟩
    · refine ⟨?_, ?_⟩ <;> (rw [cell_setCells_far _ _ _ _ _ _ (by omega)]; go_keep)
    clear hK K
    refine wpAnyH_done (by simpa using h3) ?_ _
    refine NoPanic.normal ?_
    go_wp2_with fail
    go_meet
    refine ⟨rfl, ?_, ?_⟩
    · exact (((Below.refl _ w2).alloc (Nat.le_refl _) _).drew).trans (Lib.below_setCells_w (Nat.le_refl _) _ _ _)
    · rw [HVL.out, ← val_cells N v0 v1 v2 v3 q ⟨n0, n1⟩ ⟨a0, a1⟩ ⟨b0, b1⟩ ⟨hq0, by omega⟩]
      exact World.rangeAt_setCells_same _ _ _ _ hth
  case rest =>
  obtain ⟨rfl, hb3, hrg⟩ := hcut
  have hlV : (valL N v0 v1 v2 v3 q).length = 30 := rfl
  have hcell : wc.cell? ⟨w2.heap.size, k, none⟩ = some (.int .u64 V) := by
    have h := hrg k (.int .u64 V) (by
      rw [HVL.out, List.getElem?_map, List.getElem?_eq_getElem (by omega)]
      rw [HV.out, ← Hq.out, List.getD_eq_getElem?_getD, List.getElem?_eq_getElem (by omega)]
      rfl)
    rwa [Nat.zero_add] at h
  have hl2 := lt_of_block K5.out
  have ck : wc.cell? ⟨w.heap.size, 0, none⟩ = some (.int .i64 k) := (hb3.cell (p := ⟨w.heap.size, 0, none⟩) hl2).trans (by simp only [World.cell?, K5.out]; rfl)
  have hk0 : (0 : Int) ≤ (k : Int) := by omega
  have hk1 : (k : Int) < 30 := by omega
  have HB3 := Lib.hid (HB2.out.trans (hb3.mono HB2.out.size))
  clear hrg hb3 hlV hl2 c7 d2
  go_wp2_with fail
  go_ret
  exact ⟨rfl, HB3.out⟩
end Go.Proofs.Ytmkencdkglbpbaa
