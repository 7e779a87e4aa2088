/- The document's allocator: its books as a value and in memory; where, pinned, put. -/
import Derived.Test.YtmkencdkglbpbaaDoorPressR
set_option maxRecDepth 100000
set_option linter.unusedVariables false
namespace Go.Proofs.YtmkencdkglbpbaaDoor
open Go.RowKit Go.Maps

theorem idxV_snoc : ∀ (A : List Int) (x v : Int) (k : Nat), idxV (A ++ [x]) v k = if 0 ≤ idxV A v k then idxV A v k else if v = x then ((k + A.length : Nat) : Int) else -1
  | [], x, v, k => by simp [idxV]
  | a :: A, x, v, k => by
    rw [List.cons_append, idxV, idxV]
    by_cases h : v = a
    · rw [if_pos h, if_pos h, if_pos (by omega)]
    · rw [if_neg h, if_neg h, idxV_snoc A x v (k + 1)]
      rw [show k + 1 + A.length = k + (a :: A).length from by simp; omega]

/-- A row of numbers at an address, perhaps none. -/
def RSl (w : World) (x : Option Addr) (T : List Int) : Prop := T = [] ∨ ∃ b o, x = some ⟨b, o, none⟩ ∧ IRow w b o T
theorem RSl.of {w : World} {x : Option Addr} {T : List Int} (h : LSl w x T) : RSl w x T := by
  rcases h with h | ⟨g, h, hI⟩
  · exact .inl h
  · exact .inr ⟨g, 0, h, hI⟩
theorem RSl.below {w w' : World} {x : Option Addr} {T : List Int} (h : RSl w x T) (hb : Below w.heap.size w w') : RSl w' x T := by
  rcases h with h | ⟨b, o, h, hI⟩
  · exact .inl h
  · exact .inr ⟨b, o, h, hI.below hb⟩
set_option maxHeartbeats 1000000 in
theorem whereR_any (x : Option Addr) (n c : Nat) (L : List Int) (v : Int) (w : World) (hL : RSl w x L) (hn : L.length = n) (hn2 : n ≤ 100000) :
    Calls Tryd.prog 62 #[.slice x n c, .int .i64 v] w fun e w' => e = .returned (.int .i64 (idxV L v 0)) ∧ w' = w := by
  have HL := Lib.hid hL
  have HN := Lib.hid hn
  obtain ⟨V, hV⟩ : ∃ V, V = idxV L v 0 := ⟨_, rfl⟩
  rw [← hV]
  have HV := Lib.hid hV
  clear hL hn hV
  go_enter Tryd.func62, Tryd.ntmps62
  go_wp2_with fail
  go_loopw [5] (fun i wr => ∃ k : Nat, k ≤ n ∧ i = .int .i64 k ∧ w = wr ∧ idxV (L.drop k) v k = V) (fun i _ => n - (intOf i).toNat)
  case atStart => exact ⟨0, Nat.zero_le _, rfl, rfl, HV.out.symm⟩
  case round =>
    obtain ⟨k, hk, rfl, rfl, hv⟩ := hrel
    have Hv := Lib.hid hv
    clear hv
    by_cases hlt : k < n
    · have hlt' : k < L.length := by rw [HN.out]; exact hlt
      obtain ⟨b, o, rfl, hI⟩ := HL.out.resolve_left (fun e => by rw [e] at hlt'; simp at hlt')
      have c0 := hI.2 k hlt'
      have hbl := hI.1
      have hdr : L.drop k = L[k] :: L.drop (k + 1) := List.drop_eq_getElem_cons hlt'
      generalize L[k]'hlt' = X at c0 hdr
      have hv := Hv.out
      rw [hdr, idxV] at hv
      have wq : IntKind.i64.wrap ((k : Int) + 1) = (k : Int) + 1 := IntWalk.i64_in _ (by omega)
      clear hdr hI
      by_cases hx : v = X
      · have e1 : (X == v) = true := by simpa using hx.symm
        rw [if_pos hx] at hv
        have HVV := Lib.hid hv
        clear hx hv
        go_wp2_with fail
        go_ret
        exact ⟨by rw [← HVV.out]; rfl, rfl⟩
      · have e1 : (X == v) = false := by simpa using fun e => hx e.symm
        rw [if_neg hx] at hv
        have HVV := Lib.hid hv
        clear hx hv
        go_wp2_with fail
        exact ⟨⟨k + 1, by omega, by simp, trivial, HVV.out⟩, by simp only [intOf]; omega⟩
    · have hkn : k = n := by omega
      have hv := Hv.out
      rw [hkn, ← HN.out, List.drop_length, idxV] at hv
      have HVV := Lib.hid hv
      clear hv hkn
      go_wp2_with fail
      go_ret
      exact ⟨by rw [← HVV.out]; rfl, rfl⟩

/-- What an operation reads, and perhaps sets. -/
def pinsOf (o : Op8) (sets : Bool) : List Int := regsOf [o.f0, o.f1, o.f2, o.f3] ++ (if sets then regsOf [o.t0, o.t1] else [])
theorem regs4_has {a b c d v : Int} (hv : v ≠ -1) : (regsOf [a, b, c, d]).contains v = (a == v || b == v || c == v || d == v) := by
  rw [Bool.eq_iff_iff, List.contains_iff_mem, mem_regs4 hv]
  simp [or_assoc]
theorem regs2_has {a b v : Int} (hv : v ≠ -1) : (regsOf [a, b]).contains v = (a == v || b == v) := by
  rw [Bool.eq_iff_iff, List.contains_iff_mem]
  unfold regsOf
  rw [List.mem_filter]
  simp
  constructor
  · rintro ⟨h, _⟩
    rcases h with h | h <;> simp [h]
  · rintro (h | h) <;> (subst h; simp [hv])
theorem pins_has {o : Op8} {sets : Bool} {v : Int} (hv : v ≠ -1) : (pinsOf o sets).contains v = ((o.f0 == v || o.f1 == v || o.f2 == v || o.f3 == v) || (sets && (o.t0 == v || o.t1 == v))) := by
  unfold pinsOf
  cases sets
  · simp only [Bool.false_eq_true, if_false, List.append_nil, Bool.false_and, Bool.or_false]
    exact regs4_has hv
  · simp only [if_true, Bool.true_and]
    rw [← regs4_has hv, ← regs2_has hv, Bool.eq_iff_iff, Bool.or_eq_true, List.contains_iff_mem, List.contains_iff_mem, List.contains_iff_mem, List.mem_append]

theorem blk8_cells {w : World} {b : Nat} {v0 v1 v2 v3 v4 v5 v6 v7 : Value} {t : TypeId} (h : w.heap[b]? = some (.cells #[v0, v1, v2, v3, v4, v5, v6, v7] t (0, 0))) :
    w.cell? ⟨b, 0, none⟩ = some v0 ∧ w.cell? ⟨b, 1, none⟩ = some v1 ∧ w.cell? ⟨b, 2, none⟩ = some v2 ∧ w.cell? ⟨b, 3, none⟩ = some v3 ∧ w.cell? ⟨b, 4, none⟩ = some v4 ∧ w.cell? ⟨b, 5, none⟩ = some v5 ∧ w.cell? ⟨b, 6, none⟩ = some v6 ∧ w.cell? ⟨b, 7, none⟩ = some v7 := by
  refine ⟨?_, ?_, ?_, ?_, ?_, ?_, ?_, ?_⟩ <;> (simp only [World.cell?, h]; rfl)
theorem alloc3 (w : World) (a b c : Obj) : Below w.heap.size w (((w.alloc a).alloc b).alloc c) ∧ (((w.alloc a).alloc b).alloc c).heap[w.heap.size]? = some a ∧ (((w.alloc a).alloc b).alloc c).heap[w.heap.size + 1]? = some b ∧ (((w.alloc a).alloc b).alloc c).heap[w.heap.size + 1 + 1]? = some c ∧ (((w.alloc a).alloc b).alloc c).heap.size = w.heap.size + 1 + 1 + 1 := by
  have s1 : (w.alloc a).heap.size = w.heap.size + 1 := by simp
  have s2 : ((w.alloc a).alloc b).heap.size = w.heap.size + 1 + 1 := by simp
  refine ⟨(((Below.refl _ w).alloc (Nat.le_refl _) a).alloc (by omega) b).alloc (by omega) c, ?_, ?_, ?_, by simp⟩
  · rw [Below.heap_alloc _ _ _ (by omega), Below.heap_alloc _ _ _ (by omega), ← heap_alloc_last w a]
  · rw [Below.heap_alloc _ _ _ (by omega), ← s1, heap_alloc_last]
  · rw [← s2, heap_alloc_last]
theorem alloc2 (w : World) (a b : Obj) : Below w.heap.size w ((w.alloc a).alloc b) ∧ ((w.alloc a).alloc b).heap[w.heap.size]? = some a ∧ ((w.alloc a).alloc b).heap[w.heap.size + 1]? = some b ∧ ((w.alloc a).alloc b).heap.size = w.heap.size + 1 + 1 := by
  have s1 : (w.alloc a).heap.size = w.heap.size + 1 := by simp
  refine ⟨((Below.refl _ w).alloc (Nat.le_refl _) a).alloc (by omega) b, ?_, ?_, by simp⟩
  · rw [Below.heap_alloc _ _ _ (by omega), ← heap_alloc_last w a]
  · rw [← s1, heap_alloc_last]
set_option maxHeartbeats 4000000 in
theorem pinned_any (x : Option Addr) (n c : Nat) (L : List Op8) (base pos g0 g1 g2 g3 g4 g5 g6 g7 m er : Int) (vs vo : Value) (v : Int) (sets : Bool) (k : Nat) (hk : k < L.length) (w : World) (hL : OpsSl w x L) (hn : L.length = n) (hn2 : n ≤ 1000) (hv : v ≠ -1) (hpos : pos = k) :
    Calls Tryd.prog 72 #[.agg #[.slice x n c, .int .i64 base, .int .i64 pos, .int .i64 g0, .int .i64 g1, .int .i64 g2, .int .i64 g3, .int .i64 g4, .int .i64 g5, .int .i64 g6, .int .i64 g7, vs, vo, .int .i64 m, .int .i64 er], .int .i64 v, .bool sets] w fun e w' => e = .returned (.bool ((pinsOf L[k] sets).contains v)) ∧ Below w.heap.size w w' := by
  subst hpos
  obtain ⟨b, o, rfl, hb, hc⟩ := hL.resolve_left (by omega)
  obtain ⟨c0, c1, c2, c3, c4, c5, c6, c7⟩ := hc k hk
  rw [pins_has hv]
  generalize L[k]'hk = p at c0 c1 c2 c3 c4 c5 c6 c7
  obtain ⟨V, hV⟩ : ∃ V, V = ((p.f0 == v || p.f1 == v || p.f2 == v || p.f3 == v) || (sets && (p.t0 == v || p.t1 == v))) := ⟨_, rfl⟩
  rw [← hV]
  have HV := Lib.hid hV
  have hkn : (k : Int) < (n : Int) := by omega
  have dA : b ≠ w.heap.size := by omega
  have dB : b ≠ w.heap.size + 1 := by omega
  clear hc hn hV hL
  go_enter Tryd.func72, Tryd.ntmps72
  go_upto_region 2 with fail
  obtain ⟨hB2, k5, kO, hs2⟩ := alloc2 w (.cells #[.slice (some ⟨b, o, none⟩) n c, .int .i64 base, .int .i64 (k : Int), .int .i64 g0, .int .i64 g1, .int .i64 g2, .int .i64 g3, .int .i64 g4, .int .i64 g5, .int .i64 g6, .int .i64 g7, vs, vo, .int .i64 m, .int .i64 er] 86) (.cells #[.int .i64 p.K, .int .i64 p.t0, .int .i64 p.t1, .int .i64 p.f0, .int .i64 p.f1, .int .i64 p.f2, .int .i64 p.f3, .int .u32 p.N] 38)
  generalize (w.alloc _).alloc _ = w2 at hB2 k5 kO hs2 ⊢
  have hl2 : w.heap.size + 1 < w2.heap.size := by omega
  clear hs2
  obtain ⟨y0, y1, y2, y3, y4, y5, y6, y7⟩ := blk8_cells kO
  have hcell : ∀ j (hj : j < [p.f0, p.f1, p.f2, p.f3].length), w2.cell? ⟨w.heap.size + 1, 3 + j, none⟩ = some (.int .i64 [p.f0, p.f1, p.f2, p.f3][j]) := fun j hj => by
    match j, hj with
    | 0, _ => exact y3
    | 1, _ => exact y4
    | 2, _ => exact y5
    | 3, _ => exact y6
  have Hcell := Lib.hid hcell
  have HB2 := Lib.hid hB2
  clear hcell hB2 k5 kO y3 y4 y5 y6
  go_wp2_with fail
  go_loopw [8] (fun i wz => ∃ j : Nat, j ≤ 4 ∧ i = .int .i64 j ∧ w2 = wz ∧ ∀ y ∈ [p.f0, p.f1, p.f2, p.f3].take j, (y == v) = false) (fun i _ => 4 - (intOf i).toNat)
  case atStart => exact ⟨0, by omega, rfl, rfl, by simp⟩
  case round =>
    obtain ⟨j, hj, rfl, rfl, hno⟩ := hrel
    have Hno := Lib.hid hno
    clear hno
    by_cases hlt2 : j < 4
    · have hlt3 : j < [p.f0, p.f1, p.f2, p.f3].length := by simpa using hlt2
      have hcc := Hcell.out j hlt3
      have hst : [p.f0, p.f1, p.f2, p.f3].take (j + 1) = [p.f0, p.f1, p.f2, p.f3].take j ++ [[p.f0, p.f1, p.f2, p.f3][j]] := List.take_succ_eq_append_getElem hlt3
      have hmem := List.getElem_mem hlt3
      generalize [p.f0, p.f1, p.f2, p.f3][j]'hlt3 = X at hcc hst hmem
      have Hst := Lib.hid hst
      have Hmem := Lib.hid hmem
      have wj : IntKind.i64.wrap ((j : Int) + 1) = (j : Int) + 1 := IntWalk.i64_in _ (by omega)
      clear hst hmem
      cases eX : (X == v)
      · have HeX := Lib.hid eX
        go_wp2_with fail
        refine ⟨⟨j + 1, by omega, by simp, trivial, ?_⟩, by simp only [intOf]; omega⟩
        intro y hy
        rw [Hst.out] at hy
        rcases List.mem_append.1 hy with hy | hy
        · exact Hno.out y hy
        · simp only [List.mem_singleton] at hy
          subst hy; exact HeX.out
      · have hVk : V = true := by
          have heq : X = v := by simpa using eX
          have h2 := Hmem.out
          rw [heq] at h2
          rw [HV.out]
          simp at h2
          rcases h2 with h | h | h | h <;> simp [h]
        have HVk := Lib.hid hVk
        clear hVk
        go_wp2_with fail
        go_ret
        exact ⟨by rw [HVk.out]; rfl, HB2.out⟩
    · have hj4 : j = 4 := by omega
      have hVn : V = (sets && (p.t0 == v || p.t1 == v)) := by
        have h2 := Hno.out
        rw [hj4] at h2
        have a0 := h2 p.f0 (by simp)
        have a1 := h2 p.f1 (by simp)
        have a2 := h2 p.f2 (by simp)
        have a3 := h2 p.f3 (by simp)
        rw [HV.out, a0, a1, a2, a3]
        rfl
      have HVn := Lib.hid hVn
      clear hVn hj4
      cases sets
      · go_wp2_with fail
        go_ret
        exact ⟨by rw [HVn.out]; rfl, HB2.out⟩
      · cases e0 : (p.t0 == v)
        · go_wp2_with fail
          go_ret
          exact ⟨by rw [HVn.out, e0]; rfl, HB2.out⟩
        · go_wp2_with fail
          go_ret
          exact ⟨by rw [HVn.out, e0]; rfl, HB2.out⟩

theorem grown_row {a b c : World} {r r' : Option Nat} (h : a.grownBy b r) (k : b.grownBy c r') (hr : ∀ j, r' = some j → some j = r ∨ a.heap.size ≤ j) : a.grownBy c r :=
  ⟨k.os.trans h.os, k.tape.trans h.tape, k.output.trans h.output, Nat.le_trans h.size k.size, fun i hi hne => (k.block i (Nat.lt_of_lt_of_le hi h.size) (fun e => by
    rcases hr i e.symm with h1 | h1
    · exact hne h1
    · omega)).trans (h.block i hi hne)⟩
theorem grown_then {a b c : World} {r : Option Nat} (h : a.grownBy b r) (k : Below b.heap.size b c) : a.grownBy c r :=
  ⟨k.os.trans h.os, k.tape.trans h.tape, k.output.trans h.output, Nat.le_trans h.size k.size, fun i hi hne => (k.block i (Nat.lt_of_lt_of_le hi h.size)).trans (h.block i hi hne)⟩
theorem below_grown {a b : World} {r : Option Nat} (h : Below a.heap.size a b) : a.grownBy b r :=
  ⟨h.os, h.tape, h.output, h.size, fun i hi _ => h.block i hi⟩
/-- The fifteen cells, stored one by one. -/
theorem putA_all {w : World} {b : Nat} {o0 o1 o2 o3 o4 o5 o6 o7 o8 o9 o10 o11 o12 o13 o14 : Value} {t : TypeId} (kh : w.heap[b]? = some (.cells #[o0, o1, o2, o3, o4, o5, o6, o7, o8, o9, o10, o11, o12, o13, o14] t (0, 0))) (x : Option Addr) (n c : Nat) (base pos g0 g1 g2 g3 g4 g5 g6 g7 m er : Int) (vs vo : Value) :
    (((((((((((((((((((((((((((((w.setCell ⟨b, 0, none⟩ (.slice x n c))).setCell ⟨b, 1, none⟩ (.int .i64 base))).setCell ⟨b, 2, none⟩ (.int .i64 pos))).setCell ⟨b, 3, none⟩ (.int .i64 g0))).setCell ⟨b, 4, none⟩ (.int .i64 g1))).setCell ⟨b, 5, none⟩ (.int .i64 g2))).setCell ⟨b, 6, none⟩ (.int .i64 g3))).setCell ⟨b, 7, none⟩ (.int .i64 g4))).setCell ⟨b, 8, none⟩ (.int .i64 g5))).setCell ⟨b, 9, none⟩ (.int .i64 g6))).setCell ⟨b, 10, none⟩ (.int .i64 g7))).setCell ⟨b, 11, none⟩ vs)).setCell ⟨b, 12, none⟩ vo)).setCell ⟨b, 13, none⟩ (.int .i64 m))).setCell ⟨b, 14, none⟩ (.int .i64 er)).heap[b]? = some (.cells #[.slice x n c, .int .i64 base, .int .i64 pos, .int .i64 g0, .int .i64 g1, .int .i64 g2, .int .i64 g3, .int .i64 g4, .int .i64 g5, .int .i64 g6, .int .i64 g7, vs, vo, .int .i64 m, .int .i64 er] t (0, 0)) ∧ w.grownBy (((((((((((((((((((((((((((((w.setCell ⟨b, 0, none⟩ (.slice x n c))).setCell ⟨b, 1, none⟩ (.int .i64 base))).setCell ⟨b, 2, none⟩ (.int .i64 pos))).setCell ⟨b, 3, none⟩ (.int .i64 g0))).setCell ⟨b, 4, none⟩ (.int .i64 g1))).setCell ⟨b, 5, none⟩ (.int .i64 g2))).setCell ⟨b, 6, none⟩ (.int .i64 g3))).setCell ⟨b, 7, none⟩ (.int .i64 g4))).setCell ⟨b, 8, none⟩ (.int .i64 g5))).setCell ⟨b, 9, none⟩ (.int .i64 g6))).setCell ⟨b, 10, none⟩ (.int .i64 g7))).setCell ⟨b, 11, none⟩ vs)).setCell ⟨b, 12, none⟩ vo)).setCell ⟨b, 13, none⟩ (.int .i64 m))).setCell ⟨b, 14, none⟩ (.int .i64 er)) (some b) := by
  refine ⟨?_, ?_⟩
  · have h := setCell_heap (setCell_heap (setCell_heap (setCell_heap (setCell_heap (setCell_heap (setCell_heap (setCell_heap (setCell_heap (setCell_heap (setCell_heap (setCell_heap (setCell_heap (setCell_heap (setCell_heap kh 0 (.slice x n c)) 1 (.int .i64 base)) 2 (.int .i64 pos)) 3 (.int .i64 g0)) 4 (.int .i64 g1)) 5 (.int .i64 g2)) 6 (.int .i64 g3)) 7 (.int .i64 g4)) 8 (.int .i64 g5)) 9 (.int .i64 g6)) 10 (.int .i64 g7)) 11 vs) 12 vo) 13 (.int .i64 m)) 14 (.int .i64 er)
    simp only [List.setIfInBounds_toArray, List.set_cons_succ, List.set_cons_zero] at h
    exact h
  · iterate 15 refine grown_trans ?_ (setCell_grown _ _ _ _)
    exact ⟨rfl, rfl, rfl, Nat.le_refl _, fun _ _ _ => rfl⟩
theorem boxA_setG {w : World} {b : Nat} {x : Option Addr} {n c : Nat} {base pos g0 g1 g2 g3 g4 g5 g6 g7 m er : Int} {vs vo : Value} {t : TypeId} (kh : w.heap[b]? = some (.cells #[.slice x n c, .int .i64 base, .int .i64 pos, .int .i64 g0, .int .i64 g1, .int .i64 g2, .int .i64 g3, .int .i64 g4, .int .i64 g5, .int .i64 g6, .int .i64 g7, vs, vo, .int .i64 m, .int .i64 er] t (0, 0))) (r : Nat) (hr : r < 8) (v : Int) :
    ∃ h0 h1 h2 h3 h4 h5 h6 h7 : Int, [g0, g1, g2, g3, g4, g5, g6, g7].set r v = [h0, h1, h2, h3, h4, h5, h6, h7] ∧ (w.setCell ⟨b, 3 + r, none⟩ (.int .i64 v)).heap[b]? = some (.cells #[.slice x n c, .int .i64 base, .int .i64 pos, .int .i64 h0, .int .i64 h1, .int .i64 h2, .int .i64 h3, .int .i64 h4, .int .i64 h5, .int .i64 h6, .int .i64 h7, vs, vo, .int .i64 m, .int .i64 er] t (0, 0)) := by
  have h := setCell_heap kh (3 + r) (.int .i64 v)
  match r, hr with
  | 0, _ => exact ⟨_, _, _, _, _, _, _, _, rfl, h⟩
  | 1, _ => exact ⟨_, _, _, _, _, _, _, _, rfl, h⟩
  | 2, _ => exact ⟨_, _, _, _, _, _, _, _, rfl, h⟩
  | 3, _ => exact ⟨_, _, _, _, _, _, _, _, rfl, h⟩
  | 4, _ => exact ⟨_, _, _, _, _, _, _, _, rfl, h⟩
  | 5, _ => exact ⟨_, _, _, _, _, _, _, _, rfl, h⟩
  | 6, _ => exact ⟨_, _, _, _, _, _, _, _, rfl, h⟩
  | 7, _ => exact ⟨_, _, _, _, _, _, _, _, rfl, h⟩
theorem boxA_regs {w : World} {b : Nat} {x : Option Addr} {n c : Nat} {base pos g0 g1 g2 g3 g4 g5 g6 g7 m er : Int} {vs vo : Value} {t : TypeId} (kh : w.heap[b]? = some (.cells #[.slice x n c, .int .i64 base, .int .i64 pos, .int .i64 g0, .int .i64 g1, .int .i64 g2, .int .i64 g3, .int .i64 g4, .int .i64 g5, .int .i64 g6, .int .i64 g7, vs, vo, .int .i64 m, .int .i64 er] t (0, 0))) : IRow w b 3 [g0, g1, g2, g3, g4, g5, g6, g7] := by
  refine ⟨lt_of_block kh, fun i hi => ?_⟩
  match i, hi with
  | 0, _ => simp only [World.cell?, kh]; rfl
  | 1, _ => simp only [World.cell?, kh]; rfl
  | 2, _ => simp only [World.cell?, kh]; rfl
  | 3, _ => simp only [World.cell?, kh]; rfl
  | 4, _ => simp only [World.cell?, kh]; rfl
  | 5, _ => simp only [World.cell?, kh]; rfl
  | 6, _ => simp only [World.cell?, kh]; rfl
  | 7, _ => simp only [World.cell?, kh]; rfl
theorem frozen_box {w : World} {b : Nat} {C : Array Value} {t : TypeId} (kh : w.heap[b]? = some (.cells C t (0, 0))) (i : Nat) : w.frozen? ⟨b, i, none⟩ = false := by
  simp [World.frozen?, kh]
theorem ownsRow_up {w w' : World} {B : Nat} {e : TypeId} {size : Nat} {v : Value} {n : Nat} {xs : List Value} (h : w.ownsRow B e size v n xs) {r : Option Nat} (g : w.grownBy w' r) (hr : v.ownBlock = none ∨ v.ownBlock ≠ r) : w'.ownsRow B e size v n xs := h.kept g hr

theorem setRow_grown (w : World) (g : Nat) (cs : Array Value) : w.grownBy (w.setRow g cs) (some g) :=
  ⟨rfl, rfl, rfl, by simp [World.setRow], fun k _ hk => by
    have hne : ¬ g = k := fun e => hk (by rw [e])
    simp [World.setRow, Array.getElem?_modify, hne]⟩
theorem Tryd.sizeA' : (Tryd.prog.info? 86).map (·.size) = some 15 := by kernel_rfl
theorem sizeA : (Tryd.prog.info? 86).map (·.size) = some 15 := Tryd.sizeA'
set_option maxHeartbeats 4000000 in
theorem putR_any (x : Option Addr) (n c : Nat) (base pos g0 g1 g2 g3 g4 g5 g6 g7 m er : Int) (vs vo : Value) (K Nn tt ff : Int) (O : List Op8) (B : Nat) (w : World) (hro : w.ownsRow B 38 8 vo O.length (outC O)) (hB : B ≤ w.heap.size) (hO : O.length ≤ 10000) (hN : 0 ≤ Nn ∧ Nn < 4294967296) (hvs : ∃ xs ns cs, vs = .slice xs ns cs) :
    Calls Tryd.prog 64 #[.agg #[.slice x n c, .int .i64 base, .int .i64 pos, .int .i64 g0, .int .i64 g1, .int .i64 g2, .int .i64 g3, .int .i64 g4, .int .i64 g5, .int .i64 g6, .int .i64 g7, vs, vo, .int .i64 m, .int .i64 er], .int .i64 K, .int .i64 Nn, .int .i64 tt, .int .i64 ff] w fun e w' => ∃ vo', e = .returned (.agg #[.slice x n c, .int .i64 base, .int .i64 pos, .int .i64 g0, .int .i64 g1, .int .i64 g2, .int .i64 g3, .int .i64 g4, .int .i64 g5, .int .i64 g6, .int .i64 g7, vs, vo', .int .i64 m, .int .i64 er]) ∧ w'.ownsRow B 38 8 vo' (O ++ [(⟨K, tt, -1, ff, -1, -1, -1, Nn⟩ : Op8)]).length (outC (O ++ [⟨K, tt, -1, ff, -1, -1, -1, Nn⟩])) ∧ w.grownBy w' vo.ownBlock ∧ (vo'.ownBlock = vo.ownBlock ∨ ∃ g, vo'.ownBlock = some g ∧ w.heap.size ≤ g) := by
  obtain ⟨i0, hi, hz0, hz1, hz2⟩ := info_parts Tryd.infoO
  have wN : IntKind.u32.wrap Nn = Nn := by rw [IntKind.wrap_u32]; omega
  obtain ⟨xo, co, rfl, hco⟩ := own_slice hro
  obtain ⟨xs, ns, cs, rfl⟩ := hvs
  have Hro := Lib.hid hro
  clear hro
  go_enter Tryd.func64, Tryd.ntmps64
  go_upto_region 2 with fail
  obtain ⟨hB3, k5, k10, kO, hs3⟩ := alloc3 w (.cells #[.slice x n c, .int .i64 base, .int .i64 pos, .int .i64 g0, .int .i64 g1, .int .i64 g2, .int .i64 g3, .int .i64 g4, .int .i64 g5, .int .i64 g6, .int .i64 g7, .slice xs ns cs, .slice xo O.length co, .int .i64 m, .int .i64 er] 86) (.cells #[.slice none 0 0, .int .i64 0, .int .i64 0, .int .i64 0, .int .i64 0, .int .i64 0, .int .i64 0, .int .i64 0, .int .i64 0, .int .i64 0, .int .i64 0, .slice none 0 0, .slice none 0 0, .int .i64 0, .int .i64 0] 86) (.cells #[.int .i64 K, .int .i64 tt, .int .i64 (-1), .int .i64 ff, .int .i64 (-1), .int .i64 (-1), .int .i64 (-1), .int .u32 Nn] 38)
  generalize ((w.alloc _).alloc _).alloc _ = w3 at hB3 k5 k10 kO hs3 ⊢
  have hl3 : w.heap.size + 1 + 1 < w3.heap.size := by omega
  clear hs3
  obtain ⟨z0, z1, z2, z3, z4, z5, z6, z7, z8, z9, z10, z11, z12, z13, z14⟩ := blockA_cells k5
  obtain ⟨y0, y1, y2, y3, y4, y5, y6, y7⟩ := blk8_cells kO
  have f12 := frozen_box k5 12
  have Hro3 := Lib.hid (ownsRow_below Hro.out hB3)
  have HB3 := Lib.hid hB3
  have K5 := Lib.hid k5
  have K10 := Lib.hid k10
  clear hB3 k5 k10 kO
  go_wp2_with (at_builtin; refine wpList_append_own_at _ rfl (.tmp 21) (.tmp 23) 29 rfl B 38 i0 (opV 0 0 0 0 0 0 0 0) 8 64 Tryd.underlying29 hi hz0 hz1 hz2 rfl (by decide) _ _ _ rfl (Hro3.out.alloc _) ⟨w3.heap.size, 0, none⟩ 1 1 (opCellsA ⟨K, tt, -1, ff, -1, -1, -1, Nn⟩) rfl rfl (opA_new _ _ ⟨K, tt, -1, ff, -1, -1, -1, Nn⟩ _ rfl) (opA_all ⟨K, tt, -1, ff, -1, -1, -1, Nn⟩) (by unfold maxLen; omega) (by omega) (by simp; omega) ?_)
  intro v' w5 hown5 hgrow5 _ hat5
  obtain ⟨sx, sc, rfl, hsc⟩ := own_slice hown5
  have gg3 : w3.grownBy w5 (Value.slice xo O.length co).ownBlock := grown_trans (World.grownBy_alloc w3 _ _) hgrow5
  have hlt : ∀ j, (Value.slice xo O.length co).ownBlock = some j → j < w.heap.size := fun j e => (Hro.out.lt j e).2
  have k5 := (gg3.block w.heap.size (by omega) (fun e => by have := hlt _ e.symm; omega)).trans K5.out
  have k10 := (gg3.block (w.heap.size + 1) (by omega) (fun e => by have := hlt _ e.symm; omega)).trans K10.out
  have k6 : (w5.setCell ⟨w.heap.size, 12, none⟩ (.slice sx (O.length + 1) sc)).heap[w.heap.size]? = some (.cells #[.slice x n c, .int .i64 base, .int .i64 pos, .int .i64 g0, .int .i64 g1, .int .i64 g2, .int .i64 g3, .int .i64 g4, .int .i64 g5, .int .i64 g6, .int .i64 g7, .slice xs ns cs, .slice sx (O.length + 1) sc, .int .i64 m, .int .i64 er] 86 (0, 0)) := setCell_heap k5 12 (.slice sx (O.length + 1) sc)
  have k16 := ((setCell_grown w5 w.heap.size 12 (.slice sx (O.length + 1) sc)).block (w.heap.size + 1) (lt_of_block k10) (by simp)).trans k10
  have f12 := frozen_box k5 12
  have e12 : w5.cell? ⟨w.heap.size, 12, none⟩ = some (.slice xo O.length co) := (blockA_cells k5).2.2.2.2.2.2.2.2.2.2.2.2.1
  have G6 := Lib.hid (grown_row (grown_row (below_grown HB3.out) gg3 (fun j e => .inl e.symm)) (setCell_grown w5 w.heap.size 12 (.slice sx (O.length + 1) sc)) (fun j e => .inr (by injection e with e; omega)))
  have hoff : ∀ b, w.heap.size ≤ b → b < w3.heap.size → (Value.slice sx (O.length + 1) sc).ownBlock = none ∨ (Value.slice sx (O.length + 1) sc).ownBlock ≠ some b := fun b h1 h2 => by
    rcases hat5 with e | e
    · cases hb : (Value.slice sx (O.length + 1) sc).ownBlock with
      | none => exact .inl rfl
      | some j => exact .inr (fun e2 => by injection e2 with e2; rw [hb] at e; have := hlt j e.symm; omega)
    · exact .inr (by rw [e]; intro e2; injection e2 with e2; omega)
  have Hoff := Lib.hid hoff
  have Hown6 := Lib.hid (hown5.kept (setCell_grown w5 w.heap.size 12 (.slice sx (O.length + 1) sc)) (hoff _ (Nat.le_refl _) (by omega)))
  have Hat := Lib.hid (show (Value.slice sx (O.length + 1) sc).ownBlock = (Value.slice xo O.length co).ownBlock ∨ ∃ g, (Value.slice sx (O.length + 1) sc).ownBlock = some g ∧ w.heap.size ≤ g from by
    rcases hat5 with e | e
    · exact .inl e
    · exact .inr ⟨_, e, by omega⟩)
  clear z0 z1 z2 z3 z4 z5 z6 z7 z8 z9 z10 z11 z12 z13 z14 y0 y1 y2 y3 y4 y5 y6 y7 hown5 hgrow5 hat5 gg3 k5 k10 hlt hoff
  go_upto_region 3 with fail
  generalize World.setCell w5 _ _ = w6 at k6 k16 G6 Hown6 ⊢
  obtain ⟨z0, z1, z2, z3, z4, z5, z6, z7, z8, z9, z10, z11, z12, z13, z14⟩ := blockA_cells k6
  have hl6 := lt_of_block k6
  have hl16 := lt_of_block k16
  iterate 4 go_step
  refine wpList_store_row rfl 86 (.tmp 10) (.tmp 26) rfl (w.heap.size + 1) #[.slice x n c, .int .i64 base, .int .i64 pos, .int .i64 g0, .int .i64 g1, .int .i64 g2, .int .i64 g3, .int .i64 g4, .int .i64 g5, .int .i64 g6, .int .i64 g7, .slice xs ns cs, .slice sx (O.length + 1) sc, .int .i64 m, .int .i64 er] rfl rfl 86 _ k16 sizeA rfl (by simp [Value.oneCell']) ?_
  have k20 := setRow_heap w6 (w.heap.size + 1) _ #[.slice x n c, .int .i64 base, .int .i64 pos, .int .i64 g0, .int .i64 g1, .int .i64 g2, .int .i64 g3, .int .i64 g4, .int .i64 g5, .int .i64 g6, .int .i64 g7, .slice xs ns cs, .slice sx (O.length + 1) sc, .int .i64 m, .int .i64 er] _ _ k16
  have g20 := setRow_grown w6 (w.heap.size + 1) #[.slice x n c, .int .i64 base, .int .i64 pos, .int .i64 g0, .int .i64 g1, .int .i64 g2, .int .i64 g3, .int .i64 g4, .int .i64 g5, .int .i64 g6, .int .i64 g7, .slice xs ns cs, .slice sx (O.length + 1) sc, .int .i64 m, .int .i64 er]
  generalize World.setRow w6 _ _ = w7 at k20 g20 ⊢
  obtain ⟨y0, y1, y2, y3, y4, y5, y6, y7, y8, y9, y10, y11, y12, y13, y14⟩ := blockA_cells k20
  go_wp2_with fail
  refine ⟨rfl, .agg #[.slice x n c, .int .i64 base, .int .i64 pos, .int .i64 g0, .int .i64 g1, .int .i64 g2, .int .i64 g3, .int .i64 g4, .int .i64 g5, .int .i64 g6, .int .i64 g7, .slice xs ns cs, .slice sx (O.length + 1) sc, .int .i64 m, .int .i64 er], ?_, .slice sx (O.length + 1) sc, rfl, ?_, ?_, Hat.out⟩
  · simp [results, Tryd.f64, go_sem, y0, y1, y2, y3, y4, y5, y6, y7, y8, y9, y10, y11, y12, y13, y14]
  · rw [outC_append, List.length_append]
    exact Hown6.out.kept g20 (Hoff.out _ (by omega) (by omega))
  · exact grown_row G6.out g20 (fun j e => .inr (by injection e with e; omega))
end Go.Proofs.YtmkencdkglbpbaaDoor
