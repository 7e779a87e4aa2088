/- The document's Do: its boxes; registers that are not there. -/
import Derived.Test.YtmkencdkglbpbaaPlayC
import Derived.Test.YtmkencdkglbpbaaShiftX
import Derived.Deep.QuietTactic
import Derived.BigQuiet
import Derived.StillTailTactics
import Derived.Deep.DeepCutAuto
set_option maxRecDepth 100000
set_option linter.unusedVariables false
namespace Go.Proofs.Ytmkencdkglbpbaa
open Go.RowKit


/-- The document's state, as a value. -/
def refS (rx : Option Addr) (n c : Nat) (S : Int) (lx : Option Addr) (q lc : Nat) : Value := .agg #[.slice rx n c, .int .u32 S, .slice none 0 0, .slice lx q lc]
/-- What it holds. -/
structure RefAt (w : World) (rx : Option Addr) (n c : Nat) (R : List Int) (lx : Option Addr) (q lc : Nat) (L : List (Int × Int)) (m : Nat → Int) : Prop where
  row : USl w rx R
  len : R.length = n
  cap : n ≤ c
  small : n ≤ 100
  bytes : ∀ x ∈ R, 0 ≤ x ∧ x < 4294967296
  lrow : LRow w lx q L
  lcap : q ≤ lc
  inv : Inv L m
theorem RefAt.below {w w' : World} {rx : Option Addr} {n c : Nat} {R : List Int} {lx : Option Addr} {q lc : Nat} {L : List (Int × Int)} {m : Nat → Int} (h : RefAt w rx n c R lx q lc L m) (hb : Below w.heap.size w w') : RefAt w' rx n c R lx q lc L m :=
  ⟨h.row.below hb, h.len, h.cap, h.small, h.bytes, h.lrow.below hb, h.lcap, h.inv⟩
/-- What Do leaves. -/
def RefPost (w : World) (rx0 lx0 : Option Addr) (S : Int) (q : Nat) (trap err : Int) (R : List Int) (m : Nat → Int) (e : Ending) (w' : World) : Prop :=
  ∃ rx n c lx q' lc L, e = .returned (.tuple #[refS rx n c S lx q' lc, .int .i64 trap, .int .i64 err]) ∧ RefAt w' rx n c R lx q' lc L m ∧ q' ≤ q + 1 ∧ Below w.heap.size w w' ∧
    (rx = rx0 ∨ ∀ b o, rx = some ⟨b, o, none⟩ → w.heap.size ≤ b) ∧ (lx = lx0 ∨ ∀ g, lx = some ⟨g, 0, none⟩ → w.heap.size ≤ g)
/-- The word of a register that an operation names; 0, if it names none. -/
def vvR (R : List Int) (f : Int) : Int := if 0 ≤ f then R.getD f.toNat 0 else 0
theorem vvR_bd {R : List Int} (h : ∀ x ∈ R, 0 ≤ x ∧ x < 4294967296) (f : Int) : 0 ≤ vvR R f ∧ vvR R f < 4294967296 := by
  unfold vvR
  split
  · rw [List.getD_eq_getElem?_getD]
    by_cases hl : f.toNat < R.length
    · rw [List.getElem?_eq_getElem hl]; exact h _ (List.getElem_mem hl)
    · rw [List.getElem?_eq_none (by omega)]; simp
  · omega
theorem alloc_four (w : World) (a b c d : Obj) : Below w.heap.size w ((((w.alloc a).alloc b).alloc c).alloc d) ∧ ((((w.alloc a).alloc b).alloc c).alloc d).heap[w.heap.size]? = some a ∧ ((((w.alloc a).alloc b).alloc c).alloc d).heap[w.heap.size + 1]? = some b ∧ ((((w.alloc a).alloc b).alloc c).alloc d).heap[w.heap.size + 2]? = some c ∧ ((((w.alloc a).alloc b).alloc c).alloc d).heap[w.heap.size + 3]? = some d := by
  have s1 : (w.alloc a).heap.size = w.heap.size + 1 := by simp
  have s2 : ((w.alloc a).alloc b).heap.size = w.heap.size + 2 := by simp
  have s3 : (((w.alloc a).alloc b).alloc c).heap.size = w.heap.size + 3 := by simp
  refine ⟨((((Below.refl _ w).alloc (Nat.le_refl _) a).alloc (by omega) b).alloc (by omega) c).alloc (by omega) d, ?_, ?_, ?_, ?_⟩
  · rw [Below.heap_alloc _ _ _ (by omega), Below.heap_alloc _ _ _ (by omega), Below.heap_alloc _ _ _ (by omega), heap_alloc_new]
  · rw [Below.heap_alloc _ _ _ (by omega), Below.heap_alloc _ _ _ (by omega), ← s1, heap_alloc_new]
  · rw [Below.heap_alloc _ _ _ (by omega), ← s2, heap_alloc_new]
  · rw [← s3, heap_alloc_new]
theorem blk_cells {w : World} {b : Nat} {C : Array Value} {t : TypeId} (h : w.heap[b]? = some (.cells C t (0, 0))) (i : Nat) : w.cell? ⟨b, i, none⟩ = C[i]? ∧ w.frozen? ⟨b, i, none⟩ = false := by
  constructor
  · simp only [World.cell?, h]; rw [if_neg (by simp)]
  · simp [World.frozen?, h]
/-- The boxes of Do. -/
structure DoSt (w : World) (rx : Option Addr) (n c : Nat) (S : Int) (lx : Option Addr) (q lc : Nat) (K t0 t1 f0 f1 f2 f3 N v0 v1 v2 v3 : Int) (wr : World) : Prop where
  kS : wr.heap[w.heap.size]? = some (.cells #[.slice rx n c, .int .u32 S, .slice none 0 0, .slice lx q lc] 31 (0, 0))
  kO : wr.heap[w.heap.size + 1]? = some (.cells #[.int .i64 K, .int .i64 t0, .int .i64 t1, .int .i64 f0, .int .i64 f1, .int .i64 f2, .int .i64 f3, .int .u32 N] 50 (0, 0))
  kR : wr.heap[w.heap.size + 2]? = some (.cells #[.slice none 0 0, .int .u32 0, .slice none 0 0, .slice none 0 0] 31 (0, 0))
  kV : wr.heap[w.heap.size + 3]? = some (.cells #[.int .u32 v0, .int .u32 v1, .int .u32 v2, .int .u32 v3] 69 (0, 0))
  bel : Below w.heap.size w wr
section
variable {w : World} {rx : Option Addr} {n c : Nat} {S : Int} {lx : Option Addr} {q lc : Nat} {K t0 t1 f0 f1 f2 f3 N v0 v1 v2 v3 : Int} {wr : World}
theorem DoSt.below (h : DoSt w rx n c S lx q lc K t0 t1 f0 f1 f2 f3 N v0 v1 v2 v3 wr) {w' : World} (hb : Below wr.heap.size wr w') : DoSt w rx n c S lx q lc K t0 t1 f0 f1 f2 f3 N v0 v1 v2 v3 w' :=
  ⟨(hb.block _ (lt_of_block h.kS)).trans h.kS, (hb.block _ (lt_of_block h.kO)).trans h.kO, (hb.block _ (lt_of_block h.kR)).trans h.kR, (hb.block _ (lt_of_block h.kV)).trans h.kV, h.bel.trans (hb.mono h.bel.size)⟩
theorem DoSt.size (h : DoSt w rx n c S lx q lc K t0 t1 f0 f1 f2 f3 N v0 v1 v2 v3 wr) : w.heap.size + 3 < wr.heap.size := lt_of_block h.kV
theorem DoSt.sc (h : DoSt w rx n c S lx q lc K t0 t1 f0 f1 f2 f3 N v0 v1 v2 v3 wr) : wr.cell? ⟨w.heap.size, 0, none⟩ = some (.slice rx n c) ∧ wr.cell? ⟨w.heap.size, 1, none⟩ = some (.int .u32 S) ∧ wr.cell? ⟨w.heap.size, 2, none⟩ = some (.slice none 0 0) ∧ wr.cell? ⟨w.heap.size, 3, none⟩ = some (.slice lx q lc) :=
  ⟨(blk_cells h.kS 0).1, (blk_cells h.kS 1).1, (blk_cells h.kS 2).1, (blk_cells h.kS 3).1⟩
theorem DoSt.oc (h : DoSt w rx n c S lx q lc K t0 t1 f0 f1 f2 f3 N v0 v1 v2 v3 wr) : wr.cell? ⟨w.heap.size + 1, 0, none⟩ = some (.int .i64 K) ∧ wr.cell? ⟨w.heap.size + 1, 1, none⟩ = some (.int .i64 t0) ∧ wr.cell? ⟨w.heap.size + 1, 2, none⟩ = some (.int .i64 t1) ∧ wr.cell? ⟨w.heap.size + 1, 3, none⟩ = some (.int .i64 f0) ∧ wr.cell? ⟨w.heap.size + 1, 4, none⟩ = some (.int .i64 f1) ∧ wr.cell? ⟨w.heap.size + 1, 5, none⟩ = some (.int .i64 f2) ∧ wr.cell? ⟨w.heap.size + 1, 6, none⟩ = some (.int .i64 f3) ∧ wr.cell? ⟨w.heap.size + 1, 7, none⟩ = some (.int .u32 N) :=
  ⟨(blk_cells h.kO 0).1, (blk_cells h.kO 1).1, (blk_cells h.kO 2).1, (blk_cells h.kO 3).1, (blk_cells h.kO 4).1, (blk_cells h.kO 5).1, (blk_cells h.kO 6).1, (blk_cells h.kO 7).1⟩
theorem DoSt.rc (h : DoSt w rx n c S lx q lc K t0 t1 f0 f1 f2 f3 N v0 v1 v2 v3 wr) : wr.cell? ⟨w.heap.size + 2, 0, none⟩ = some (.slice none 0 0) ∧ wr.cell? ⟨w.heap.size + 2, 1, none⟩ = some (.int .u32 0) ∧ wr.cell? ⟨w.heap.size + 2, 2, none⟩ = some (.slice none 0 0) ∧ wr.cell? ⟨w.heap.size + 2, 3, none⟩ = some (.slice none 0 0) :=
  ⟨(blk_cells h.kR 0).1, (blk_cells h.kR 1).1, (blk_cells h.kR 2).1, (blk_cells h.kR 3).1⟩
theorem DoSt.rf (h : DoSt w rx n c S lx q lc K t0 t1 f0 f1 f2 f3 N v0 v1 v2 v3 wr) : wr.frozen? ⟨w.heap.size + 2, 0, none⟩ = false ∧ wr.frozen? ⟨w.heap.size + 2, 1, none⟩ = false ∧ wr.frozen? ⟨w.heap.size + 2, 2, none⟩ = false ∧ wr.frozen? ⟨w.heap.size + 2, 3, none⟩ = false :=
  ⟨(blk_cells h.kR 0).2, (blk_cells h.kR 1).2, (blk_cells h.kR 2).2, (blk_cells h.kR 3).2⟩
theorem DoSt.vc (h : DoSt w rx n c S lx q lc K t0 t1 f0 f1 f2 f3 N v0 v1 v2 v3 wr) : wr.cell? ⟨w.heap.size + 3, 0, none⟩ = some (.int .u32 v0) ∧ wr.cell? ⟨w.heap.size + 3, 1, none⟩ = some (.int .u32 v1) ∧ wr.cell? ⟨w.heap.size + 3, 2, none⟩ = some (.int .u32 v2) ∧ wr.cell? ⟨w.heap.size + 3, 3, none⟩ = some (.int .u32 v3) :=
  ⟨(blk_cells h.kV 0).1, (blk_cells h.kV 1).1, (blk_cells h.kV 2).1, (blk_cells h.kV 3).1⟩
theorem DoSt.from (h : DoSt w rx n c S lx q lc K t0 t1 f0 f1 f2 f3 N v0 v1 v2 v3 wr) (j : Nat) (hj : j < [f0, f1, f2, f3].length) : wr.cell? ⟨w.heap.size + 1, 3 + j, none⟩ = some (.int .i64 [f0, f1, f2, f3][j]) := by
  obtain ⟨k0, k1, k2, k3, k4, k5, k6, k7⟩ := h.oc
  match j, hj with
  | 0, _ => exact k3
  | 1, _ => exact k4
  | 2, _ => exact k5
  | 3, _ => exact k6
theorem DoSt.to (h : DoSt w rx n c S lx q lc K t0 t1 f0 f1 f2 f3 N v0 v1 v2 v3 wr) (j : Nat) (hj : j < [t0, t1].length) : wr.cell? ⟨w.heap.size + 1, 1 + j, none⟩ = some (.int .i64 [t0, t1][j]) := by
  obtain ⟨k0, k1, k2, k3, k4, k5, k6, k7⟩ := h.oc
  match j, hj with
  | 0, _ => exact k1
  | 1, _ => exact k2
/-- The state is laid into the answer's box. -/
theorem putS {w : World} {b : Nat} {o0 o1 o2 o3 : Value} {t : TypeId} (kh : w.heap[b]? = some (.cells #[o0, o1, o2, o3] t (0, 0))) (a0 a1 a2 a3 : Value) :
    ((((w.setCell ⟨b, 0, none⟩ a0).setCell ⟨b, 1, none⟩ a1).setCell ⟨b, 2, none⟩ a2).setCell ⟨b, 3, none⟩ a3).heap[b]? = some (.cells #[a0, a1, a2, a3] t (0, 0)) ∧ w.grownBy ((((w.setCell ⟨b, 0, none⟩ a0).setCell ⟨b, 1, none⟩ a1).setCell ⟨b, 2, none⟩ a2).setCell ⟨b, 3, none⟩ a3) (some b) := by
  refine ⟨?_, ?_⟩
  · have h := setCell_heap (setCell_heap (setCell_heap (setCell_heap kh 0 a0) 1 a1) 2 a2) 3 a3
    simp only [List.setIfInBounds_toArray, List.set_cons_succ, List.set_cons_zero] at h
    exact h
  · iterate 4 refine grown_trans ?_ (setCell_grown _ _ _ _)
    exact ⟨rfl, rfl, rfl, Nat.le_refl _, fun _ _ _ => rfl⟩
theorem below_grown_at {w wr w' : World} {b : Nat} (h : Below w.heap.size w wr) (g : wr.grownBy w' (some b)) (hb : w.heap.size ≤ b) : Below w.heap.size w w' :=
  ⟨g.os.trans h.os, g.tape.trans h.tape, g.output.trans h.output, Nat.le_trans h.size g.size, fun j hj => (g.block j (Nat.lt_of_lt_of_le hj h.size) (by intro e; injection e with e; omega)).trans (h.block j hj)⟩
/-- What Do leaves where it leaves the state as it was. -/
theorem DoSt.same (h : DoSt w rx n c S lx q lc K t0 t1 f0 f1 f2 f3 N v0 v1 v2 v3 wr) {R : List Int} {L : List (Int × Int)} {m : Nat → Int} (hA : RefAt w rx n c R lx q lc L m) {w' : World} (g : wr.grownBy w' (some (w.heap.size + 2))) (trap err : Int) :
    RefPost w rx lx S q trap err R m (.returned (.tuple #[refS rx n c S lx q lc, .int .i64 trap, .int .i64 err])) w' := by
  have hb := below_grown_at h.bel g (by omega)
  exact ⟨rx, n, c, lx, q, lc, L, rfl, hA.below hb, by omega, hb, .inl rfl, .inl rfl⟩
end

set_option maxHeartbeats 4000000 in
theorem refDo_far (rx : Option Addr) (n c : Nat) (R : List Int) (S : Int) (lx : Option Addr) (q lc : Nat) (L : List (Int × Int)) (m : Nat → Int) (K t0 t1 f0 f1 f2 f3 N : Int) (w : World) (hA : RefAt w rx n c R lx q lc L m) (hS : 0 ≤ S ∧ S < 4294967296) (hN : 0 ≤ N ∧ N < 4294967296) (hq : q ≤ 10000) (hr : ¬ ((∀ y ∈ [f0, f1, f2, f3], y < n) ∧ ∀ y ∈ [t0, t1], y < n)) :
    Calls Try.prog 11 #[.agg #[.slice rx n c, .int .u32 S, .slice none 0 0, .slice lx q lc], .agg #[.int .i64 K, .int .i64 t0, .int .i64 t1, .int .i64 f0, .int .i64 f1, .int .i64 f2, .int .i64 f3, .int .u32 N]] w (RefPost w rx lx S q 0 11 R m) := by
  have HA := Lib.hid hA
  have HR := Lib.hid hr
  clear hA hr
  go_enter Try.func11, Try.ntmps11
  go_upto_region 2 with fail
  obtain ⟨hB4, kS, kO, kR, kV⟩ := alloc_four w (.cells #[.slice rx n c, .int .u32 S, .slice none 0 0, .slice lx q lc] 31) (.cells #[.int .i64 K, .int .i64 t0, .int .i64 t1, .int .i64 f0, .int .i64 f1, .int .i64 f2, .int .i64 f3, .int .u32 N] 50) (.cells #[.slice none 0 0, .int .u32 0, .slice none 0 0, .slice none 0 0] 31) (.cells #[.int .u32 0, .int .u32 0, .int .u32 0, .int .u32 0] 69)
  generalize (((w.alloc _).alloc _).alloc _).alloc _ = w4 at hB4 kS kO kR kV ⊢
  have HD4 : Hid (DoSt w rx n c S lx q lc K t0 t1 f0 f1 f2 f3 N 0 0 0 0 w4) := ⟨kS, kO, kR, kV, hB4⟩
  clear hB4 kS kO kR kV
  go_wp2_with fail
  go_loopw [8] (fun iv wr => ∃ j : Nat, j ≤ 4 ∧ iv = .int .i64 j ∧ DoSt w rx n c S lx q lc K t0 t1 f0 f1 f2 f3 N 0 0 0 0 wr ∧ ∀ y ∈ [f0, f1, f2, f3].take j, y < n) (fun iv _ => 4 - (intOf iv).toNat)
  case atStart => exact ⟨0, by omega, rfl, HD4.out, by simp⟩
  case round =>
  obtain ⟨j, hj, rfl, hD, hall⟩ := hrel
  by_cases hlt : j < 4
  · have hlt' : j < [f0, f1, f2, f3].length := hlt
    have hc := hD.from j hlt'
    have hst : [f0, f1, f2, f3].take (j + 1) = [f0, f1, f2, f3].take j ++ [[f0, f1, f2, f3][j]] := List.take_succ_eq_append_getElem hlt'
    have Hall := Lib.hid hall
    have Hst := Lib.hid hst
    clear hall hst
    obtain ⟨X, hXe⟩ : ∃ X, [f0, f1, f2, f3][j]'hlt' = X := ⟨_, rfl⟩
    rw [hXe] at hc
    have HXe := Lib.hid hXe
    have c0 := hD.sc.1
    have wj : IntKind.i64.wrap ((j : Int) + 1) = (j : Int) + 1 := IntWalk.i64_in _ (by omega)
    have hjI : (j : Int) < 4 := by omega
    have hl := hD.size
    have hl0 : w.heap.size < wr.heap.size := by omega
    have hl1 : w.heap.size + 1 < wr.heap.size := by omega
    clear hXe hl
    by_cases hX : (n : Int) ≤ X
    · have e1 : decide ((n : Int) ≤ X) = true := by simpa using hX
      obtain ⟨y0, y1, y2, y3⟩ := hD.sc
      obtain ⟨r0, r1, r2, r3⟩ := hD.rc
      obtain ⟨p0, p1, p2, p3⟩ := hD.rf
      have hl := hD.size
      have hl2 : w.heap.size + 2 < wr.heap.size := by omega
      have HD := Lib.hid hD
      clear hD hX hl
      go_wp2_with fail
      go_quiet (fail)
      go_wp2_with fail
      obtain ⟨kz, gz⟩ := putS ((below_drewN (Below.refl wr.heap.size wr) nq).block _ hl2 |>.trans HD.out.kR) (.slice rx n c) (.int .u32 S) (.slice none 0 0) (.slice lx q lc)
      have hpost := fun tr er => (HD.out.below (below_drewN (Below.refl wr.heap.size wr) nq)).same HA.out gz tr er
      generalize World.setCell _ _ _ = wz at kz hpost ⊢
      have z0 := (blk_cells kz 0).1
      have z1 := (blk_cells kz 1).1
      have z2 := (blk_cells kz 2).1
      have z3 := (blk_cells kz 3).1
      refine ⟨rfl, .tuple #[refS rx n c S lx q lc, .int .i64 0, .int .i64 11], ?_, hpost 0 11⟩
      simp [results, Try.f11, go_sem, z0, z1, z2, z3, refS]
    · have e1 : decide ((n : Int) ≤ X) = false := by simpa using hX
      have HX := Lib.hid hX
      have HD := Lib.hid hD
      clear hD hX
      go_wp2_with fail
      go_quiet (fail)
      go_wp2_with fail
      refine ⟨⟨j + 1, by omega, by simp, HD.out.below (below_drewN (Below.refl _ _) nq), ?_⟩, by simp only [intOf]; omega⟩
      intro y hy
      rw [Hst.out] at hy
      rcases List.mem_append.1 hy with hy | hy
      · exact Hall.out y hy
      · rw [List.mem_singleton.1 hy, HXe.out]
        have := HX.out
        omega
  · have hj4 : j = 4 := by omega
    rw [hj4] at hall
    have Hall := Lib.hid (show ∀ y ∈ [f0, f1, f2, f3], y < n from hall)
    have HD4 := Lib.hid hD
    have e4 : decide ((j : Int) < 4) = false := by simp; omega
    clear hall hD hj hlt hj4
    go_wp2_with fail
    go_loopw [9] (fun iv wr => ∃ j : Nat, j ≤ 2 ∧ iv = .int .i64 j ∧ DoSt w rx n c S lx q lc K t0 t1 f0 f1 f2 f3 N 0 0 0 0 wr ∧ ∀ y ∈ [t0, t1].take j, y < n) (fun iv _ => 2 - (intOf iv).toNat)
    case atStart => exact ⟨0, by omega, rfl, HD4.out, by simp⟩
    case round =>
    obtain ⟨j, hj, rfl, hD, hall⟩ := hrel
    by_cases hlt : j < 2
    · have hlt' : j < [t0, t1].length := hlt
      have hc := hD.to j hlt'
      have hst : [t0, t1].take (j + 1) = [t0, t1].take j ++ [[t0, t1][j]] := List.take_succ_eq_append_getElem hlt'
      have Hall2 := Lib.hid hall
      have Hst := Lib.hid hst
      clear hall hst
      obtain ⟨X, hXe⟩ : ∃ X, [t0, t1][j]'hlt' = X := ⟨_, rfl⟩
      rw [hXe] at hc
      have HXe := Lib.hid hXe
      have c0 := hD.sc.1
      have wj : IntKind.i64.wrap ((j : Int) + 1) = (j : Int) + 1 := IntWalk.i64_in _ (by omega)
      have hjI : (j : Int) < 2 := by omega
      have hl := hD.size
      have hl0 : w.heap.size < wr.heap.size := by omega
      have hl1 : w.heap.size + 1 < wr.heap.size := by omega
      clear hXe hl
      by_cases hX : (n : Int) ≤ X
      · have e1 : decide ((n : Int) ≤ X) = true := by simpa using hX
        obtain ⟨y0, y1, y2, y3⟩ := hD.sc
        obtain ⟨r0, r1, r2, r3⟩ := hD.rc
        obtain ⟨p0, p1, p2, p3⟩ := hD.rf
        have hl := hD.size
        have hl2 : w.heap.size + 2 < wr.heap.size := by omega
        have HD := Lib.hid hD
        clear hD hX hl
        go_wp2_with fail
        go_quiet (fail)
        go_wp2_with fail
        obtain ⟨kz, gz⟩ := putS ((below_drewN (Below.refl wr.heap.size wr) nq).block _ hl2 |>.trans HD.out.kR) (.slice rx n c) (.int .u32 S) (.slice none 0 0) (.slice lx q lc)
        have hpost := fun tr er => (HD.out.below (below_drewN (Below.refl wr.heap.size wr) nq)).same HA.out gz tr er
        generalize World.setCell _ _ _ = wz at kz hpost ⊢
        have z0 := (blk_cells kz 0).1
        have z1 := (blk_cells kz 1).1
        have z2 := (blk_cells kz 2).1
        have z3 := (blk_cells kz 3).1
        refine ⟨rfl, .tuple #[refS rx n c S lx q lc, .int .i64 0, .int .i64 11], ?_, hpost 0 11⟩
        simp [results, Try.f11, go_sem, z0, z1, z2, z3, refS]
      · have e1 : decide ((n : Int) ≤ X) = false := by simpa using hX
        have HX := Lib.hid hX
        have HD := Lib.hid hD
        clear hD hX
        go_wp2_with fail
        go_quiet (fail)
        go_wp2_with fail
        refine ⟨⟨j + 1, by omega, by simp, HD.out.below (below_drewN (Below.refl _ _) nq), ?_⟩, by simp only [intOf]; omega⟩
        intro y hy
        rw [Hst.out] at hy
        rcases List.mem_append.1 hy with hy | hy
        · exact Hall2.out y hy
        · rw [List.mem_singleton.1 hy, HXe.out]
          have := HX.out
          omega
    · have hj2 : j = 2 := by omega
      subst hj2
      exact absurd ⟨Hall.out, hall⟩ HR.out
end Go.Proofs.Ytmkencdkglbpbaa
