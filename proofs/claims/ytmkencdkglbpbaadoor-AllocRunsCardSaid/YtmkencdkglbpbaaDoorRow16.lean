/- Operations that came in, as the walks take them. -/
import Derived.Test.YtmkencdkglbpbaaDoorVopQ
import Derived.ProofKit
import Derived.OpenShut
import Derived.Deep.Slices
import Derived.Deep.Fields
set_option maxRecDepth 100000
set_option linter.unusedVariables false
namespace Go.Proofs.YtmkencdkglbpbaaDoor
open Go.RowKit Go.ChangeShapes Go.WideShapes Go.Deep

theorem u32_bd {n : Int} (h : (Lit.int .u32 n).wf = true) : 0 ≤ n ∧ n < 4294967296 := by
  simp [Lit.wf, IntKind.min, IntKind.max, IntKind.signed, IntKind.bits] at h
  omega

/-- An operation's cells. -/
theorem opList_of {H : Type} {enc : TypeId × Value → H} {W : World} {base : Nat} {spare : Nat → Bool} {held : Bool} {fuel : Nat} {cs : List Value} {x : DataW H × List MemPlace}
    (h : DataW.trod enc Tryd.prog W base spare held fuel 37 cs = some x) : ∃ K t0 t1 f0 f1 f2 f3 N, cs = [.int .i64 K, .int .i64 t0, .int .i64 t1, .int .i64 f0, .int .i64 f1, .int .i64 f2, .int .i64 f3, .int .u32 N] ∧ 0 ≤ N ∧ N < 4294967296 := by
  obtain ⟨ys, n', _, _, hcl, hyl, hf⟩ := DataW.trod_struct Tryd.underlying37 h
  have e37 : Tryd.prog.cellsOf 37 = 8 := by kernel_rfl
  have e33 : Tryd.prog.cellsOf 33 = 2 := by kernel_rfl
  have e34 : Tryd.prog.cellsOf 34 = 4 := by kernel_rfl
  have e35 : Tryd.prog.cellsOf 35 = 1 := by kernel_rfl
  have e3 := cellsOfInt
  rw [e37] at hcl
  obtain ⟨c0, c1, c2, c3, c4, c5, c6, c7, rfl⟩ : ∃ c0 c1 c2 c3 c4 c5 c6 c7, cs = [c0, c1, c2, c3, c4, c5, c6, c7] := by
    match cs, hcl with
    | [c0, c1, c2, c3, c4, c5, c6, c7], _ => exact ⟨c0, c1, c2, c3, c4, c5, c6, c7, rfl⟩
  have hyl2 : ys.length = 4 := by rw [hyl]; rfl
  obtain ⟨y0, y1, y2, y3, rfl⟩ : ∃ y0 y1 y2 y3, ys = [y0, y1, y2, y3] := by
    match ys, hyl2 with
    | [y0, y1, y2, y3], _ => exact ⟨y0, y1, y2, y3, rfl⟩
  have h0 := hf 0 { name := "Kind", type := 3, offset := 0, embedded := false, tag := "", pkgPath := "", byteOffset := 0 } rfl
  have h1 := hf 1 { name := "To", type := 33, offset := 1, embedded := false, tag := "", pkgPath := "", byteOffset := 8 } rfl
  have h2 := hf 2 { name := "From", type := 34, offset := 3, embedded := false, tag := "", pkgPath := "", byteOffset := 24 } rfl
  have h3 := hf 3 { name := "N", type := 35, offset := 7, embedded := false, tag := "", pkgPath := "", byteOffset := 56 } rfl
  dsimp only at h0 h1 h2 h3
  rw [e3] at h0
  rw [e33] at h1
  rw [e34] at h2
  rw [e35] at h3
  simp only [List.drop_zero, List.drop_succ_cons, List.take_succ_cons, List.take_zero] at h0 h1 h2 h3
  obtain ⟨K, b0, _, _⟩ := DataW.trod_int Tryd.underlying3 (h0.trans (show _ = some y0 from rfl))
  obtain ⟨N, b7, _, w7⟩ := DataW.trod_int Tryd.underlying35 (h3.trans (show _ = some y3 from rfl))
  obtain ⟨xs, _, _, _, _, hxl, hx⟩ := DataW.trod_array Tryd.underlying33 (h1.trans (show _ = some y1 from rfl))
  obtain ⟨zs, _, _, _, _, hzl, hz⟩ := DataW.trod_array Tryd.underlying34 (h2.trans (show _ = some y2 from rfl))
  rw [e3] at hx hz
  obtain ⟨x0, x1, rfl⟩ : ∃ x0 x1, xs = [x0, x1] := by
    match xs, hxl with
    | [x0, x1], _ => exact ⟨x0, x1, rfl⟩
  obtain ⟨z0, z1, z2, z3, rfl⟩ : ∃ z0 z1 z2 z3, zs = [z0, z1, z2, z3] := by
    match zs, hzl with
    | [z0, z1, z2, z3], _ => exact ⟨z0, z1, z2, z3, rfl⟩
  obtain ⟨t0, b1, _, _⟩ := DataW.trod_int Tryd.underlying3 ((hx 0 (by omega)).trans (show _ = some x0 from rfl))
  obtain ⟨t1, b2, _, _⟩ := DataW.trod_int Tryd.underlying3 ((hx 1 (by omega)).trans (show _ = some x1 from rfl))
  obtain ⟨f0, b3, _, _⟩ := DataW.trod_int Tryd.underlying3 ((hz 0 (by omega)).trans (show _ = some z0 from rfl))
  obtain ⟨f1, b4, _, _⟩ := DataW.trod_int Tryd.underlying3 ((hz 1 (by omega)).trans (show _ = some z1 from rfl))
  obtain ⟨f2, b5, _, _⟩ := DataW.trod_int Tryd.underlying3 ((hz 2 (by omega)).trans (show _ = some z2 from rfl))
  obtain ⟨f3, b6, _, _⟩ := DataW.trod_int Tryd.underlying3 ((hz 3 (by omega)).trans (show _ = some z3 from rfl))
  simp only [List.drop_zero, List.drop_succ_cons, List.take_succ_cons, List.take_zero, List.cons.injEq, and_true, Nat.zero_mul, Nat.one_mul, Nat.mul_one] at b0 b1 b2 b3 b4 b5 b6 b7
  subst b0 b1 b2 b3 b4 b5 b6 b7
  exact ⟨K, t0, t1, f0, f1, f2, f3, N, rfl, u32_bd w7⟩
/-- An operation that came in by value. -/
theorem opVal_of {H : Type} {enc : TypeId × Value → H} {W : World} {spare : Nat → Bool} {held : Bool} {r : Reach} {base base' : Nat} {fuel : Nat} {v : Value} {x : DataW H × List MemPlace}
    (hv : Value.okWide Tryd.prog W r base' 37 v) (h : DataW.trod enc Tryd.prog W base spare held fuel 37 v.cells.toList = some x) : ∃ K t0 t1 f0 f1 f2 f3 N, v = opV K t0 t1 f0 f1 f2 f3 N ∧ 0 ≤ N ∧ N < 4294967296 := by
  obtain ⟨cs, rfl, _⟩ := okWide_struct Tryd.underlying37 hv
  obtain ⟨K, t0, t1, f0, f1, f2, f3, N, hc, hN⟩ := opList_of h
  refine ⟨K, t0, t1, f0, f1, f2, f3, N, ?_, hN⟩
  have hcc : (Value.agg cs).cells = cs := rfl
  rw [hcc] at hc
  have : cs = #[.int .i64 K, .int .i64 t0, .int .i64 t1, .int .i64 f0, .int .i64 f1, .int .i64 f2, .int .i64 f3, .int .u32 N] := by
    apply Array.ext'
    exact hc
  rw [this]
end Go.Proofs.YtmkencdkglbpbaaDoor
