/- Steps that came in, as the walk takes them. -/
import Derived.Test.YtpfeddfbmnimlaaPlayE
import Derived.Test.YtpfeddfbmnimlaaRow06
import Derived.Deep.Slices
import Derived.Deep.Fields
set_option maxRecDepth 100000
set_option linter.unusedVariables false
namespace Go.Proofs.Ytpfeddfbmnimlaa
open Go.RowKit Go.ChangeShapes Go.WideShapes Go.Deep

/-- A number that lies at an address. -/
def readInt (w : World) (p : Addr) : Int := match w.cell? p with | some (.int _ n) => n | _ => 0
theorem readInt_of {w : World} {p : Addr} {k : IntKind} {n : Int} (h : w.cell? p = some (.int k n)) : readInt w p = n := by simp [readInt, h]

theorem opRow_of {H : Type} {enc : TypeId × Value → H} {W : World} {base : Nat} {spare : Nat → Bool} {held : Bool} {fuel : Nat} {oa : Option Addr} {N ocap : Nat} {x : DataW H × List MemPlace}
    (h : DataW.trod enc Try.prog W base spare held fuel 42 [.slice oa N ocap] = some x) : ∃ O, OpRow W oa N O ∧ N ≤ ocap ∧ ocap ≤ maxLen := by
  rcases open_slice Try.underlying42 h with ⟨hcs, _⟩ | ⟨a, len, cap, m, n, D, Pl, hcs, hb, hl, hm, hmm, hx, hi⟩
  · simp at hcs
    obtain ⟨rfl, rfl, rfl⟩ := hcs
    exact ⟨[], ⟨rfl, by simp, .inl rfl⟩, Nat.le_refl _, Nat.zero_le _⟩
  · simp at hcs
    obtain ⟨rfl, rfl, rfl⟩ := hcs
    have hC : Try.prog.cellsOf 48 = 3 := by kernel_rfl
    have hNm : N ≤ m := by rw [hmm]; split <;> omega
    have each : ∀ i, i < N → ∃ K A X, W.cell? (a.add (i * 3)) = some (.int .i64 K) ∧ W.cell? (a.add (i * 3 + 1)) = some (.int .u32 A) ∧ W.cell? (a.add (i * 3 + 2)) = some (.int .u32 X) ∧ (0 ≤ A ∧ A < 4294967296) ∧ (0 ≤ X ∧ X < 4294967296) := by
      intro i hin
      obtain ⟨cs', hc, ht⟩ := hi i (by omega)
      rw [hC] at hc
      obtain ⟨_, hcl, hat⟩ := World.cells?_some hc
      obtain ⟨ys, n', _, _, _, hyl, hf⟩ := DataW.trod_struct Try.underlying48 ht
      have e3 : Try.prog.cellsOf 3 = 1 := by kernel_rfl
      have e23 : Try.prog.cellsOf 23 = 1 := by kernel_rfl
      obtain ⟨c0, c1, c2, rfl⟩ : ∃ c0 c1 c2, cs' = [c0, c1, c2] := by
        match cs', hcl with
        | [c0, c1, c2], _ => exact ⟨c0, c1, c2, rfl⟩
      have h0 := hf 0 { name := "Kind", type := 3, offset := 0, embedded := false, tag := "", pkgPath := "", byteOffset := 0 } rfl
      have h1 := hf 1 { name := "At", type := 23, offset := 1, embedded := false, tag := "", pkgPath := "", byteOffset := 8 } rfl
      have h2 := hf 2 { name := "X", type := 23, offset := 2, embedded := false, tag := "", pkgPath := "", byteOffset := 12 } rfl
      dsimp only at h0 h1 h2
      rw [e3] at h0
      rw [e23] at h1 h2
      simp only [List.drop_zero, List.drop_succ_cons, List.take_succ_cons, List.take_zero] at h0 h1 h2
      have q0 : ys[0]? = some (ys[0]'(by rw [hyl]; decide)) := List.getElem?_eq_getElem _
      have q1 : ys[1]? = some (ys[1]'(by rw [hyl]; decide)) := List.getElem?_eq_getElem _
      have q2 : ys[2]? = some (ys[2]'(by rw [hyl]; decide)) := List.getElem?_eq_getElem _
      obtain ⟨K, b0, _, _⟩ := DataW.trod_int Try.underlying3 (h0.trans q0)
      obtain ⟨A, b1, _, w1⟩ := DataW.trod_int Try.underlying23 (h1.trans q1)
      obtain ⟨X, b2, _, w2⟩ := DataW.trod_int Try.underlying23 (h2.trans q2)
      simp only [List.cons.injEq, and_true] at b0 b1 b2
      subst b0 b1 b2
      have t0 := hat 0 (by omega)
      have t1 := hat 1 (by omega)
      have t2 := hat 2 (by omega)
      have ea : ∀ j, (a.add (i * 3)).add j = a.add (i * 3 + j) := fun j => Go.Deep.add_add a _ _
      rw [ea] at t0 t1 t2
      exact ⟨K, A, X, t0, t1, t2, u32_bd w1, u32_bd w2⟩
    obtain ⟨O, hO⟩ : ∃ O : List (Int × Int × Int), O = (List.range N).map fun i => (readInt W (a.add (i * 3)), readInt W (a.add (i * 3 + 1)), readInt W (a.add (i * 3 + 2))) := ⟨_, rfl⟩
    have hOl : O.length = N := by rw [hO]; simp
    have hOg : ∀ i (hi : i < O.length), O[i] = (readInt W (a.add (i * 3)), readInt W (a.add (i * 3 + 1)), readInt W (a.add (i * 3 + 2))) := by
      intro i hi
      simp [hO]
    refine ⟨O, ⟨hOl, ?_, ?_⟩, hl, hm⟩
    · intro y hy
      obtain ⟨i, hi2, rfl⟩ := List.getElem_of_mem hy
      obtain ⟨K, A, X, t0, t1, t2, hA, hX⟩ := each i (by omega)
      rw [hOg i hi2, readInt_of t1, readInt_of t2]
      exact ⟨hA.1, hA.2, hX.1, hX.2⟩
    · by_cases h0 : N = 0
      · exact .inl h0
      · right
        obtain ⟨K, A, X, t0, _⟩ := each 0 (by omega)
        obtain ⟨b, o, s⟩ := a
        cases s with
        | some s => simp [World.cell?, Addr.add] at t0; split at t0 <;> simp at t0
        | none =>
          refine ⟨b, o, rfl, World.block_lt_of_cell? _ _ t0, fun i hi2 => ?_⟩
          obtain ⟨K, A, X, t0, t1, t2, hA, hX⟩ := each i (by omega)
          have ea : ∀ j, (⟨b, o, none⟩ : Addr).add j = ⟨b, o + j, none⟩ := fun j => by simp [Addr.add]
          rw [hOg i hi2, readInt_of t0, readInt_of t1, readInt_of t2]
          rw [ea] at t0 t1 t2
          exact ⟨t0, t1, t2⟩
end Go.Proofs.Ytpfeddfbmnimlaa
