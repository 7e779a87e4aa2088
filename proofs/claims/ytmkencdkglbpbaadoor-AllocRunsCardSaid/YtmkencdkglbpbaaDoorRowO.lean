/- Operations that came in as a slice. -/
import Derived.Test.YtmkencdkglbpbaaDoorOps8
import Derived.Test.YtmkencdkglbpbaaDoorRow16
set_option maxRecDepth 100000
set_option linter.unusedVariables false
namespace Go.Proofs.YtmkencdkglbpbaaDoor
open Go.RowKit Go.ChangeShapes Go.WideShapes Go.Deep

/-- A slice of operations that came in. -/
def OpsRow (w : World) (a : Option Addr) (len : Nat) (zs : List Op8) : Prop := zs.length = len ∧ OpsSl w a zs ∧ ∀ o ∈ zs, 0 ≤ o.N ∧ o.N < 4294967296

/-- A number that lies at an address. -/
def readInt (w : World) (p : Addr) : Int := match w.cell? p with | some (.int _ n) => n | _ => 0
theorem readInt_of {w : World} {p : Addr} {k : IntKind} {n : Int} (h : w.cell? p = some (.int k n)) : readInt w p = n := by simp [readInt, h]
def readOp (w : World) (p : Addr) : Op8 := ⟨readInt w p, readInt w (p.add 1), readInt w (p.add 2), readInt w (p.add 3), readInt w (p.add 4), readInt w (p.add 5), readInt w (p.add 6), readInt w (p.add 7)⟩

theorem opsRow_of {H : Type} {enc : TypeId × Value → H} {W : World} {base : Nat} {spare : Nat → Bool} {held : Bool} {fuel : Nat} {oa : Option Addr} {N ocap : Nat} {x : DataW H × List MemPlace}
    (h : DataW.trod enc Tryd.prog W base spare held fuel 22 [.slice oa N ocap] = some x) : ∃ O, OpsRow W oa N O ∧ N ≤ ocap ∧ ocap ≤ maxLen := by
  rcases open_slice Tryd.underlying22 h with ⟨hcs, _⟩ | ⟨a, len, cap, m, n, D, Pl, hcs, hb, hl, hm, hmm, hx, hi⟩
  · simp at hcs
    obtain ⟨rfl, rfl, rfl⟩ := hcs
    exact ⟨[], ⟨rfl, .inl rfl, by simp⟩, Nat.le_refl _, Nat.zero_le _⟩
  · simp at hcs
    obtain ⟨rfl, rfl, rfl⟩ := hcs
    have hC : Tryd.prog.cellsOf 37 = 8 := by kernel_rfl
    have hNm : N ≤ m := by rw [hmm]; split <;> omega
    have ea : ∀ i j, (a.add (i * 8)).add j = a.add (i * 8 + j) := fun i j => Go.Deep.add_add a _ _
    have each : ∀ i, i < N → ∃ o : Op8, readOp W (a.add (i * 8)) = o ∧ W.cell? (a.add (i * 8)) = some (.int .i64 o.K) ∧ W.cell? (a.add (i * 8 + 1)) = some (.int .i64 o.t0) ∧ W.cell? (a.add (i * 8 + 2)) = some (.int .i64 o.t1) ∧ W.cell? (a.add (i * 8 + 3)) = some (.int .i64 o.f0) ∧ W.cell? (a.add (i * 8 + 4)) = some (.int .i64 o.f1) ∧ W.cell? (a.add (i * 8 + 5)) = some (.int .i64 o.f2) ∧ W.cell? (a.add (i * 8 + 6)) = some (.int .i64 o.f3) ∧ W.cell? (a.add (i * 8 + 7)) = some (.int .u32 o.N) ∧ 0 ≤ o.N ∧ o.N < 4294967296 := by
      intro i hin
      obtain ⟨cs', hc, ht⟩ := hi i (by omega)
      rw [hC] at hc
      obtain ⟨_, hcl, hat⟩ := World.cells?_some hc
      obtain ⟨K, t0, t1, f0, f1, f2, f3, M, rfl, hM⟩ := opList_of ht
      have q0 := hat 0 (by omega)
      have q1 := hat 1 (by omega)
      have q2 := hat 2 (by omega)
      have q3 := hat 3 (by omega)
      have q4 := hat 4 (by omega)
      have q5 := hat 5 (by omega)
      have q6 := hat 6 (by omega)
      have q7 := hat 7 (by omega)
      rw [ea] at q0 q1 q2 q3 q4 q5 q6 q7
      refine ⟨⟨K, t0, t1, f0, f1, f2, f3, M⟩, ?_, q0, q1, q2, q3, q4, q5, q6, q7, hM⟩
      unfold readOp
      rw [ea, ea, ea, ea, ea, ea, ea, show readInt W (a.add (i * 8)) = K from readInt_of q0, readInt_of q1, readInt_of q2, readInt_of q3, readInt_of q4, readInt_of q5, readInt_of q6, readInt_of q7]
    obtain ⟨O, hO⟩ : ∃ O : List Op8, O = (List.range N).map fun i => readOp W (a.add (i * 8)) := ⟨_, rfl⟩
    have hOl : O.length = N := by rw [hO]; simp
    have hOg : ∀ i (hi : i < O.length), O[i] = readOp W (a.add (i * 8)) := by
      intro i hi
      simp [hO]
    refine ⟨O, ⟨hOl, ?_, ?_⟩, hl, hm⟩
    · by_cases h0 : N = 0
      · exact .inl (by omega)
      · right
        obtain ⟨o0, _, t0, _⟩ := each 0 (by omega)
        obtain ⟨b, o, s⟩ := a
        cases s with
        | some s => simp [World.cell?, Addr.add] at t0; split at t0 <;> simp at t0
        | none =>
          refine ⟨b, o, rfl, World.block_lt_of_cell? _ _ t0, fun i hi2 => ?_⟩
          obtain ⟨p, hp, t0, t1, t2, t3, t4, t5, t6, t7, _⟩ := each i (by omega)
          have eb : ∀ j, (⟨b, o, none⟩ : Addr).add j = ⟨b, o + j, none⟩ := fun j => by simp [Addr.add]
          rw [hOg i hi2, hp]
          rw [eb] at t0 t1 t2 t3 t4 t5 t6 t7
          exact ⟨t0, t1, t2, t3, t4, t5, t6, t7⟩
    · intro y hy
      obtain ⟨i, hi2, rfl⟩ := List.getElem_of_mem hy
      obtain ⟨p, hp, _, _, _, _, _, _, _, _, hM⟩ := each i (by omega)
      rw [hOg i hi2, hp]
      exact hM

end Go.Proofs.YtmkencdkglbpbaaDoor
