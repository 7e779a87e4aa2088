/- AllocRuns as its row wants it. -/
import Derived.Test.YtmkencdkglbpbaaDoorDuoC
import Derived.Test.YtmkencdkglbpbaaDoorRowO
import Derived.Test.YtmkencdkglbpbaaDoorRow16
set_option maxRecDepth 100000
set_option linter.unusedVariables false
namespace Go.Proofs.YtmkencdkglbpbaaDoor
open Go.RowKit

/-- A slice of words that came in. -/
def WordRow (w : World) (a : Option Addr) (len cap : Nat) (zs : List Int) : Prop :=
  (a = none ∧ len = 0 ∧ cap = 0 ∧ zs = []) ∨
  ∃ x, a = some x ∧ len ≤ cap ∧ cap ≤ maxLen ∧ zs.length = cap ∧ (∀ i, i < zs.length → w.cell? (x.add i) = some (.int .u32 (zs.getD i 0))) ∧ ∀ n ∈ zs, (Lit.int .u32 n).wf = true

theorem usl_of {w : World} {a : Option Addr} {len cap : Nat} {zs : List Int} (h : WordRow w a len cap zs) : USl w a (zs.take len) ∧ (zs.take len).length = len ∧ ∀ x ∈ zs.take len, 0 ≤ x ∧ x < 4294967296 := by
  rcases h with ⟨rfl, rfl, rfl, rfl⟩ | ⟨x, rfl, hl, hm, hz, hc, hw⟩
  · exact ⟨.inl rfl, rfl, by simp⟩
  · have hlen : (zs.take len).length = len := by simp; omega
    refine ⟨?_, hlen, fun y hy => u32_bd (hw y (List.mem_of_mem_take hy))⟩
    by_cases h0 : len = 0
    · exact .inl (by omega)
    · right
      have h1 := hc 0 (by omega)
      obtain ⟨b, o, s⟩ := x
      cases s with
      | some s => simp [World.cell?, Addr.add] at h1; split at h1 <;> simp at h1
      | none =>
        refine ⟨b, o, rfl, World.block_lt_of_cell? _ _ h1, fun i hi => ?_⟩
        have := hc i (by omega)
        rw [show (⟨b, o, none⟩ : Addr).add i = ⟨b, o + i, none⟩ from by simp [Addr.add]] at this
        rw [this]
        have hi2 : i < zs.length := by omega
        simp [List.getD_eq_getElem?_getD, hi2]

theorem allocRuns_row (a : Option Addr) (len cap : Nat) (zs : List Op8) (base S : Int) (y : Option Addr) (p yc : Nat) (ys : List Int) (w : World) (hR : HasRows w) (hw : OpsRow w a len zs ∧ len ≤ cap ∧ cap ≤ maxLen) (_ : (Lit.int .i64 base).wf = true) (hS : (Lit.int .u32 S).wf = true) (hy : WordRow w y p yc ys) :
    Calls Tryd.prog 10 #[.slice a len cap, .int .i64 base, .int .u32 S, .slice y p yc] w fun e w' => e = .returned (.bool true) ∧ Below w.heap.size w w' := by
  obtain ⟨h1, h2, h3⟩ := usl_of hy
  have hle : p ≤ yc := by
    rcases hy with ⟨_, rfl, rfl, _⟩ | ⟨_, _, h, _⟩
    · exact Nat.le_refl _
    · exact h
  exact allocRuns_walk a len cap zs base S y p yc (ys.take p) w hR hw.1.2.1 hw.1.1 hw.2.1 hw.1.2.2 (u32_bd hS) h1 h2 hle h3
end Go.Proofs.YtmkencdkglbpbaaDoor
