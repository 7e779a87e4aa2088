/- What came in, as the walks take it. -/
import Derived.Test.YtpfeddfbmnimlaaMemA
import Derived.ProofKit
import Derived.OpenShut
set_option maxRecDepth 100000
namespace Go.Proofs.Ytpfeddfbmnimlaa
open Go.RowKit

theorem u32_bd {n : Int} (h : (Lit.int .u32 n).wf = true) : 0 ≤ n ∧ n < 4294967296 := by
  simp [Lit.wf, IntKind.min, IntKind.max, IntKind.signed, IntKind.bits] at h
  omega
theorem u8_bd {n : Int} (h : (Lit.int .u8 n).wf = true) : 0 ≤ n ∧ n < 256 := by
  simp [Lit.wf, IntKind.min, IntKind.max, IntKind.signed, IntKind.bits] at h
  omega
theorem i64_bd {n : Int} (h : (Lit.int .i64 n).wf = true) : -9223372036854775808 ≤ n ∧ n ≤ 9223372036854775807 := by
  simp [Lit.wf, IntKind.min, IntKind.max, IntKind.signed, IntKind.bits] at h
  omega

theorem byteRow_of {w : World} {a : Option Addr} {len cap : Nat} {zs : List Int}
    (h : (a = none ∧ len = 0 ∧ cap = 0 ∧ zs = []) ∨ ∃ x, a = some x ∧ len ≤ cap ∧ cap ≤ maxLen ∧ zs.length = cap ∧ (∀ i, i < zs.length → w.cell? (x.add i) = some (.int .u8 (zs.getD i 0))) ∧ ∀ n ∈ zs, (Lit.int .u8 n).wf = true) :
    ByteRow w a len (zs.take len) ∧ (a = none → len = 0 ∧ cap = 0) ∧ len ≤ cap := by
  rcases h with ⟨rfl, rfl, rfl, rfl⟩ | ⟨x, rfl, hl, _, hz, hc, hw⟩
  · exact ⟨⟨rfl, by simp, .inl rfl⟩, fun _ => ⟨rfl, rfl⟩, Nat.le_refl _⟩
  · refine ⟨⟨by simp; omega, fun y hy => u8_bd (hw y (List.mem_of_mem_take hy)), ?_⟩, (fun e => by cases e), hl⟩
    by_cases h0 : len = 0
    · exact .inl h0
    · right
      have h1 := hc 0 (by omega)
      obtain ⟨b, o, s⟩ := x
      cases s with
      | some s => simp [World.cell?, Addr.add] at h1; split at h1 <;> simp at h1
      | none =>
        refine ⟨b, o, rfl, World.block_lt_of_cell? _ _ h1, fun i hi => ?_⟩
        have := hc i (by omega)
        rw [show (⟨b, o, none⟩ : Addr).add i = ⟨b, o + i, none⟩ from by simp [Addr.add]] at this
        rw [this]
        simp [hi]
end Go.Proofs.Ytpfeddfbmnimlaa
