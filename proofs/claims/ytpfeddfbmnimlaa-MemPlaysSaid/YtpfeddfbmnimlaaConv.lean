/- string(b) of bytes that are known. -/
import Derived.Test.YtpfeddfbmnimlaaMemE
import Derived.Laws.BytesArg
set_option maxRecDepth 100000
namespace Go.Proofs.Ytpfeddfbmnimlaa
open Go.RowKit

theorem conv_row {w : World} {x : Option Addr} {n c : Nat} {F : List Int} (h : ByteRow w x n F) (hx : x = none → n = 0 ∧ c = 0) :
    (convert 22 9 (.slice x n c)).run Try.prog w = .ok (.string (strOfNums F)) w := by
  obtain ⟨hl, _, hc⟩ := h
  cases x with
  | none =>
    obtain ⟨rfl, rfl⟩ := hx rfl
    obtain rfl : F = [] := List.length_eq_zero_iff.1 hl
    exact run_convert_bytes_nil w 22 5 Try.underlying22 Try.underlying5 0 0 9 Try.underlying9
  | some ad =>
    rcases hc with rfl | ⟨b, o, he, _, hc⟩
    · obtain rfl : F = [] := List.length_eq_zero_iff.1 hl
      rw [run_convert_bytes_string w 22 9 5 _ 0 c Try.underlying22 Try.underlying5 Try.underlying9]
      rw [run_bytesToString w ad 0 c [] rfl]
      rfl
    · cases he
      exact run_convert_bytes_arg w 22 5 Try.underlying22 Try.underlying5 b o n c F hl hc 9 Try.underlying9

/-- A row of the call's own as the bytes that it holds. -/
theorem byteRow_own {w : World} {B n : Nat} {x : Option Addr} {c : Nat} {F : List Int} (h : w.ownsRow B 5 1 (.slice x n c) n (F.map (Value.int .u8))) (hb : ∀ y ∈ F, 0 ≤ y ∧ y < 256) :
    ByteRow w x n F ∧ (x = none → n = 0 ∧ c = 0) := by
  have hl := h.1
  simp only [List.length_map, Nat.mul_one] at hl
  obtain ⟨x', c', he, h1, h2, h3⟩ := flash_shape h
  cases he
  refine ⟨⟨hl, hb, h3.imp id fun ⟨g, e, hg, hc⟩ => ⟨g, 0, e, hg, fun i hi => by rw [Nat.zero_add]; exact hc i hi⟩⟩, fun e => ?_⟩
  have := h2 e
  omega
end Go.Proofs.Ytpfeddfbmnimlaa
