/- lex: Tokens of bytes that came in; the anchor of the laws of chapter 09. -/
import Derived.Test.YtcolielkeomglaaDoorLexG
import Derived.Lib.SlBytesConst
set_option maxRecDepth 100000
namespace Go.Proofs.YtcolielkeomglaaDoor
open Go.RowKit

/-- Numbers as bytes. -/
def bytesOf (F : List Int) : List UInt8 := F.map fun n => UInt8.ofNat n.toNat
theorem bytesOf_len (F : List Int) : (bytesOf F).length = F.length := by simp [bytesOf]

theorem tokens_any (a : Option Addr) (n cap : Nat) (F : List Int) (w : World) (hF : ByteRow w a n F) (hcap : a = none → n = 0 ∧ cap = 0) (hn : n ≤ 1000000) (hS : HasSigns w) :
    Calls Tryd.prog 9 #[.slice a n cap] w (LexPost 33 w (bytesOf F)) := by
  by_cases hbig : 65536 < n
  · refine (tokens_big a n cap w hbig hn).mono ?_
    rintro e w' ⟨rfl, rfl⟩
    have hl : lexF (bytesOf F) = .inl (161, 0) := by rw [lexF, if_pos (by rw [bytesOf_len, hF.1]; exact hbig)]
    unfold LexPost
    rw [hl]
    exact ⟨rfl, Below.refl _ _⟩
  · exact tokens_loop a n cap (strOfNums F) w hS (by rw [strOfNums_size, hF.1]) (by omega) (conv_row hF hcap)

/-- Tokens in memory: their cells. -/
theorem toks_at {w : World} {B E : Nat} {v : Value} {n : Nat} {ts : List Tok} (h : w.ownsRow B E 4 v n (toksCells ts)) (hn : 0 < n) :
    ∃ g cap, v = .slice (some ⟨g, 0, none⟩) n cap ∧ n ≤ cap ∧ g < w.heap.size ∧ B ≤ g ∧ ∀ j, j < n * 4 → w.cell? ⟨g, j, none⟩ = (toksCells ts)[j]? := by
  rcases h.2 with ⟨_, h0⟩ | ⟨g, cap, cur, rfl, hg, hh, hc, _⟩
  · omega
  · exact ⟨g, cap, rfl, hc, lt_of_block hh, hg, fun j hj => h.cellAt j hj⟩

theorem cell_last (w : World) (C : Array Value) (t : TypeId) (fr : Nat × Nat) (i : Nat) : (w.alloc (.cells C t fr)).cell? ⟨w.heap.size, i, none⟩ = C[i]? := by
  have : (w.alloc (.cells C t fr)).heap[w.heap.size]? = some (.cells C t fr) := by
    show (w.heap.push _)[w.heap.size]? = _
    simp
  unfold World.cell?
  rw [this]
  rfl

theorem lex_example : lexF [120, 60, 60, 60, 48, 120, 49, 102, 47, 47, 121] = .inr [⟨1, 0, [120], 0⟩, ⟨3, 1, [60, 60, 60], 0⟩, ⟨2, 4, [48, 120, 49, 102], 31⟩, ⟨4, 11, [], 0⟩] := by rfl

theorem anchor09 (w : World) (hS : HasSigns w) : Calls Tryd.prog 8 #[] w fun e w' => e = .returned (.bool true) ∧ Below w.heap.size w w' := by
  have kc := fun (w : World) (C : Array Value) (n c : Nat) => Lib.run_convert_bytes_const (P := Tryd.prog) w 22 5 C n c Tryd.underlying22 Tryd.underlying5
  have HS := Lib.hid hS
  clear hS
  go_enter Tryd.func8, Tryd.ntmps8
  go_wp2_with fail
  have hrow : ByteRow (w.alloc (.cells #[.int .u8 120, .int .u8 60, .int .u8 60, .int .u8 60, .int .u8 48, .int .u8 120, .int .u8 49, .int .u8 102, .int .u8 47, .int .u8 47, .int .u8 121] 5 (11, 12))) (some ⟨w.heap.size, 0, none⟩) 11 [120, 60, 60, 60, 48, 120, 49, 102, 47, 47, 121] := by
    refine ⟨rfl, by decide, .inr ⟨w.heap.size, 0, rfl, by simp, fun i hi => ?_⟩⟩
    rw [Nat.zero_add, cell_last]
    have : i = 0 ∨ i = 1 ∨ i = 2 ∨ i = 3 ∨ i = 4 ∨ i = 5 ∨ i = 6 ∨ i = 7 ∨ i = 8 ∨ i = 9 ∨ i = 10 := by omega
    rcases this with rfl | rfl | rfl | rfl | rfl | rfl | rfl | rfl | rfl | rfl | rfl <;> rfl
  refine (tokens_any _ 11 11 _ _ hrow (fun e => by cases e) (by omega) (HS.out.below ((Below.refl _ _).alloc (Nat.le_refl _) _))).mono ?_
  intro e w1 h
  unfold LexPost at h
  rw [show lexF (bytesOf [120, 60, 60, 60, 48, 120, 49, 102, 47, 47, 121]) = _ from lex_example] at h
  obtain ⟨v, rfl, hown, hb⟩ := h
  obtain ⟨g, cp, rfl, _, _, _, hc⟩ := toks_at hown (by decide)
  have c6 := hc 6 (by decide)
  have c11 := hc 11 (by decide)
  have c12 := hc 12 (by decide)
  have c13 := hc 13 (by decide)
  have c14 := hc 14 (by decide)
  have c15 := hc 15 (by decide)
  simp only [toksCells, tokCells, List.flatMap_cons, List.flatMap_nil, List.cons_append, List.nil_append, List.getElem?_cons_succ, List.getElem?_cons_zero] at c6 c11 c12 c13 c14 c15
  have hb2 := (((Below.refl w.heap.size w).alloc (Nat.le_refl _) _).trans (hb.mono (by simp)))
  have Hb := Lib.hid hb2
  clear hown hb hc hb2 hrow
  go_wp2
  go_ret
  exact ⟨rfl, Hb.out⟩
end Go.Proofs.YtcolielkeomglaaDoor
