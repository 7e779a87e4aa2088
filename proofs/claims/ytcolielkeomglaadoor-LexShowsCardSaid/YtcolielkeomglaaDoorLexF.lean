/- lex: Tokens, by its contract. -/
import Derived.Test.YtcolielkeomglaaDoorLexE
import Derived.Laws.BytesArg
set_option maxRecDepth 100000
namespace Go.Proofs.YtcolielkeomglaaDoor
open Go.RowKit

/-- The bytes of a slice. -/
def ByteRow (w : World) (a : Option Addr) (n : Nat) (F : List Int) : Prop :=
  F.length = n ∧ (∀ x ∈ F, 0 ≤ x ∧ x < 256) ∧ (n = 0 ∨ ∃ b o, a = some ⟨b, o, none⟩ ∧ b < w.heap.size ∧ ∀ i, i < n → w.cell? ⟨b, o + i, none⟩ = some (.int .u8 (F.getD i 0)))

theorem ByteRow.below {w w' : World} {a : Option Addr} {n : Nat} {F : List Int} (h : ByteRow w a n F) (hb : Below w.heap.size w w') : ByteRow w' a n F := by
  obtain ⟨h1, h2, h3⟩ := h
  refine ⟨h1, h2, ?_⟩
  rcases h3 with h3 | ⟨b, o, rfl, hlt, hc⟩
  · exact .inl h3
  · exact .inr ⟨b, o, rfl, Nat.lt_of_lt_of_le hlt hb.size, fun i hi => by rw [hb.cell (p := ⟨b, o + i, none⟩) hlt]; exact hc i hi⟩

theorem conv_row {w : World} {x : Option Addr} {n c : Nat} {F : List Int} (h : ByteRow w x n F) (hx : x = none → n = 0 ∧ c = 0) :
    (convert 22 9 (.slice x n c)).run Tryd.prog w = .ok (.string (strOfNums F)) w := by
  obtain ⟨hl, _, hc⟩ := h
  cases x with
  | none =>
    obtain ⟨rfl, rfl⟩ := hx rfl
    obtain rfl : F = [] := List.length_eq_zero_iff.1 hl
    exact run_convert_bytes_nil w 22 5 Tryd.underlying22 Tryd.underlying5 0 0 9 Tryd.underlying9
  | some ad =>
    rcases hc with rfl | ⟨b, o, he, _, hc⟩
    · obtain rfl : F = [] := List.length_eq_zero_iff.1 hl
      rw [run_convert_bytes_string w 22 9 5 _ 0 c Tryd.underlying22 Tryd.underlying5 Tryd.underlying9]
      rw [run_bytesToString w ad 0 c [] rfl]
      rfl
    · cases he
      exact run_convert_bytes_arg w 22 5 Tryd.underlying22 Tryd.underlying5 b o n c F hl hc 9 Tryd.underlying9

/-- A token's cells. -/
def tokCells (t : Tok) : List Value := [.int .i64 t.kind, .int .i64 t.ad, .string ⟨t.text.toArray⟩, .int .u32 t.num]
/-- Tokens' cells. -/
def toksCells (l : List Tok) : List Value := l.flatMap tokCells
theorem toksCells_len (l : List Tok) : (toksCells l).length = l.length * 4 := by
  induction l with
  | nil => rfl
  | cons a l ih => simp only [toksCells, List.flatMap_cons, List.length_append, List.length_cons] at *; simp [tokCells, ih]; omega
theorem toksCells_snoc (l : List Tok) (t : Tok) : toksCells (l ++ [t]) = toksCells l ++ tokCells t := by simp [toksCells]

theorem ownsRow_below {w w' : World} {B : Nat} {e : TypeId} {size : Nat} {v : Value} {n : Nat} {xs : List Value} (h : w.ownsRow B e size v n xs) (hb : Below w.heap.size w w') : w'.ownsRow B e size v n xs := by
  obtain ⟨h1, h2⟩ := h
  refine ⟨h1, ?_⟩
  rcases h2 with h2 | ⟨g, cap, cur, hv, hg, hh, r⟩
  · exact .inl h2
  · exact .inr ⟨g, cap, cur, hv, hg, by rw [hb.block _ (lt_of_block hh)]; exact hh, r⟩

/-- What Tokens returns, tokens being of a type. -/
def LexPost (E : TypeId) (w : World) (s : List UInt8) (e : Ending) (w' : World) : Prop :=
  match lexF s with
  | .inl (c, p) => e = .returned (.tuple #[.slice none 0 0, .int .i64 c, .int .i64 p]) ∧ Below w.heap.size w w'
  | .inr ts => ∃ v, e = .returned (.tuple #[v, .int .i64 0, .int .i64 0]) ∧ w'.ownsRow w.heap.size E 4 v ts.length (toksCells ts) ∧ Below w.heap.size w w'

theorem next_err (s : ByteArray) (k c : Nat) (w : World) (hs : s.size ≤ 1000000) (hk : k < s.size) (hS : HasSigns w) (h : tokF (s.data.toList.drop k) = .inl c) :
    Calls Tryd.prog 15 #[.string s, .int .i64 k] w fun e w' => e = .returned (.tuple #[.agg #[.int .i64 0, .int .i64 0, .string ⟨#[]⟩, .int .u32 0], .int .i64 c]) ∧ Below w.heap.size w w' := by
  have h1 := next_any s k w hs hk hS
  rw [h] at h1
  exact h1
theorem next_ok (s : ByteArray) (k kd n : Nat) (T : ByteArray) (w : World) (hs : s.size ≤ 1000000) (hk : k < s.size) (hS : HasSigns w) (h : tokF (s.data.toList.drop k) = .inr (kd, T.data.toList, n)) :
    Calls Tryd.prog 15 #[.string s, .int .i64 k] w fun e w' => e = .returned (.tuple #[.agg #[.int .i64 kd, .int .i64 k, .string T, .int .u32 n], .int .i64 0]) ∧ Below w.heap.size w w' := by
  have h1 := next_any s k w hs hk hS
  rw [h] at h1
  exact h1

theorem Tryd.infoTok : (Tryd.prog.info? 33).map (fun i => (i.zero, i.size, i.bytes)) = some (some (.agg #[.int .i64 0, .int .i64 0, .string ⟨#[]⟩, .int .u32 0]), 4, 40) := by kernel_rfl

theorem tokens_big (a : Option Addr) (n cap : Nat) (w : World) (hn : 65536 < n) (hn2 : n ≤ 1000000) :
    Calls Tryd.prog 9 #[.slice a n cap] w fun e w' => e = .returned (.tuple #[.slice none 0 0, .int .i64 161, .int .i64 0]) ∧ w' = w := by
  go_enter Tryd.func9, Tryd.ntmps9
  go_wp2
  go_ret3
  exact ⟨rfl, rfl⟩
end Go.Proofs.YtcolielkeomglaaDoor
