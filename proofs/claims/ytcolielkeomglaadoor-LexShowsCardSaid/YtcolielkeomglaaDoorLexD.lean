/- lex: signs, by contracts: over the table that the program's text lays. -/
import Derived.Test.YtcolielkeomglaaDoorLexC
set_option maxRecDepth 100000
namespace Go.Proofs.YtcolielkeomglaaDoor
open Go.RowKit

def signB (k : Nat) : ByteArray := ⟨(signs.getD k []).toArray⟩
/-- The table's cells. -/
def signArr : Array Value := #[.string (signB 0), .string (signB 1), .string (signB 2), .string (signB 3), .string (signB 4), .string (signB 5), .string (signB 6), .string (signB 7), .string (signB 8), .string (signB 9), .string (signB 10), .string (signB 11), .string (signB 12), .string (signB 13), .string (signB 14), .string (signB 15), .string (signB 16), .string (signB 17), .string (signB 18), .string (signB 19), .string (signB 20), .string (signB 21), .string (signB 22), .string (signB 23), .string (signB 24), .string (signB 25)]
/-- The table lies as the text lays it. -/
def HasSigns (w : World) : Prop := ∃ t fr, w.heap[0]? = some (.cells signArr t fr)

theorem HasSigns.below {w w' : World} (h : HasSigns w) (hb : Below w.heap.size w w') : HasSigns w' := by
  obtain ⟨t, fr, h⟩ := h
  exact ⟨t, fr, by rw [hb.block _ (lt_of_block h)]; exact h⟩
theorem HasSigns.drawn {w w' : World} (h : HasSigns w) (hb : Drawn w w') : HasSigns w' := by
  obtain ⟨n, rfl⟩ := hb
  exact h

theorem index_sign (k : Nat) (h : k < 26) (w : World) : (Instr.index 56 (.agg signArr) (.int .i64 k)).run Tryd.prog w = .ok (.string (signB k)) w := by
  have : k = 0 ∨ k = 1 ∨ k = 2 ∨ k = 3 ∨ k = 4 ∨ k = 5 ∨ k = 6 ∨ k = 7 ∨ k = 8 ∨ k = 9 ∨ k = 10 ∨ k = 11 ∨ k = 12 ∨ k = 13 ∨ k = 14 ∨ k = 15 ∨ k = 16 ∨ k = 17 ∨ k = 18 ∨ k = 19 ∨ k = 20 ∨ k = 21 ∨ k = 22 ∨ k = 23 ∨ k = 24 ∨ k = 25 := by omega
  rcases this with rfl | rfl | rfl | rfl | rfl | rfl | rfl | rfl | rfl | rfl | rfl | rfl | rfl | rfl | rfl | rfl | rfl | rfl | rfl | rfl | rfl | rfl | rfl | rfl | rfl | rfl <;> (show _ = _; kernel_rfl)

theorem sign_pre (s : ByteArray) (k : Nat) (w : World) (b : Bool) (h : (signs.getD k []).isPrefixOf s.data.toList = b) :
    Calls Tryd.prog 24 #[.string s, .string (signB k)] w fun e w' => e = .returned (.bool b) ∧ w' = w := by
  have h1 := Tryd.strings_HasPrefix s (signB k) w
  have e : Lib.hasPrefix s.data.toList (signB k).data.toList = b := h
  rw [e] at h1
  exact h1

theorem find_drop {α : Type} (p : α → Bool) (l : List α) (k : Nat) (d : α) (hk : k < l.length) : (p (l.getD k d) = true → (l.drop k).find? p = some (l.getD k d)) ∧ (p (l.getD k d) = false → (l.drop k).find? p = (l.drop (k + 1)).find? p) := by
  rw [List.drop_eq_getElem_cons hk, List.getD_eq_getElem?_getD, List.getElem?_eq_getElem hk]
  simp only [Option.getD_some, List.find?_cons]
  exact ⟨fun h => by rw [h], fun h => by rw [h]⟩

theorem sign_any (s : ByteArray) (w : World) (hS : HasSigns w) :
    Calls Tryd.prog 28 #[.string s] w fun e w' => e = .returned (.string ⟨(signF s.data.toList).toArray⟩) ∧ w' = w := by
  obtain ⟨t, fr, hS⟩ := hS
  have hu : Tryd.prog.underlying 56 = some (.array 26 9) := by kernel_rfl
  have hsz : (Tryd.prog.info? 56).map (·.size) = some signArr.size := by kernel_rfl
  have HS := Lib.hid hS
  have HZ := Lib.hid hsz
  clear hS hsz
  go_enter Tryd.func28, Tryd.ntmps28
  go_wp2_with (with_reducible refine wpList_load_row rfl 56 (.global 0) rfl 0 rfl t signArr fr _ HS.out hu rfl HZ.out ?_)
  have hlen : signs.length = 26 := rfl
  go_loop [6] (fun i => ∃ k : Nat, k ≤ 26 ∧ i = .int .i64 k ∧ Hid ((signs.drop k).find? (·.isPrefixOf s.data.toList) = signs.find? (·.isPrefixOf s.data.toList))) (fun i => 26 - (intOf i).toNat)
  case atStart => exact ⟨0, by omega, rfl, rfl⟩
  case round =>
    obtain ⟨k, hk, rfl, Hf⟩ := hrel
    by_cases hlt : k < 26
    · obtain ⟨f1, f2⟩ := find_drop (fun x => x.isPrefixOf s.data.toList) signs k [] (by rw [hlen]; exact hlt)
      have F1 := Lib.hid f1
      have F2 := Lib.hid f2
      have hx := index_sign k hlt
      clear f1 f2 hlen
      by_cases hb : (signs.getD k []).isPrefixOf s.data.toList = true
      · have HB := Lib.hid hb
        clear hb
        go_wp2_with (go_at_call 24; refine (sign_pre s k _ true HB.out).mono ?_; rintro e w' ⟨rfl, rfl⟩)
        go_ret
        refine ⟨?_, rfl⟩
        unfold signF
        rw [← Hf.out, F1.out HB.out]
        rfl
      · have HB := Lib.hid ((Bool.not_eq_true _).mp hb)
        clear hb
        go_wp2_with (go_at_call 24; refine (sign_pre s k _ false HB.out).mono ?_; rintro e w' ⟨rfl, rfl⟩)
        go_round
        case rel => exact ⟨k + 1, by omega, by go_num, by rw [← Hf.out, F2.out HB.out]; rfl⟩
        case measure => simp [intOf]; omega
    · obtain rfl : k = 26 := by omega
      clear hlen
      go_wp2
      go_ret
      refine ⟨?_, rfl⟩
      unfold signF
      rw [← Hf.out]
      rfl
end Go.Proofs.YtcolielkeomglaaDoor
