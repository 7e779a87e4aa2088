/- lex.Show: what it shows of tokens. -/
import Derived.Test.YtcolielkeomglaaDoorLexS1
import Derived.Test.YtcolielkeomglaaDoorLexShows
set_option maxRecDepth 100000
set_option linter.unusedVariables false
namespace Go.Proofs.YtcolielkeomglaaDoor
open Go.RowKit

theorem showF_take {ts : List Tok} (k : Nat) (hk : k < ts.length) : showF (ts.take (k + 1)) = showF (ts.take k) ++ (if (ts[k]).kind == 4 then [] else (ts[k]).text ++ [32]) := by
  rw [List.take_succ_eq_append_getElem hk, showF_append]
  simp [showF]

theorem showF_take_le (ts : List Tok) (k : Nat) : (showF (ts.take k)).length ≤ (showF ts).length := by
  have := showF_append (ts.take k) (ts.drop k)
  rw [List.take_append_drop] at this
  rw [this, List.length_append]
  omega

theorem isBuilder_below {T e : TypeId} {B b : Nat} {bs : List Value} {w w' : World} {p : Value} (h : Lib.BuilderAt T e B b p bs w) (hw : ∀ k, k < w.heap.size → w'.heap[k]? = w.heap[k]?) (hs : w.heap.size ≤ w'.heap.size) : Lib.BuilderAt T e B b p bs w' := by
  have hlt := h.lt
  obtain ⟨hB, v, hb, hown, hne⟩ := h
  refine ⟨hB, v, by rw [hw b hlt]; exact hb, ?_, hne⟩
  obtain ⟨h1, h2⟩ := hown
  refine ⟨h1, ?_⟩
  rcases h2 with h2 | ⟨g, cap, cur, rfl, hg, hc, h5⟩
  · exact .inl h2
  · right
    have hgl : g < w.heap.size := by
      rcases Nat.lt_or_ge g w.heap.size with h' | h'
      · exact h'
      · simp [Array.getElem?_eq_none h'] at hc
    exact ⟨g, cap, cur, rfl, hg, by rw [hw g hgl]; exact hc, h5⟩

theorem isBuilder_alloc {T e : TypeId} {B b : Nat} {bs : List Value} {w : World} (h : Lib.IsBuilder T e B b bs w) (o : Obj) : Lib.IsBuilder T e B b bs (w.alloc o) := by
  rcases h with h | h
  · exact .inl (isBuilder_below h (fun k hk => Below.heap_alloc w o k hk) (by simp))
  · exact .inr (isBuilder_below h (fun k hk => Below.heap_alloc w o k hk) (by simp))

set_option maxHeartbeats 2000000 in
theorem show_any (g q cg : Nat) (ts : List Tok) (w : World) (hq : q = ts.length) (hg : g < w.heap.size) (hT : ∀ k (hk : k < ts.length), TokAt w g k ts[k]) (hqm : q ≤ 9223372036854775807) (hcg : q ≤ cg) (hlen : (showF ts).length ≤ 40000) :
    Calls Tryd.prog 13 #[.slice (some ⟨g, 0, none⟩) q cg] w fun e w' => e = .returned (.string ⟨(showF ts).toArray⟩) ∧ Below w.heap.size w w' := by
  have HT := Lib.hid hT
  have Hq := Lib.hid hq
  have HL := Lib.hid hlen
  clear hT hq hlen
  go_enter Tryd.func13, Tryd.ntmps13
  go_wp2_with fail
  go_loopw [8] (fun i wr => ∃ k : Nat, k ≤ q ∧ i = .int .i64 k ∧ Lib.IsBuilder 46 5 w.heap.size w.heap.size (Lib.byteCells (showF (ts.take k))) wr ∧ Below w.heap.size w wr) (fun i _ => q - (intOf i).toNat)
  case atStart => exact ⟨0, Nat.zero_le _, rfl, Lib.fresh_isBuilder _ _ _, (Below.refl _ _).alloc (Nat.le_refl _) _⟩
  case round =>
    obtain ⟨k, hk, rfl, hBu, hB⟩ := hrel
    have HB := Lib.hid hB
    have HBu := Lib.hid hBu
    clear hB hBu
    by_cases hlt : k < q
    · have hlt' : k < ts.length := by rw [← Hq.out]; exact hlt
      obtain ⟨a1, a2, a3, a4⟩ := (HT.out k hlt').below HB.out hg
      have hst := Lib.hid (showF_take k hlt')
      have hle := Lib.hid (showF_take_le ts (k + 1))
      generalize ts[k]'hlt' = t at *
      by_cases hkind : t.kind = 4
      · have hk4 : ((t.kind : Int) != 4) = false := by rw [hkind]; rfl
        have hk4' : (t.kind == 4) = true := by rw [hkind]; rfl
        clear hkind
        go_wp2_with fail
        refine ⟨⟨k + 1, by omega, by simp, ?_, HB.out.alloc HB.out.size _⟩, by simp only [intOf]; omega⟩
        rw [hst.out, if_pos hk4', List.append_nil]
        exact isBuilder_alloc HBu.out _
      · have hk4 : ((t.kind : Int) != 4) = true := by simp; omega
        have hk4' : (t.kind == 4) = false := by simpa using hkind
        clear hkind
        obtain ⟨S, hS⟩ : ∃ S, (⟨t.text.toArray⟩ ++ ⟨#[32]⟩ : ByteArray) = S := ⟨_, rfl⟩
        have hsz2 : (⟨t.text.toArray⟩ : ByteArray).size = t.text.length := rfl
        have hsz3 : (⟨#[32]⟩ : ByteArray).size = 1 := rfl
        have hsz : S.size = t.text.length + 1 := by
          rw [← hS, ByteArray.size_append]; rfl
        have hl1 : (showF (ts.take (k + 1))).length = (showF (ts.take k)).length + (t.text.length + 1) := by
          rw [hst.out, if_neg (by rw [hk4']; simp), List.length_append, List.length_append]
          rfl
        have hcells : Lib.byteCells (showF (ts.take k)) ++ Lib.strCells S = Lib.byteCells (showF (ts.take (k + 1))) := by
          rw [hst.out, if_neg (by rw [hk4']; simp), Lib.strCells_eq, ← Lib.byteCells_append, ← hS]
          congr 2
        have hbig : ¬ (9223372036854775807 < t.text.length + 1) := by
          have := HL.out; have := hle.out; omega
        have Hsz := Lib.hid hsz
        have Hl1 := Lib.hid hl1
        have Hcl := Lib.hid hcells
        clear hsz hl1 hcells
        go_wp2_with fail
        refine (writeString_any w.heap.size w.heap.size (Lib.byteCells (showF (ts.take k))) S _ (isBuilder_alloc HBu.out _) (by rw [Lib.byteCells_length, Hsz.out]; have := Hl1.out; have := HL.out; have := hle.out; omega) (by have := HB.out.size; simp; omega)).mono ?_
        rintro e w5 ⟨rfl, hb5, hB5⟩
        rw [Hcl.out] at hb5
        have HB5 := Lib.hid ((HB.out.alloc HB.out.size _).trans hB5)
        have Hb5 := Lib.hid hb5
        clear hb5 hB5
        go_wp2_with fail
        exact ⟨⟨k + 1, by omega, by simp, .inr Hb5.out, HB5.out⟩, by simp only [intOf]; omega⟩
    · have hke : k = q := by omega
      subst hke
      have hBu2 : Hid (Lib.IsBuilder 46 5 w.heap.size w.heap.size (Lib.byteCells (showF ts)) wr) := by
        have := HBu.out
        rw [Hq.out, List.take_length] at this
        exact this
      go_wp2_with fail
      refine (Tryd.Builder_String_any w.heap.size w.heap.size (showF ts) _ hBu2.out HB.out.size).mono ?_
      rintro e w5 ⟨rfl, hB5⟩
      have HB5 := Lib.hid (HB.out.trans hB5)
      clear hB5
      go_wp2_with fail
      go_ret
      exact ⟨rfl, HB5.out⟩
end Go.Proofs.YtcolielkeomglaaDoor
