/- alloc: mapped. -/
import Derived.Test.YtmkencdkglbpbaaDoorAlI
set_option maxRecDepth 100000
set_option linter.unusedVariables false
namespace Go.Proofs.YtmkencdkglbpbaaDoor
open Go.RowKit Go.Maps

theorem LSl.below {w w' : World} {x : Option Addr} {L : List Int} (h : LSl w x L) (hb : Below w.heap.size w w') : LSl w' x L := by
  rcases h with h | ⟨g, e, h⟩
  · exact .inl h
  · exact .inr ⟨g, e, h.below hb⟩
set_option maxHeartbeats 2000000 in
theorem mapped_any {c : AC} {w : World} {Pn : List Int} {N : Nat} {s : AS} (h : AlX c w Pn N s) (x : Option Addr) (n cc : Nat) (L : List Int) (hL : LSl w x L) (hn : L.length = n) (hn2 : n ≤ 1000) :
    Calls Tryd.prog 58 #[.pointer (some ⟨c.ab, 0, none⟩), .slice x n cc] w fun e w' => ∃ v, e = .returned v ∧ w'.ownsRow w.heap.size 3 1 v n (iCells (L.map fun u => idxV s.G u 0)) ∧ Below w.heap.size w w' := by
  obtain ⟨i0, hi, hz0, hz1, hz2⟩ := info_parts Tryd.infoInt
  have HA := Lib.hid h
  have HL := Lib.hid hL
  have HN := Lib.hid hn
  obtain ⟨f, hf⟩ : ∃ f : Int → Int, f = fun u => idxV s.G u 0 := ⟨_, rfl⟩
  rw [← hf]
  have HW : Hid (∀ wr v, Below w.heap.size w wr → Calls Tryd.prog 67 #[.pointer (some ⟨c.ab, 0, none⟩), .int .i64 v] wr fun e w' => e = .returned (.int .i64 (f v)) ∧ w' = wr) := fun wr v hb => by
    rw [hf]; exact (HA.out.below hb).where_ v
  clear h hL hn hf
  go_enter Tryd.func58, Tryd.ntmps58
  go_wp2_with fail
  go_loopw [5, 10] (fun l i wr => ∃ k : Nat, k ≤ n ∧ i = .int .i64 k ∧ wr.ownsRow w.heap.size 3 1 l k (iCells ((L.take k).map f)) ∧ Below w.heap.size w wr) (fun _ i _ => n - (intOf i).toNat)
  case atStart => exact ⟨0, Nat.zero_le _, rfl, World.ownsRow_nil _ _ _ _, Below.refl _ _⟩
  case round =>
    obtain ⟨k, hk, rfl, hown, hB⟩ := hrel
    have HB := Lib.hid hB
    have Hown := Lib.hid hown
    have hsz := HB.out.size
    have hls := (HA.out.below hB).lt
    clear hown hB
    by_cases hlt : k < n
    · have hlt' : k < L.length := by rw [HN.out]; exact hlt
      obtain ⟨g, rfl, hI⟩ := HL.out.resolve_left (fun e => by rw [e] at hlt'; simp at hlt')
      have c0 := (HB.out.cell (p := ⟨g, 0 + k, none⟩) hI.1).trans (hI.2 k hlt')
      rw [Nat.zero_add] at c0
      have hgl := Nat.lt_of_lt_of_le hI.1 HB.out.size
      have hst : L.take (k + 1) = L.take k ++ [L[k]] := List.take_succ_eq_append_getElem hlt'
      generalize L[k]'hlt' = X at c0 hst
      have Hst := Lib.hid hst
      have wq : IntKind.i64.wrap ((k : Int) + 1) = (k : Int) + 1 := IntWalk.i64_in _ (by omega)
      have HWX := Lib.hid (HW.out wr X HB.out)
      clear hst hI
      generalize hY : f X = Y at HWX
      have HY := Lib.hid hY
      clear hY
      go_wp2_with fail
      refine HWX.out.mono ?_
      rintro e w2 ⟨rfl, rfl⟩
      go_wp2_with (at_builtin; refine wpList_append_own _ rfl (.tmp 14) (.tmp 18) 41 rfl w.heap.size 3 i0 (.int .i64 0) 1 8 Tryd.underlying41 hi hz0 hz1 hz2 rfl (by decide) _ _ _ rfl (Hown.out.alloc _) ⟨w2.heap.size, 0, none⟩ 1 1 [.int .i64 Y] rfl rfl ?c1 ?c2 ?c3 ?c4 ?c5 ?_)
      case c1 => exact i_new _ _ Y rfl
      case c2 => exact i_one _
      case c3 => unfold maxLen; omega
      case c4 => omega
      case c5 => simp; omega
      intro v' w3 hown3 hgrow3 _
      have hne := (Hown.out.alloc (.cells #[.int .i64 Y] 3)).lt
      have HB3 := Lib.hid ((HB.out.alloc HB.out.size (.cells #[.int .i64 Y] 3)).grown hgrow3 (by simp; omega) (fun b e => (hne b e).1))
      have Hown3 := Lib.hid hown3
      clear hown3 hgrow3 hne
      go_wp2_with fail
      refine ⟨⟨k + 1, by omega, by simp, ?_, HB3.out⟩, by simp only [intOf]; omega⟩
      rw [Hst.out, List.map_append, iCells, List.map_append, List.map_singleton, List.map_singleton, HY.out]
      have h3 := Hown3.out
      rw [← List.map_take] at h3
      exact h3
    · have hkq : k = n := by omega
      have htk : L.take k = L := by rw [hkq, ← HN.out, List.take_length]
      have hown4 := Hown.out
      rw [htk, hkq] at hown4
      have Hown4 := Lib.hid hown4
      clear hown4 htk
      go_wp2_with fail
      go_ret
      exact ⟨_, rfl, Hown4.out, HB.out⟩

/-- freed up to a place. -/
def freeK (nx : Int → Int) (n : Int) (L : List Int) (k : Nat) : List Int := freeF nx n (L.take k) ++ L.drop k
theorem freeK_zero (nx : Int → Int) (n : Int) (L : List Int) : freeK nx n L 0 = L := by simp [freeK, freeF]
theorem freeK_all (nx : Int → Int) (n : Int) (L : List Int) (k : Nat) (hk : k = L.length) : freeK nx n L k = freeF nx n L := by simp [freeK, hk]
theorem freeK_length (nx : Int → Int) (n : Int) (L : List Int) (k : Nat) (hk : k ≤ L.length) : (freeK nx n L k).length = L.length := by simp [freeK, freeF]; omega
theorem freeK_at (nx : Int → Int) (n : Int) (L : List Int) (k : Nat) (hk : k < L.length) (h2 : k < (freeK nx n L k).length) : (freeK nx n L k)[k] = L[k] := by
  have : (freeK nx n L k)[k]? = L[k]? := by
    unfold freeK
    rw [List.getElem?_append_right (by simp [freeF]; omega)]
    simp [freeF, Nat.min_eq_left (Nat.le_of_lt hk)]
  rw [List.getElem?_eq_getElem h2, List.getElem?_eq_getElem hk] at this
  injection this
theorem freeK_keep (nx : Int → Int) (n : Int) (L : List Int) (k : Nat) (hk : k < L.length) (h : ¬(L[k] ≠ -1 ∧ nx L[k] = n)) : freeK nx n L (k + 1) = freeK nx n L k := by
  unfold freeK
  rw [List.take_succ_eq_append_getElem hk, List.drop_eq_getElem_cons hk]
  simp only [freeF, List.map_append, List.map_cons, List.map_nil, if_neg h, List.append_assoc, List.singleton_append]
theorem freeK_free (nx : Int → Int) (n : Int) (L : List Int) (k : Nat) (hk : k < L.length) (h : L[k] ≠ -1 ∧ nx L[k] = n) : freeK nx n L (k + 1) = (freeK nx n L k).set k (-1) := by
  unfold freeK
  rw [List.take_succ_eq_append_getElem hk, List.drop_eq_getElem_cons hk]
  simp only [freeF, List.map_append, List.map_cons, List.map_nil, if_pos h, List.append_assoc, List.singleton_append]
  rw [List.set_append_right _ _ (by simp; omega)]
  simp [Nat.min_eq_left (Nat.le_of_lt hk)]
  rw [List.drop_eq_getElem_cons hk, List.set_cons_zero]
end Go.Proofs.YtmkencdkglbpbaaDoor
