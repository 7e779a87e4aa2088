/- The document's answer of chapter 09: signLen, by its contract. -/
import Derived.Test.YtcolielkeomglaaDoorRefA
import Derived.Test.YtcolielkeomglaaDoorLexD
import Derived.IntWalk
import Derived.Deep.WholeRow
set_option maxRecDepth 100000
namespace Go.Proofs.YtcolielkeomglaaDoor
open Go.RowKit

def rsigns : List (List UInt8) := [[60, 60, 60], [45, 62], [46, 46], [61, 61], [60, 60], [62, 62], [60], [40], [41], [123], [125], [91], [93], [44], [59], [58], [61], [43], [45], [42], [47], [37], [38], [124], [94], [126]]
def rsignB (k : Nat) : ByteArray := ⟨(rsigns.getD k []).toArray⟩

theorem rsigns_find (l : List UInt8) : rsigns.find? (·.isPrefixOf l) = signs.find? (·.isPrefixOf l) := by
  by_cases h : [60, 60, 60].isPrefixOf l = true
  · match l, h with
    | [], h => simp at h
    | [a], h => simp [List.isPrefixOf] at h
    | [a, b], h => simp [List.isPrefixOf] at h
    | a :: b :: c :: r, h =>
      simp [List.isPrefixOf] at h
      obtain ⟨rfl, rfl, rfl⟩ := h
      simp [rsigns, signs]
  · have h' : [60, 60, 60].isPrefixOf l = false := (Bool.not_eq_true _).mp h
    simp only [rsigns, signs, List.find?_cons, h']

theorem rsign_cell (w : World) (k : Nat) (h : k < 26) : (w.alloc (Obj.cells #[Value.string { data := #[60, 60, 60] }, Value.string { data := #[45, 62] }, Value.string { data := #[46, 46] }, Value.string { data := #[61, 61] }, Value.string { data := #[60, 60] }, Value.string { data := #[62, 62] }, Value.string { data := #[60] }, Value.string { data := #[40] }, Value.string { data := #[41] }, Value.string { data := #[123] }, Value.string { data := #[125] }, Value.string { data := #[91] }, Value.string { data := #[93] }, Value.string { data := #[44] }, Value.string { data := #[59] }, Value.string { data := #[58] }, Value.string { data := #[61] }, Value.string { data := #[43] }, Value.string { data := #[45] }, Value.string { data := #[42] }, Value.string { data := #[47] }, Value.string { data := #[37] }, Value.string { data := #[38] }, Value.string { data := #[124] }, Value.string { data := #[94] }, Value.string { data := #[126] }] 56)).cell? ⟨w.heap.size, k, none⟩ = some (.string (rsignB k)) := by
  rw [World.cell?_alloc_at _ _ _ _ rfl]
  have : k = 0 ∨ k = 1 ∨ k = 2 ∨ k = 3 ∨ k = 4 ∨ k = 5 ∨ k = 6 ∨ k = 7 ∨ k = 8 ∨ k = 9 ∨ k = 10 ∨ k = 11 ∨ k = 12 ∨ k = 13 ∨ k = 14 ∨ k = 15 ∨ k = 16 ∨ k = 17 ∨ k = 18 ∨ k = 19 ∨ k = 20 ∨ k = 21 ∨ k = 22 ∨ k = 23 ∨ k = 24 ∨ k = 25 := by omega
  rcases this with rfl | rfl | rfl | rfl | rfl | rfl | rfl | rfl | rfl | rfl | rfl | rfl | rfl | rfl | rfl | rfl | rfl | rfl | rfl | rfl | rfl | rfl | rfl | rfl | rfl | rfl <;> rfl

theorem extract_eq_iff (s : ByteArray) (k n : Nat) (t : List UInt8) (hn : t.length = n) (_ : k + n ≤ s.size) :
    ((s.extract k (k + n)).toList == (ByteArray.mk t.toArray).toList) = t.isPrefixOf (s.data.toList.drop k) := by
  rw [Bool.eq_iff_iff, beq_iff_eq, ByteArray.toList_eq, ByteArray.toList_eq, List.isPrefixOf_iff_prefix, Lib.extract_data, Nat.add_sub_cancel_left]
  rw [List.prefix_iff_eq_take, hn]
  exact eq_comm
theorem not_prefix (s : ByteArray) (k n : Nat) (t : List UInt8) (hn : t.length = n) (hp : k < s.size) (hk : s.size < k + n) : t.isPrefixOf (s.data.toList.drop k) = false := by
  rw [← Bool.not_eq_true]
  intro h
  have := prefix_le h
  rw [List.length_drop, ← Lib.size_eq] at this
  omega

set_option maxHeartbeats 2000000 in
theorem signLen_any (s : ByteArray) (p : Nat) (w : World) (hs : s.size ≤ 1000000) (hp : p < s.size) :
    Calls Tryd.prog 20 #[.string s, .int .i64 p] w fun e w' => e = .returned (.int .i64 (signF (s.data.toList.drop p)).length) ∧ Below w.heap.size w w' := by
  have hc := rsign_cell w
  have hsz : (Tryd.prog.info? 56).map (·.size) = some (#[Value.string { data := #[60, 60, 60] }, Value.string { data := #[45, 62] }, Value.string { data := #[46, 46] }, Value.string { data := #[61, 61] }, Value.string { data := #[60, 60] }, Value.string { data := #[62, 62] }, Value.string { data := #[60] }, Value.string { data := #[40] }, Value.string { data := #[41] }, Value.string { data := #[123] }, Value.string { data := #[125] }, Value.string { data := #[91] }, Value.string { data := #[93] }, Value.string { data := #[44] }, Value.string { data := #[59] }, Value.string { data := #[58] }, Value.string { data := #[61] }, Value.string { data := #[43] }, Value.string { data := #[45] }, Value.string { data := #[42] }, Value.string { data := #[47] }, Value.string { data := #[37] }, Value.string { data := #[38] }, Value.string { data := #[124] }, Value.string { data := #[94] }, Value.string { data := #[126] }] : Array Value).size := by kernel_rfl
  have HZ := Lib.hid hsz
  clear hsz
  have hb : Below w.heap.size w (w.alloc (Obj.cells #[Value.string { data := #[60, 60, 60] }, Value.string { data := #[45, 62] }, Value.string { data := #[46, 46] }, Value.string { data := #[61, 61] }, Value.string { data := #[60, 60] }, Value.string { data := #[62, 62] }, Value.string { data := #[60] }, Value.string { data := #[40] }, Value.string { data := #[41] }, Value.string { data := #[123] }, Value.string { data := #[125] }, Value.string { data := #[91] }, Value.string { data := #[93] }, Value.string { data := #[44] }, Value.string { data := #[59] }, Value.string { data := #[58] }, Value.string { data := #[61] }, Value.string { data := #[43] }, Value.string { data := #[45] }, Value.string { data := #[42] }, Value.string { data := #[47] }, Value.string { data := #[37] }, Value.string { data := #[38] }, Value.string { data := #[124] }, Value.string { data := #[94] }, Value.string { data := #[126] }] 56)) := (Below.refl _ _).alloc (Nat.le_refl _) _
  go_enter Tryd.func20, Tryd.ntmps20
  iterate 17 go_step
  refine wpList_store_row rfl 56 (.tmp 5) (.tmp 8) rfl w.heap.size #[Value.string { data := #[60, 60, 60] }, Value.string { data := #[45, 62] }, Value.string { data := #[46, 46] }, Value.string { data := #[61, 61] }, Value.string { data := #[60, 60] }, Value.string { data := #[62, 62] }, Value.string { data := #[60] }, Value.string { data := #[40] }, Value.string { data := #[41] }, Value.string { data := #[123] }, Value.string { data := #[125] }, Value.string { data := #[91] }, Value.string { data := #[93] }, Value.string { data := #[44] }, Value.string { data := #[59] }, Value.string { data := #[58] }, Value.string { data := #[61] }, Value.string { data := #[43] }, Value.string { data := #[45] }, Value.string { data := #[42] }, Value.string { data := #[47] }, Value.string { data := #[37] }, Value.string { data := #[38] }, Value.string { data := #[124] }, Value.string { data := #[94] }, Value.string { data := #[126] }] rfl rfl 56 #[Value.string { data := #[] }, Value.string { data := #[] }, Value.string { data := #[] }, Value.string { data := #[] }, Value.string { data := #[] }, Value.string { data := #[] }, Value.string { data := #[] }, Value.string { data := #[] }, Value.string { data := #[] }, Value.string { data := #[] }, Value.string { data := #[] }, Value.string { data := #[] }, Value.string { data := #[] }, Value.string { data := #[] }, Value.string { data := #[] }, Value.string { data := #[] }, Value.string { data := #[] }, Value.string { data := #[] }, Value.string { data := #[] }, Value.string { data := #[] }, Value.string { data := #[] }, Value.string { data := #[] }, Value.string { data := #[] }, Value.string { data := #[] }, Value.string { data := #[] }, Value.string { data := #[] }] (heap_alloc_last _ _) HZ.out rfl (by kernel_rfl) ?_
  rw [World.setRow_alloc_new]
  go_wp2
  generalize w.alloc (Obj.cells #[Value.string { data := #[60, 60, 60] }, Value.string { data := #[45, 62] }, Value.string { data := #[46, 46] }, Value.string { data := #[61, 61] }, Value.string { data := #[60, 60] }, Value.string { data := #[62, 62] }, Value.string { data := #[60] }, Value.string { data := #[40] }, Value.string { data := #[41] }, Value.string { data := #[123] }, Value.string { data := #[125] }, Value.string { data := #[91] }, Value.string { data := #[93] }, Value.string { data := #[44] }, Value.string { data := #[59] }, Value.string { data := #[58] }, Value.string { data := #[61] }, Value.string { data := #[43] }, Value.string { data := #[45] }, Value.string { data := #[42] }, Value.string { data := #[47] }, Value.string { data := #[37] }, Value.string { data := #[38] }, Value.string { data := #[124] }, Value.string { data := #[94] }, Value.string { data := #[126] }] 56) = W at *
  generalize Value.agg #[Value.string { data := #[60, 60, 60] }, Value.string { data := #[45, 62] }, Value.string { data := #[46, 46] }, Value.string { data := #[61, 61] }, Value.string { data := #[60, 60] }, Value.string { data := #[62, 62] }, Value.string { data := #[60] }, Value.string { data := #[40] }, Value.string { data := #[41] }, Value.string { data := #[123] }, Value.string { data := #[125] }, Value.string { data := #[91] }, Value.string { data := #[93] }, Value.string { data := #[44] }, Value.string { data := #[59] }, Value.string { data := #[58] }, Value.string { data := #[61] }, Value.string { data := #[43] }, Value.string { data := #[45] }, Value.string { data := #[42] }, Value.string { data := #[47] }, Value.string { data := #[37] }, Value.string { data := #[38] }, Value.string { data := #[124] }, Value.string { data := #[94] }, Value.string { data := #[126] }] = A8
  have HC := Lib.hid hc
  have HB := Lib.hid hb
  clear hc hb
  go_loopw [6] (fun i wr => ∃ k : Nat, k ≤ 26 ∧ i = .int .i64 k ∧ Drawn W wr ∧ Hid ((rsigns.drop k).find? (·.isPrefixOf (s.data.toList.drop p)) = rsigns.find? (·.isPrefixOf (s.data.toList.drop p)))) (fun i _ => 26 - (intOf i).toNat)
  case atStart => exact ⟨0, by omega, rfl, Drawn.refl _, rfl⟩
  case round =>
    obtain ⟨k, hk, rfl, ⟨nd, rfl⟩, Hf⟩ := hrel
    by_cases hlt : k < 26
    · obtain ⟨f1, f2⟩ := find_drop (fun x => x.isPrefixOf (s.data.toList.drop p)) rsigns k [] hlt
      have hcell := HC.out k hlt
      obtain ⟨n, hn⟩ : ∃ n, n = (rsigns.getD k []).length := ⟨_, rfl⟩
      have hsz : (rsignB k).size = n := by rw [Lib.size_eq, hn]; rfl
      have hnb : n ≤ 3 := by
        rw [hn]
        have : k = 0 ∨ k = 1 ∨ k = 2 ∨ k = 3 ∨ k = 4 ∨ k = 5 ∨ k = 6 ∨ k = 7 ∨ k = 8 ∨ k = 9 ∨ k = 10 ∨ k = 11 ∨ k = 12 ∨ k = 13 ∨ k = 14 ∨ k = 15 ∨ k = 16 ∨ k = 17 ∨ k = 18 ∨ k = 19 ∨ k = 20 ∨ k = 21 ∨ k = 22 ∨ k = 23 ∨ k = 24 ∨ k = 25 := by omega
        rcases this with rfl | rfl | rfl | rfl | rfl | rfl | rfl | rfl | rfl | rfl | rfl | rfl | rfl | rfl | rfl | rfl | rfl | rfl | rfl | rfl | rfl | rfl | rfl | rfl | rfl | rfl <;> decide
      have he := extract_eq_iff s p n (rsigns.getD k []) hn.symm
      have hnp := not_prefix s p n (rsigns.getD k []) hn.symm hp
      have F1 := Lib.hid f1
      have F2 := Lib.hid f2
      have Hn := Lib.hid hn
      have HE := Lib.hid he
      have HNP := Lib.hid hnp
      clear f1 f2 hn he hnp
      by_cases hfit : p + n ≤ s.size
      · by_cases hq : (rsigns.getD k []).isPrefixOf (s.data.toList.drop p) = true
        · have hx : ((s.extract p (p + n)).toList == (rsignB k).toList) = true := (HE.out hfit).trans hq
          have HQ := Lib.hid hq
          clear hq
          go_wp2_with fail
          have hw1 : IntKind.i64.wrap ((p : Int) + n) = p + n := IntWalk.i64_in _ (by omega)
          have hw2 : (0 : Int) ≤ (p : Int) + n := by omega
          have hw3 : ((p : Int) + n).toNat = p + n := by omega
          have hw4 : (p : Int) + n ≤ s.size := by omega
          have hw5 : decide ((p : Int) + n ≤ s.size) = true := by simpa using hw4
          have hw6 : (k : Int) < 26 := by omega
          go_quiet (fail)
          clear hw1 hw2 hw3 hw5
          go_wp2
          go_ret
          refine ⟨?_, below_drawn HB.out (Drawn.more ⟨nd, rfl⟩ _)⟩
          unfold signF
          rw [← rsigns_find, ← Hf.out, F1.out HQ.out, Hn.out]
          rfl
        · have hx : ((s.extract p (p + n)).toList == (rsignB k).toList) = false := (HE.out hfit).trans ((Bool.not_eq_true _).mp hq)
          have HQ := Lib.hid ((Bool.not_eq_true _).mp hq)
          clear hq
          go_wp2_with fail
          have hw1 : IntKind.i64.wrap ((p : Int) + n) = p + n := IntWalk.i64_in _ (by omega)
          have hw2 : (0 : Int) ≤ (p : Int) + n := by omega
          have hw3 : ((p : Int) + n).toNat = p + n := by omega
          have hw4 : (p : Int) + n ≤ s.size := by omega
          have hw5 : decide ((p : Int) + n ≤ s.size) = true := by simpa using hw4
          have hw6 : (k : Int) < 26 := by omega
          go_quiet (fail)
          clear hw1 hw2 hw3 hw5
          go_wp2
          go_roundw
          case rel => exact ⟨k + 1, by omega, by go_num, ⟨_, rfl⟩, by rw [← Hf.out, F2.out HQ.out]; rfl⟩
          case measure => simp [intOf]; omega
      · have HQ := Lib.hid (HNP.out (by omega))
        have hd : decide ((p : Int) + n ≤ s.size) = false := by simp; omega
        go_wp2_with fail
        have hw1 : IntKind.i64.wrap ((p : Int) + n) = p + n := IntWalk.i64_in _ (by omega)
        go_quiet (fail)
        clear hw1
        go_wp2
        go_roundw
        case rel => exact ⟨k + 1, by omega, by go_num, ⟨_, rfl⟩, by rw [← Hf.out, F2.out HQ.out]; rfl⟩
        case measure => simp [intOf]; omega
    · obtain rfl : k = 26 := by omega
      go_wp2
      go_ret
      refine ⟨?_, below_drawn HB.out ⟨_, rfl⟩⟩
      unfold signF
      rw [← rsigns_find, ← Hf.out]
      rfl
end Go.Proofs.YtcolielkeomglaaDoor
