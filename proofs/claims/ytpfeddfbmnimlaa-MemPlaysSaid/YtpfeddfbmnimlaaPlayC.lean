/- The document's memory of chapter 06: Store by its contract. -/
import Derived.Test.YtpfeddfbmnimlaaPlayB
set_option maxRecDepth 100000
set_option linter.unusedVariables false
namespace Go.Proofs.Ytpfeddfbmnimlaa
open Go.RowKit

theorem Try.infoW : (Try.prog.info? 54).map (fun i => (i.zero, i.size, i.bytes)) = some (some (.agg #[.int .u32 0, .int .u32 0]), 2, 8) := by kernel_rfl

def lCells (L : List (Int × Int)) : List Value := L.flatMap fun p => [.int .u32 p.1, .int .u32 p.2]
theorem lCells_snoc (L : List (Int × Int)) (p : Int × Int) : lCells (L ++ [p]) = lCells L ++ [.int .u32 p.1, .int .u32 p.2] := by simp [lCells]
theorem lCells_len : ∀ (L : List (Int × Int)), (lCells L).length = L.length * 2
  | [] => rfl
  | p :: L => by
    have h := lCells_len L
    have e : lCells (p :: L) = .int .u32 p.1 :: .int .u32 p.2 :: lCells L := rfl
    rw [e]; simp only [List.length_cons, h]; omega
theorem lCells_get : ∀ (L : List (Int × Int)) (i : Nat) (h : i < L.length), (lCells L)[i * 2]? = some (.int .u32 (L[i]).1) ∧ (lCells L)[i * 2 + 1]? = some (.int .u32 (L[i]).2)
  | [], i, h => by simp at h
  | p :: L, 0, h => ⟨rfl, rfl⟩
  | p :: L, i + 1, h => by
    have ih := lCells_get L i (by simpa using h)
    have e : lCells (p :: L) = .int .u32 p.1 :: .int .u32 p.2 :: lCells L := rfl
    rw [e, show (i + 1) * 2 = i * 2 + 2 from by omega, show i * 2 + 2 + 1 = i * 2 + 1 + 2 from by omega]
    exact ih

theorem lRow_of_own {w : World} {B E : Nat} {v : Value} {L : List (Int × Int)} (h : w.ownsRow B E 2 v L.length (lCells L)) : ∃ lx lc, v = .slice lx L.length lc ∧ LRow w lx L.length L ∧ L.length ≤ lc := by
  rcases h.2 with ⟨rfl, h0⟩ | ⟨g, cap, cur, rfl, hg, hh, hc, _⟩
  · exact ⟨none, 0, by rw [h0], ⟨rfl, .inl h0⟩, by omega⟩
  · refine ⟨_, cap, rfl, ⟨rfl, .inr ⟨g, rfl, lt_of_block hh, fun i hi => ?_⟩⟩, hc⟩
    obtain ⟨c0, c1⟩ := lCells_get L i hi
    exact ⟨(h.cellAt (i * 2) (by omega)).trans c0, (h.cellAt (i * 2 + 1) (by omega)).trans c1⟩

theorem w_new (W : World) (b : Nat) (p x : Int) (hb : b = W.heap.size) : ∀ (j : Nat) (u : Value), ([.int .u32 p, .int .u32 x] : List Value)[j]? = some u →
    (W.alloc (.cells #[.int .u32 p, .int .u32 x] 54)).cell? ((⟨b, 0, none⟩ : Addr).add j) = some u := by
  subst hb
  intro j u hj
  match j, hj with
  | 0, hj => simp at hj; subst hj; simp [Addr.add]
  | 1, hj => simp at hj; subst hj; simp [Addr.add]
theorem w_one (p x : Int) : ∀ u ∈ ([.int .u32 p, .int .u32 x] : List Value), u.oneCell' = true := by
  intro u hu
  simp at hu
  rcases hu with rfl | rfl <;> rfl

/-- Where words lie: not in block z. -/
def Apart (lx : Option Addr) (z : Nat) : Prop := ∀ g, lx = some ⟨g, 0, none⟩ → g ≠ z

/-- What the document's Store leaves. -/
def StoreR (w : World) (a : Option Addr) (n cap : Nat) (lx : Option Addr) (L : List (Int × Int)) (ad x : Int) (e : Ending) (w' : World) : Prop :=
  ∃ lx' q' lc', e = .returned (.tuple #[.agg #[.slice a n cap, .slice lx' q' lc'], .int .i64 (storeE ad)]) ∧ LRow w' lx' q' (refL L ad x) ∧ q' ≤ lc' ∧ Below w.heap.size w w' ∧ (lx' = lx ∨ ∀ g, lx' = some ⟨g, 0, none⟩ → w.heap.size ≤ g)

theorem refStore_no (a : Option Addr) (n cap : Nat) (lx : Option Addr) (q lc : Nat) (L : List (Int × Int)) (ad x : Int) (w : World) (hL : LRow w lx q L) (hq : q ≤ lc) (h0 : 0 ≤ ad) (h1 : ad < 4294967296) (hE : storeE ad ≠ 0) :
    Calls Try.prog 16 #[.agg #[.slice a n cap, .slice lx q lc], .int .u32 ad, .int .u32 x] w (StoreR w a n cap lx L ad x) := by
  have hend : ∀ w', Below w.heap.size w w' → StoreR w a n cap lx L ad x (.returned (.tuple #[.agg #[.slice a n cap, .slice lx q lc], .int .i64 (storeE ad)])) w' := fun w' hb =>
    ⟨lx, q, lc, rfl, by rw [refL, if_neg hE]; exact hL.below hb, hq, hb, .inl rfl⟩
  have Hend := Lib.hid hend
  clear hend hL
  have hBB : Below w.heap.size w ((w.alloc (.cells #[.slice a n cap, .slice lx q lc] 45)).alloc (.cells #[.slice a n cap, .slice lx q lc] 45)) := ((Below.refl _ w).alloc (Nat.le_refl _) _).alloc (by simp) _
  have HBB := Lib.hid hBB
  clear hBB
  by_cases h4 : ad % 4 ≠ 0
  · have hv : storeE ad = 60 := by unfold storeE; rw [if_pos h4]
    have e1 : (ad % 4 != 0) = true := by simpa using h4
    have e2 : (Int.tmod ad 4 != 0) = true := by rw [Int.tmod_eq_emod_of_nonneg h0]; exact e1
    rw [hv] at Hend
    clear hv hE h4
    go_enter Try.func16, Try.ntmps16
    go_wp2
    refine ⟨rfl, .tuple #[.agg #[.slice a n cap, .slice lx q lc], .int .i64 60], ?_, Hend.out _ HBB.out⟩
    simp [results, Try.f16, go_sem]
  · have e1 : ad % 4 = 0 := by omega
    have e2 : Int.tmod ad 4 = 0 := by rw [Int.tmod_eq_emod_of_nonneg h0]; exact e1
    by_cases hfl : 134217728 ≤ ad ∧ ad < 134283264
    · have hv : storeE ad = 62 := by unfold storeE; rw [if_neg h4, if_pos hfl]
      have d1 : decide ((134217728 : Int) ≤ ad) = true := by simpa using hfl.1
      have d2 : decide (ad < 134283264) = true := by simpa using hfl.2
      rw [hv] at Hend
      clear hv hE h4 hfl
      go_enter Try.func16, Try.ntmps16
      go_wp2
      refine ⟨rfl, .tuple #[.agg #[.slice a n cap, .slice lx q lc], .int .i64 62], ?_, Hend.out _ HBB.out⟩
      simp [results, Try.f16, go_sem]
    · have hr : ¬ (536870912 ≤ ad ∧ ad ≤ 536936444) := fun h => hE (by unfold storeE; rw [if_neg h4, if_neg hfl, if_pos h])
      have hv : storeE ad = 61 := by unfold storeE; rw [if_neg h4, if_neg hfl, if_neg hr]
      have Hr := Lib.hid hr
      rw [hv] at Hend
      clear hv hE h4 hr
      by_cases hlo : 134217728 ≤ ad
      · have d1 : decide ((134217728 : Int) ≤ ad) = true := by simpa using hlo
        have d2 : decide (ad < 134283264) = false := by simp; omega
        clear hfl
        go_enter Try.func16, Try.ntmps16
        go_wp2_with fail
        refine (ram_no ad _ Hr.out).mono ?_
        rintro e w' ⟨rfl, rfl⟩
        go_wp2
        refine ⟨rfl, .tuple #[.agg #[.slice a n cap, .slice lx q lc], .int .i64 61], ?_, Hend.out _ HBB.out⟩
        simp [results, Try.f16, go_sem]
      · have d1 : decide ((134217728 : Int) ≤ ad) = false := by simpa using hlo
        clear hfl
        go_enter Try.func16, Try.ntmps16
        go_wp2_with fail
        refine (ram_no ad _ Hr.out).mono ?_
        rintro e w' ⟨rfl, rfl⟩
        go_wp2
        refine ⟨rfl, .tuple #[.agg #[.slice a n cap, .slice lx q lc], .int .i64 61], ?_, Hend.out _ HBB.out⟩
        simp [results, Try.f16, go_sem]

set_option maxHeartbeats 2000000 in
theorem refStore_yes (a : Option Addr) (n cap : Nat) (lx : Option Addr) (q lc : Nat) (L : List (Int × Int)) (ad x : Int) (w : World) (hL : LRow w lx q L) (hq : q ≤ lc) (hq2 : q ≤ 100000) (hE : storeE ad = 0) :
    Calls Try.prog 16 #[.agg #[.slice a n cap, .slice lx q lc], .int .u32 ad, .int .u32 x] w (StoreR w a n cap lx L ad x) := by
  obtain ⟨i0, hi, hz0, hz1, hz2⟩ := info_parts Try.infoW
  obtain ⟨a1, a2, a3⟩ := storeE_zero hE
  have hR : refL L ad x = L.filter (fun p => p.1 != ad) ++ [(ad, x)] := by unfold refL; rw [if_pos hE]
  have e2 : Int.tmod ad 4 = 0 := by rw [Int.tmod_eq_emod_of_nonneg (by omega)]; exact a1
  have d1 : decide ((134217728 : Int) ≤ ad) = true := by simp; omega
  have d2 : decide (ad < 134283264) = false := by simp; omega
  obtain ⟨w2, hw2⟩ : ∃ w2, w2 = (w.alloc (.cells #[.slice a n cap, .slice lx q lc] 45)).alloc (.cells #[.slice none 0 0, .slice none 0 0] 45) := ⟨_, rfl⟩
  have HE := Lib.hid hE
  have HL := Lib.hid hL
  have HR := Lib.hid hR
  clear hE hL hR
  go_enter Try.func16, Try.ntmps16
  go_wp2_with fail
  rw [← hw2]
  have hs2 : w2.heap.size = w.heap.size + 2 := by rw [hw2]; simp
  have hk0 : w2.heap[w.heap.size]? = some (.cells #[.slice a n cap, .slice lx q lc] 45 (0, 0)) := by
    rw [hw2, Below.heap_alloc _ _ _ (by simp)]; exact World.alloc_heap_new w _
  have hk1 : w2.heap[w.heap.size + 1]? = some (.cells #[.slice none 0 0, .slice none 0 0] 45 (0, 0)) := by
    rw [hw2]
    have := World.alloc_heap_new (w.alloc (.cells #[.slice a n cap, .slice lx q lc] 45)) (.cells #[.slice none 0 0, .slice none 0 0] 45)
    rwa [World.size_alloc] at this
  have HK0 := Lib.hid hk0
  have HK1 := Lib.hid hk1
  clear hk0 hk1
  have HB2 : Hid (Below w.heap.size w w2) := by rw [hw2]; exact ((Below.refl _ w).alloc (Nat.le_refl _) _).alloc (by simp) _
  refine (ram_yes ad w2 a2 a3).mono ?_
  rintro e w' ⟨rfl, rfl⟩
  clear hw2
  have hl0 : w.heap.size < w'.heap.size := by omega
  have hl1 : w.heap.size + 1 < w'.heap.size := by omega
  clear hs2
  have k1 := (two_cells HK0.out).2
  go_wp2_with fail
  clear k1
  go_loopw [8, 9] (fun l i wr => ∃ k : Nat, k ≤ q ∧ i = .int .i64 k ∧ wr.ownsRow w'.heap.size 54 2 l ((L.take k).filter (fun p => p.1 != ad)).length (lCells ((L.take k).filter (fun p => p.1 != ad))) ∧ Below w'.heap.size w' wr) (fun _ i _ => q - (intOf i).toNat)
  case atStart => exact ⟨0, Nat.zero_le _, rfl, World.ownsRow_nil _ _ _ _, Below.refl _ _⟩
  case round =>
    obtain ⟨k, hk, rfl, hown, hB⟩ := hrel
    have HB := Lib.hid hB
    have Hown := Lib.hid hown
    have hlen := HL.out.1
    have hk0 := (HB.out.block w.heap.size (by omega)).trans HK0.out
    have hk1 := (HB.out.block (w.heap.size + 1) (by omega)).trans HK1.out
    obtain ⟨k0, k1⟩ := two_cells hk0
    obtain ⟨r0, r1⟩ := two_cells hk1
    have z0 : wr.frozen? ⟨w.heap.size, 1, none⟩ = false := by simp [World.frozen?, hk0]
    have z1 : wr.frozen? ⟨w.heap.size + 1, 0, none⟩ = false := by simp [World.frozen?, hk1]
    have z2 : wr.frozen? ⟨w.heap.size + 1, 1, none⟩ = false := by simp [World.frozen?, hk1]
    have hfl := List.length_filter_le (fun p : Int × Int => p.1 != ad) (L.take k)
    have htl : (L.take k).length = k := by rw [List.length_take]; omega
    have hsz := HB.out.size
    clear hown hB hk0 hk1
    by_cases hlt : k < q
    · obtain ⟨g, rfl, hg, hcell⟩ := HL.out.2.resolve_left (by omega)
      obtain ⟨c0, c1⟩ := hcell k (by omega)
      have c0' := ((HB2.out.trans (HB.out.mono HB2.out.size)).cell (p := ⟨g, k * 2, none⟩) hg).trans c0
      have c1' := ((HB2.out.trans (HB.out.mono HB2.out.size)).cell (p := ⟨g, k * 2 + 1, none⟩) hg).trans c1
      have hst : (L.take (k + 1)).filter (fun p => p.1 != ad) = (L.take k).filter (fun p => p.1 != ad) ++ (if (L[k]'(by omega)).1 != ad then [L[k]'(by omega)] else []) := by
        rw [List.take_succ_eq_append_getElem (by omega), List.filter_append]
        simp [List.filter_cons]
      obtain ⟨A, X, hAX⟩ : ∃ A X, L[k]'(by omega) = (A, X) := ⟨_, _, rfl⟩
      rw [hAX] at c0' c1' hst
      simp only at c0' c1' hst
      have Hst := Lib.hid hst
      clear hst c0 c1 hcell hAX
      have wq : IntKind.i64.wrap ((k : Int) + 1) = (k : Int) + 1 := IntWalk.i64_in _ (by omega)
      by_cases heq : A = ad
      · have hb : (A != ad) = false := by simpa using heq
        have HBq := Lib.hid hb
        clear heq
        go_wp2_with fail
        refine ⟨⟨k + 1, by omega, by simp, ?_, HB.out⟩, by simp only [intOf]; omega⟩
        rw [Hst.out, if_neg (by rw [HBq.out]; simp), List.append_nil]
        exact Hown.out
      · have hb : (A != ad) = true := by simpa using heq
        have HBq := Lib.hid hb
        clear heq
        go_wp2_with (at_builtin; refine wpList_append_own _ rfl (.tmp 40) (.tmp 46) 43 rfl w'.heap.size 54 i0 (.agg #[.int .u32 0, .int .u32 0]) 2 8 Try.underlying43 hi hz0 hz1 hz2 rfl (by decide) _ _ _ rfl (Hown.out.alloc _) ⟨wr.heap.size, 0, none⟩ 1 1 [.int .u32 A, .int .u32 X] rfl rfl ?c1 ?c2 ?c3 ?c4 ?c5 ?_)
        case c1 => exact w_new _ _ A X rfl
        case c2 => exact w_one _ _
        case c3 => unfold maxLen; omega
        case c4 => omega
        case c5 => simp; omega
        intro v' w3 hown3 hgrow3 _
        have hne := (Hown.out.alloc (.cells #[.int .u32 A, .int .u32 X] 54)).lt
        have HB3 := Lib.hid ((HB.out.alloc HB.out.size (.cells #[.int .u32 A, .int .u32 X] 54)).grown hgrow3 (by simp; omega) (fun b e => (hne b e).1))
        have Hown3 := Lib.hid hown3
        clear hown3 hgrow3 hne
        go_wp2_with fail
        refine ⟨⟨k + 1, by omega, by simp, ?_, HB3.out⟩, by simp only [intOf]; omega⟩
        rw [Hst.out, if_pos HBq.out, lCells_snoc, List.length_append]
        exact Hown3.out
    · have hkq : k = q := by omega
      have htk : L.take k = L := by rw [hkq, ← hlen, List.take_length]
      have hown4 := Hown.out
      rw [htk] at hown4 hfl
      have Hown4 := Lib.hid hown4
      have hkl : L.length = q := hlen
      clear hown4 htl htk
      go_wp2_with (at_builtin; refine wpList_append_own _ rfl (.tmp 48) (.tmp 52) 43 rfl w'.heap.size 54 i0 (.agg #[.int .u32 0, .int .u32 0]) 2 8 Try.underlying43 hi hz0 hz1 hz2 rfl (by decide) _ _ _ rfl (Hown4.out.alloc _) ⟨wr.heap.size, 0, none⟩ 1 1 [.int .u32 ad, .int .u32 x] rfl rfl ?d1 ?d2 ?d3 ?d4 ?d5 ?_)
      case d1 => exact w_new _ _ ad x rfl
      case d2 => exact w_one _ _
      case d3 => unfold maxLen; omega
      case d4 => omega
      case d5 => simp; omega
      intro v' w3 hown3 hgrow3 _
      have hne := (Hown4.out.alloc (.cells #[.int .u32 ad, .int .u32 x] 54)).lt
      have HB3 := Lib.hid ((HB.out.alloc HB.out.size (.cells #[.int .u32 ad, .int .u32 x] 54)).grown hgrow3 (by simp; omega) (fun b e => (hne b e).1))
      have HG := Lib.hid hgrow3
      have hown5 : w3.ownsRow w'.heap.size 54 2 v' (refL L ad x).length (lCells (refL L ad x)) := by
        rw [HR.out, lCells_snoc, List.length_append]
        exact hown3
      have Hown5 := Lib.hid hown5
      obtain ⟨lx', lc', rfl, hLR, hlc⟩ := lRow_of_own hown5
      have hk0 := (HB3.out.block w.heap.size hl0).trans HK0.out
      have hk1 := (HB3.out.block (w.heap.size + 1) hl1).trans HK1.out
      obtain ⟨k0, k1⟩ := two_cells hk0
      obtain ⟨r0, r1⟩ := two_cells hk1
      have z0 : w3.frozen? ⟨w.heap.size, 1, none⟩ = false := by simp [World.frozen?, hk0]
      have z1 : w3.frozen? ⟨w.heap.size + 1, 0, none⟩ = false := by simp [World.frozen?, hk1]
      have z2 : w3.frozen? ⟨w.heap.size + 1, 1, none⟩ = false := by simp [World.frozen?, hk1]
      have HLR := Lib.hid hLR
      have hsz3 := HB3.out.size
      clear hown3 hgrow3 hne hown5 hLR hk0 hk1
      have R1 := Lib.hid r1
      have R0 := Lib.hid r0
      go_wp2_with fail
      obtain ⟨w4, hw4⟩ : ∃ w4, w4 = ((w3.setCell ⟨w.heap.size, 1, none⟩ (.slice lx' (refL L ad x).length lc')).setCell ⟨w.heap.size + 1, 0, none⟩ (.slice a n cap)).setCell ⟨w.heap.size + 1, 1, none⟩ (.slice lx' (refL L ad x).length lc') := ⟨_, rfl⟩
      rw [← hw4]
      have hB4 : Below w.heap.size w w4 := by
        rw [hw4]
        exact (((HB2.out.trans (HB3.out.mono HB2.out.size)).setCell (p := ⟨w.heap.size, 1, none⟩) (Nat.le_refl _) _).setCell (p := ⟨w.heap.size + 1, 0, none⟩) (by simp) _).setCell (p := ⟨w.heap.size + 1, 1, none⟩) (by simp) _
      have hown6 : w4.ownsRow w'.heap.size 54 2 (.slice lx' (refL L ad x).length lc') (refL L ad x).length (lCells (refL L ad x)) := by
        rw [hw4]
        exact ownsRow_setCell_below (ownsRow_setCell_below (ownsRow_setCell_below Hown5.out (a := ⟨w.heap.size, 1, none⟩) hl0 _) (a := ⟨w.heap.size + 1, 0, none⟩) hl1 _) (a := ⟨w.heap.size + 1, 1, none⟩) hl1 _
      have g1 : w4.cell? ⟨w.heap.size + 1, 1, none⟩ = some (.slice lx' (refL L ad x).length lc') := by
        rw [hw4]
        exact World.cell?_setCell_same' _ _ _ (by rw [World.cell?_setCell_other _ _ _ _ (by simp), World.cell?_setCell_other _ _ _ _ (by simp), R1.out]; rfl)
      have g0 : w4.cell? ⟨w.heap.size + 1, 0, none⟩ = some (.slice a n cap) := by
        rw [hw4, World.cell?_setCell_other _ _ _ _ (by simp)]
        exact World.cell?_setCell_same' _ _ _ (by rw [World.cell?_setCell_other _ _ _ _ (by simp), R0.out]; rfl)
      obtain ⟨lx2, lc2, he, hLR2, hlc2⟩ := lRow_of_own hown6
      cases he
      clear hw4
      refine ⟨rfl, .tuple #[.agg #[.slice a n cap, .slice lx' (refL L ad x).length lc'], .int .i64 0], ?_, lx', _, lc', by rw [HE.out], hLR2, hlc2, hB4, .inr fun g' e' => ?_⟩
      rotate_left
      · have := (hown6.lt g' (by rw [e']; rfl)).1; omega
      simp [results, Try.f16, go_sem, g0, g1]

theorem refStore_any (a : Option Addr) (n cap : Nat) (lx : Option Addr) (q lc : Nat) (L : List (Int × Int)) (ad x : Int) (w : World) (hL : LRow w lx q L) (hq : q ≤ lc) (hq2 : q ≤ 100000) (h0 : 0 ≤ ad) (h1 : ad < 4294967296) :
    Calls Try.prog 16 #[.agg #[.slice a n cap, .slice lx q lc], .int .u32 ad, .int .u32 x] w (StoreR w a n cap lx L ad x) := by
  by_cases hE : storeE ad = 0
  · exact refStore_yes a n cap lx q lc L ad x w hL hq hq2 hE
  · exact refStore_no a n cap lx q lc L ad x w hL hq h0 h1 hE
end Go.Proofs.Ytpfeddfbmnimlaa
