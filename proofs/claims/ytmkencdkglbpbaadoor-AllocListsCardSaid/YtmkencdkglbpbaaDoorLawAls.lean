/- AllocLists: the walk. -/
import Derived.Test.YtmkencdkglbpbaaDoorRfD
import Derived.Test.YtmkencdkglbpbaaDoorAlY
import Derived.Test.YtmkencdkglbpbaaDoorOpEq
import Derived.Test.YtmkencdkglbpbaaDoorRowO
import Derived.Deep.QuietTactic
import Derived.BigQuiet
set_option maxRecDepth 100000
set_option linter.unusedVariables false
namespace Go.Proofs.YtmkencdkglbpbaaDoor
open Go.RowKit Go.Maps

theorem outs_anyL {w : World} {B : Nat} {e : TypeId} {v : Value} {O : List Op8} (h : w.ownsRow B e 8 v O.length (outC O)) : ∃ x c, v = .slice x O.length c ∧ O.length ≤ c ∧ OpsSl w x O := by
  rcases h.2 with ⟨hv, h0⟩ | ⟨g, cap, cur, rfl, hg, hh, hc, hcap, _⟩
  · exact ⟨none, 0, by rw [hv, h0], by omega, .inl h0⟩
  · refine ⟨_, cap, rfl, hc, .inr ⟨g, 0, rfl, lt_of_block hh, fun i hi => ?_⟩⟩
    have hadd : ∀ j, (⟨g, 0, none⟩ : Addr).add j = ⟨g, 0 + j, none⟩ := fun j => by unfold Addr.add; split <;> simp_all
    have each : ∀ j, j < 8 → ∀ u, (opCellsA O[i])[j]? = some u → w.cell? ⟨g, 0 + (i * 8 + j), none⟩ = some u := fun j hj u hu => by
      have := h.cells (g := g) rfl (i * 8 + j) u (by rw [outC_get O i hi j hj]; exact hu)
      rw [hadd] at this; exact this
    refine ⟨?_, ?_, ?_, ?_, ?_, ?_, ?_, ?_⟩
    · simpa using each 0 (by omega) _ rfl
    · simpa [Nat.add_assoc] using each 1 (by omega) _ rfl
    · simpa [Nat.add_assoc] using each 2 (by omega) _ rfl
    · simpa [Nat.add_assoc] using each 3 (by omega) _ rfl
    · simpa [Nat.add_assoc] using each 4 (by omega) _ rfl
    · simpa [Nat.add_assoc] using each 5 (by omega) _ rfl
    · simpa [Nat.add_assoc] using each 6 (by omega) _ rfl
    · simpa [Nat.add_assoc] using each 7 (by omega) _ rfl

set_option maxHeartbeats 8000000 in
theorem allocLists_walk (x : Option Addr) (n cc : Nat) (L : List Op8) (a : Int) (w : World) (hS : HasRows w) (hL : OpsSl w x L) (hn : L.length = n) (hnc : n ≤ cc) (hN : ∀ o ∈ L, 0 ≤ o.N ∧ o.N < 4294967296) :
    Calls Tryd.prog 3 #[.slice x n cc, .int .i64 a] w fun e w' => e = .returned (.bool true) ∧ Below w.heap.size w w' := by
  have HA := Lib.hid (anchor17_any w hS)
  have HS := Lib.hid hS
  have HL := Lib.hid hL
  have HN := Lib.hid hn
  have HNN := Lib.hid hN
  clear hS hL hn hN
  by_cases h60 : n > 60
  · go_enter Tryd.func3, Tryd.ntmps3
    go_wp2_with fail
    refine HA.out.mono ?_
    rintro e w1 ⟨rfl, hb1⟩
    have H1 := Lib.hid hb1
    clear hb1
    go_wp2_with fail
    go_ret
    exact ⟨rfl, H1.out⟩
  · obtain ⟨V, hV⟩ : ∃ V, V = allocF L a := ⟨_, rfl⟩
    have HCV : Hid (∀ (wq : World), HasRows wq → OpsSl wq x L → Calls Tryd.prog 12 #[.slice x n cc, .int .i64 a] wq fun e w' => ∃ vo, e = .returned (.tuple #[.agg #[vo, .int .i64 V.2.1], .int .i64 V.2.2]) ∧ w'.ownsRow wq.heap.size 37 8 vo V.1.length (outC V.1) ∧ Below wq.heap.size wq w') := by
      rw [hV]; exact fun wq h1 h2 => alloc_any x n cc L a wq h1 h2 HN.out (by omega) hnc HNN.out
    have HCU : Hid (∀ (wq : World) (xq : Option Addr) (cq : Nat), OpsSl wq xq L → n ≤ cq → Calls Tryd.prog 13 #[.slice xq n cq, .int .i64 a] wq fun e w' => ∃ vo, e = .returned (.tuple #[vo, .int .i64 V.2.1, .int .i64 V.2.2]) ∧ w'.ownsRow wq.heap.size 38 8 vo V.1.length (outC V.1) ∧ Below wq.heap.size wq w') := by
      rw [hV]; exact fun wq xq cq h2 h3 => allocR_any xq n cq L a wq h2 HN.out (by omega) h3 HNN.out
    clear hV
    obtain ⟨O, sl, ea⟩ := V
    go_enter Tryd.func3, Tryd.ntmps3
    go_wp2_with fail
    refine HA.out.mono ?_
    rintro e w1 ⟨rfl, hb1⟩
    have H1 := Lib.hid hb1
    clear hb1 HA
    go_wp2_with fail
    refine (HCV.out w1 (HS.out.below H1.out) (HL.out.below H1.out)).mono ?_
    rintro e w2 ⟨vo, rfl, hown, hb2⟩
    obtain ⟨x2, c2, rfl, hc2, hO2, hg2, hm2⟩ := outs_ops hown
    have H2 := Lib.hid (H1.out.trans (hb2.mono H1.out.size))
    have hbA := (Below.refl _ w2).alloc (Nat.le_refl _) (.cells #[.slice x2 O.length c2, .int .i64 sl] 25)
    have z0 : (w2.alloc (.cells #[.slice x2 O.length c2, .int .i64 sl] 25)).cell? ⟨w2.heap.size, 0, none⟩ = some (.slice x2 O.length c2) := by rw [World.cell?_alloc_at _ _ _ _ rfl]; rfl
    have z1 : (w2.alloc (.cells #[.slice x2 O.length c2, .int .i64 sl] 25)).cell? ⟨w2.heap.size, 1, none⟩ = some (.int .i64 sl) := by rw [World.cell?_alloc_at _ _ _ _ rfl]; rfl
    have zl : w2.heap.size < (w2.alloc (.cells #[.slice x2 O.length c2, .int .i64 sl] 25)).heap.size := by simp
    have HO2 := Lib.hid hO2
    clear hown hb2 hO2 hg2 hc2
    simp only at z0 z1 zl hbA ⊢
    go_wp2_with fail
    generalize w2.alloc _ = w3 at hbA z0 z1 zl ⊢
    have H3 := Lib.hid (H2.out.trans (hbA.mono H2.out.size))
    have HO3 := Lib.hid (HO2.out.below hbA)
    have Z0 := Lib.hid z0
    have Z1 := Lib.hid z1
    clear hbA HO2 z0 z1
    refine (of_any x n cc L w3 (HL.out.below H3.out) HN.out (by omega)).mono ?_
    rintro e w4 ⟨vq, rfl, hoq, hb4⟩
    have hoq2 : w4.ownsRow w3.heap.size 38 8 vq L.length (outC L) := by rw [HN.out]; exact hoq
    obtain ⟨xq, cq, rfl, hcq, hOq⟩ := outs_anyL hoq2
    rw [HN.out] at hcq ⊢
    have H4 := Lib.hid (H3.out.trans (hb4.mono H3.out.size))
    have HO4 := Lib.hid (HO3.out.below hb4)
    have z0 := (hb4.cell (p := ⟨w2.heap.size, 0, none⟩) zl).trans Z0.out
    have z1 := (hb4.cell (p := ⟨w2.heap.size, 1, none⟩) zl).trans Z1.out
    have zl4 : w2.heap.size < w4.heap.size := Nat.lt_of_lt_of_le zl hb4.size
    have Z2 := Lib.hid z0
    have Z3 := Lib.hid z1
    have HOq := Lib.hid hOq
    clear hoq hoq2 hOq hb4 z0 z1 HO3 Z0 Z1 zl
    go_wp2_with fail
    refine (HCU.out w4 xq cq HOq.out hcq).mono ?_
    rintro e w5 ⟨vo', rfl, hown, hb5⟩
    simp only at hown ⊢
    obtain ⟨x5, c5, rfl, hc5, hO5⟩ := outs_anyL hown
    have H5 := Lib.hid (H4.out.trans (hb5.mono H4.out.size))
    have HX5 := Lib.hid (HO4.out.below hb5)
    have HY5 := Lib.hid hO5
    have z0 := (hb5.cell (p := ⟨w2.heap.size, 0, none⟩) zl4).trans Z2.out
    have z1 := (hb5.cell (p := ⟨w2.heap.size, 1, none⟩) zl4).trans Z3.out
    have zl5 : w2.heap.size < w5.heap.size := Nat.lt_of_lt_of_le zl4 hb5.size
    have hmm : O.length ≤ 9223372036854775807 := by unfold maxLen at hm2; omega
    clear hown hO5 hb5 HOq HCU HCV hm2 HO4 Z2 Z3
    have Z4 := Lib.hid z0
    go_wp2_with fail
    clear z0 z1
    have heq2 := run_eq2_same
    have heq4 := run_eq4_same
    go_loopw [51] (fun i wr => ∃ k : Nat, k ≤ O.length ∧ i = .int .i64 k ∧ Below w5.heap.size w5 wr) (fun i _ => O.length - (intOf i).toNat)
    case atStart => exact ⟨0, Nat.zero_le _, rfl, Below.refl _ _⟩
    case round =>
      obtain ⟨k, hk, rfl, hB⟩ := hrel
      have hX := HX5.out.below hB
      have hY := HY5.out.below hB
      have HB := Lib.hid hB
      have hsz := hB.size
      clear hB
      by_cases hlt : k < O.length
      · obtain ⟨g, o, rfl, hgl, hc⟩ := hX.resolve_left (by omega)
        obtain ⟨g', o', rfl, hgl', hc'⟩ := hY.resolve_left (by omega)
        obtain ⟨c0, c1, c2', c3, c4', c5', c6, c7⟩ := hc k hlt
        obtain ⟨d0, d1, d2, d3, d4, d5, d6, d7⟩ := hc' k hlt
        have wq : IntKind.i64.wrap ((k : Int) + 1) = (k : Int) + 1 := IntWalk.i64_in _ (by omega)
        have hkI : (k : Int) < (O.length : Int) := by omega
        generalize O[k]'hlt = p at c0 c1 c2' c3 c4' c5' c6 c7 d0 d1 d2 d3 d4 d5 d6 d7
        have n1 : g ≠ wr.heap.size := by omega
        have n2 : g' ≠ wr.heap.size := by omega
        clear hc hc' hX hY
        go_upto_region 12 with fail
        go_quiet (fail)
        go_wp2_with fail
        exact ⟨⟨k + 1, by omega, by simp, below_drewN (HB.out.alloc HB.out.size _) _⟩, by simp only [intOf]; omega⟩
      · go_wp2_with fail
        go_ret
        exact ⟨rfl, H5.out.trans (HB.out.mono H5.out.size)⟩
theorem allocLists_row (x : Option Addr) (len cap : Nat) (zs : List Op8) (a : Int) (w : World) (hS : HasRows w) (hw : OpsRow w x len zs ∧ len ≤ cap ∧ cap ≤ maxLen) (_ : (Lit.int .i64 a).wf = true) :
    Calls Tryd.prog 3 #[.slice x len cap, .int .i64 a] w fun e w' => e = .returned (.bool true) ∧ Below w.heap.size w w' :=
  allocLists_walk x len cap zs a w hS hw.1.2.1 hw.1.1 hw.2.1 hw.1.2.2
end Go.Proofs.YtmkencdkglbpbaaDoor
