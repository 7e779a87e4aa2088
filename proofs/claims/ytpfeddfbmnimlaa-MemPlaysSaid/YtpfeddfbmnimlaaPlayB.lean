/- The document's memory of chapter 06: Half and Load by contracts. -/
import Derived.Test.YtpfeddfbmnimlaaPlayA
set_option maxRecDepth 100000
set_option linter.unusedVariables false
namespace Go.Proofs.Ytpfeddfbmnimlaa
open Go.RowKit

theorem refHalf_any (a : Option Addr) (n cap : Nat) (F : List Int) (lv : Value) (ad : Int) (w : World) (hF : ByteRow w a n F) (hn : n ≤ 300) (h0 : 0 ≤ ad) (h1 : ad < 4294967296) :
    Calls Try.prog 18 #[.agg #[.slice a n cap, lv], .int .u32 ad] w fun e w' => e = .returned (.tuple #[.int .u32 (halfV F ad).1, .int .i64 (halfV F ad).2]) ∧ Below w.heap.size w w' := by
  have HF := Lib.hid hF
  obtain ⟨hl, hb, hc⟩ := hF
  have HFb := Lib.hid hb
  clear hc hb
  by_cases hodd : ad % 2 ≠ 0
  · have hv : halfV F ad = (0, 60) := by unfold halfV; rw [if_pos hodd]
    have e1 : (Int.tmod ad 2 != 0) = true := by rw [Int.tmod_eq_emod_of_nonneg h0]; simpa using hodd
    rw [hv]
    clear hv
    go_enter Try.func18, Try.ntmps18
    go_wp2
    go_ret2
    exact ⟨rfl, (Below.refl _ _).alloc (Nat.le_refl _) _⟩
  · have e0 : Int.tmod ad 2 = 0 := by rw [Int.tmod_eq_emod_of_nonneg h0]; omega
    have had1 : ad + 1 < 4294967296 := by omega
    have wq1 : IntKind.u32.wrap (ad + 1) = ad + 1 := IntWalk.u32_in _ (by omega)
    obtain ⟨w1, hw1⟩ : ∃ w1, w1 = w.alloc (.cells #[.slice a n cap, lv] 45) := ⟨_, rfl⟩
    have hB1 : Below w.heap.size w w1 := by rw [hw1]; exact (Below.refl _ _).alloc (Nat.le_refl _) _
    have HB1 := Lib.hid hB1
    have c0 : w1.cell? ⟨w.heap.size, 0, none⟩ = some (.slice a n cap) := by rw [hw1]; exact World.cell?_alloc_at _ _ _ _ rfl
    have c1 : w1.cell? ⟨w.heap.size, 1, none⟩ = some lv := by rw [hw1]; exact World.cell?_alloc_at _ _ _ _ rfl
    have hs1 : w.heap.size < w1.heap.size := by rw [hw1]; simp
    have Hodd := Lib.hid hodd
    clear hB1 hodd
    go_enter Try.func18, Try.ntmps18
    go_wp2_with fail
    rw [← hw1]
    refine (byteAt_any a n cap F lv ad w1 (HF.out.below HB1.out) hn h0 h1).mono ?_
    rintro e w2 ⟨rfl, hb2⟩
    have HB2 := Lib.hid hb2
    have d0 := (hb2.cell (p := ⟨w.heap.size, 0, none⟩) hs1).trans c0
    have d1 := (hb2.cell (p := ⟨w.heap.size, 1, none⟩) hs1).trans c1
    clear hb2 hw1
    go_wp2_with fail
    refine (byteAt_any a n cap F lv (ad + 1) w2 ((HF.out.below HB1.out).below HB2.out) hn (by omega) (by omega)).mono ?_
    rintro e w3 ⟨rfl, hb3⟩
    have HB3 := Lib.hid (HB1.out.trans ((HB2.out.trans (hb3.mono HB2.out.size)).mono HB1.out.size))
    clear hb3
    by_cases hin : 134217728 ≤ ad ∧ ad - 134217728 + 2 ≤ F.length
    · obtain ⟨x, hx⟩ : ∃ x, x = F.getD (ad - 134217728).toNat 0 := ⟨_, rfl⟩
      obtain ⟨y, hy⟩ : ∃ y, y = F.getD (ad + 1 - 134217728).toNat 0 := ⟨_, rfl⟩
      have hv1 : byteV F ad = (x, true) := by unfold byteV; rw [if_pos (by omega), hx]
      have hv2 : byteV F (ad + 1) = (y, true) := by unfold byteV; rw [if_pos (by omega), hy]
      have hv : halfV F ad = (x + 256 * y, 0) := by
        unfold halfV
        rw [if_neg Hodd.out, if_pos hin, halfAt, hx, hy, show (ad + 1 - 134217728).toNat = (ad - 134217728).toNat + 1 from by omega]
      have hxb : 0 ≤ x ∧ x < 256 := by rw [hx]; exact getD_bytes HFb.out _
      have hyb : 0 ≤ y ∧ y < 256 := by rw [hy]; exact getD_bytes HFb.out _
      have wq2 : IntKind.u32.wrap (256 * y) = 256 * y := IntWalk.u32_in _ (by omega)
      have wq3 : IntKind.u32.wrap (x + 256 * y) = x + 256 * y := IntWalk.u32_in _ (by omega)
      rw [hv1, hv2]
      have HV := Lib.hid hv
      clear hx hy hv1 hv2 hv hin
      go_wp2
      go_ret2
      exact ⟨by rw [HV.out]; rfl, HB3.out⟩
    · have hv : halfV F ad = (0, 61) := by unfold halfV; rw [if_neg Hodd.out, if_neg hin]
      have HV := Lib.hid hv
      have h2 : byteV F (ad + 1) = (0, false) ∨ byteV F ad = (0, false) := by
        by_cases hlo : 134217728 ≤ ad
        · left; unfold byteV; rw [if_neg (by omega)]
        · right; unfold byteV; rw [if_neg (by omega)]
      clear hv hin
      obtain ⟨⟨x, ok⟩, hxe⟩ : ∃ p, p = byteV F ad := ⟨_, rfl⟩
      obtain ⟨⟨y, ok2⟩, hye⟩ : ∃ p, p = byteV F (ad + 1) := ⟨_, rfl⟩
      rw [← hxe, ← hye] at h2 ⊢
      clear hxe hye
      rcases h2 with h2 | h2
      · obtain ⟨rfl, rfl⟩ := Prod.mk.inj h2
        clear h2
        cases ok
        · go_wp2
          go_ret2
          exact ⟨by rw [HV.out]; rfl, HB3.out⟩
        · go_wp2
          go_ret2
          exact ⟨by rw [HV.out]; rfl, HB3.out⟩
      · obtain ⟨rfl, rfl⟩ := Prod.mk.inj h2
        clear h2
        go_wp2
        go_ret2
        exact ⟨by rw [HV.out]; rfl, HB3.out⟩

theorem refLoad_flash (a : Option Addr) (n cap : Nat) (F : List Int) (m : Nat → Int) (lv : Value) (ad : Int) (w : World) (hF : ByteRow w a n F) (hn : n ≤ 300) (h0 : 0 ≤ ad) (h1 : ad < 4294967296) (hr : ¬ (536870912 ≤ ad ∧ ad ≤ 536936444)) :
    Calls Try.prog 17 #[.agg #[.slice a n cap, lv], .int .u32 ad] w fun e w' => e = .returned (.tuple #[.int .u32 (loadV F m ad).1, .int .i64 (loadV F m ad).2]) ∧ Below w.heap.size w w' := by
  have HF := Lib.hid hF
  obtain ⟨hl, hb, hc⟩ := hF
  have HFb := Lib.hid hb
  clear hc hb
  by_cases hodd : ad % 4 ≠ 0
  · have hv : loadV F m ad = (0, 60) := by unfold loadV; rw [if_pos hodd]
    have e1 : (Int.tmod ad 4 != 0) = true := by rw [Int.tmod_eq_emod_of_nonneg h0]; simpa using hodd
    rw [hv]
    clear hv
    go_enter Try.func17, Try.ntmps17
    go_wp2
    go_ret2
    exact ⟨rfl, (Below.refl _ _).alloc (Nat.le_refl _) _⟩
  · have e0 : Int.tmod ad 4 = 0 := by rw [Int.tmod_eq_emod_of_nonneg h0]; omega
    have had3 : ad + 3 < 4294967296 := by omega
    have wq1 : IntKind.u32.wrap (ad + 1) = ad + 1 := IntWalk.u32_in _ (by omega)
    have wq2 : IntKind.u32.wrap (ad + 2) = ad + 2 := IntWalk.u32_in _ (by omega)
    have wq3 : IntKind.u32.wrap (ad + 3) = ad + 3 := IntWalk.u32_in _ (by omega)
    have wq0 : IntKind.u32.wrap ad = ad := IntWalk.u32_in _ (by omega)
    obtain ⟨w1, hw1⟩ : ∃ w1, w1 = w.alloc (.cells #[.slice a n cap, lv] 45) := ⟨_, rfl⟩
    have hB1 : Below w.heap.size w w1 := by rw [hw1]; exact (Below.refl _ _).alloc (Nat.le_refl _) _
    have HB1 := Lib.hid hB1
    have c0 : w1.cell? ⟨w.heap.size, 0, none⟩ = some (.slice a n cap) := by rw [hw1]; exact World.cell?_alloc_at _ _ _ _ rfl
    have c1 : w1.cell? ⟨w.heap.size, 1, none⟩ = some lv := by rw [hw1]; exact World.cell?_alloc_at _ _ _ _ rfl
    have hs1 : w.heap.size < w1.heap.size := by rw [hw1]; simp
    have Hodd := Lib.hid hodd
    have Hr := Lib.hid hr
    clear hB1 hodd
    go_enter Try.func17, Try.ntmps17
    go_wp2_with fail
    rw [← hw1]
    refine (ram_no ad w1 Hr.out).mono ?_
    rintro e w' ⟨rfl, rfl⟩
    clear hw1
    by_cases hin : 134217728 ≤ ad ∧ ad - 134217728 + 4 ≤ F.length
    · obtain ⟨x0, hx0⟩ : ∃ x, x = F.getD (ad - 134217728).toNat 0 := ⟨_, rfl⟩
      obtain ⟨x1, hx1⟩ : ∃ x, x = F.getD (ad + 1 - 134217728).toNat 0 := ⟨_, rfl⟩
      obtain ⟨x2, hx2⟩ : ∃ x, x = F.getD (ad + 2 - 134217728).toNat 0 := ⟨_, rfl⟩
      obtain ⟨x3, hx3⟩ : ∃ x, x = F.getD (ad + 3 - 134217728).toNat 0 := ⟨_, rfl⟩
      have hv0 : byteV F ad = (x0, true) := by unfold byteV; rw [if_pos (by omega), hx0]
      have hv1 : byteV F (ad + 1) = (x1, true) := by unfold byteV; rw [if_pos (by omega), hx1]
      have hv2 : byteV F (ad + 2) = (x2, true) := by unfold byteV; rw [if_pos (by omega), hx2]
      have hv3 : byteV F (ad + 3) = (x3, true) := by unfold byteV; rw [if_pos (by omega), hx3]
      have hv : loadV F m ad = (((x3 * 256 + x2) * 256 + x1) * 256 + x0, 0) := by
        unfold loadV
        rw [if_neg Hodd.out, if_neg Hr.out, if_pos hin, wordAt, hx0, hx1, hx2, hx3, show (ad + 1 - 134217728).toNat = (ad - 134217728).toNat + 1 from by omega, show (ad + 2 - 134217728).toNat = (ad - 134217728).toNat + 2 from by omega, show (ad + 3 - 134217728).toNat = (ad - 134217728).toNat + 3 from by omega]
        congr 1
        omega
      have b0 : 0 ≤ x0 ∧ x0 < 256 := by rw [hx0]; exact getD_bytes HFb.out _
      have b1 : 0 ≤ x1 ∧ x1 < 256 := by rw [hx1]; exact getD_bytes HFb.out _
      have b2 : 0 ≤ x2 ∧ x2 < 256 := by rw [hx2]; exact getD_bytes HFb.out _
      have b3 : 0 ≤ x3 ∧ x3 < 256 := by rw [hx3]; exact getD_bytes HFb.out _
      have v0 : IntKind.u32.wrap (0 * 256) = 0 := rfl
      have v3 : IntKind.u32.wrap (0 + x3) = x3 := by rw [Int.zero_add]; exact IntWalk.u32_in _ (by omega)
      have v3' : IntKind.u32.wrap x3 = x3 := IntWalk.u32_in _ (by omega)
      have v2 : IntKind.u32.wrap (x3 * 256) = x3 * 256 := IntWalk.u32_in _ (by omega)
      have v2' : IntKind.u32.wrap (x3 * 256 + x2) = x3 * 256 + x2 := IntWalk.u32_in _ (by omega)
      have HV := Lib.hid hv
      clear hx0 hx1 hx2 hx3 hv hin
      have HV0 := Lib.hid hv0
      have HV1 := Lib.hid hv1
      have HV2 := Lib.hid hv2
      have HV3 := Lib.hid hv3
      clear hv0 hv1 hv2 hv3
      go_wp2_with fail
      refine wp_loop_rounds 5 ?_
      rw [rounds_succ]
      go_wp2_with fail
      refine (byteAt_any a n cap F lv (ad + 3) w' (HF.out.below HB1.out) hn (by omega) (by omega)).mono ?_
      rintro e wy3 ⟨rfl, hb⟩
      rw [HV3.out]
      have HBy3 := Lib.hid (HB1.out.trans (hb.mono HB1.out.size))
      have e03 := (hb.cell (p := ⟨w.heap.size, 0, none⟩) (by have := hs1; omega)).trans c0
      have e13 := (hb.cell (p := ⟨w.heap.size, 1, none⟩) (by have := hs1; omega)).trans c1
      have hswy3 : w.heap.size < wy3.heap.size := by have := hb.size; have := hs1; omega
      clear hb
      go_wp2_with fail
      rw [rounds_succ]
      go_wp2_with fail
      refine (byteAt_any a n cap F lv (ad + 2) wy3 (HF.out.below HBy3.out) hn (by omega) (by omega)).mono ?_
      rintro e wy2 ⟨rfl, hb⟩
      rw [HV2.out]
      have HBy2 := Lib.hid (HBy3.out.trans (hb.mono HBy3.out.size))
      have e02 := (hb.cell (p := ⟨w.heap.size, 0, none⟩) (by have := hswy3; omega)).trans e03
      have e12 := (hb.cell (p := ⟨w.heap.size, 1, none⟩) (by have := hswy3; omega)).trans e13
      have hswy2 : w.heap.size < wy2.heap.size := by have := hb.size; have := hswy3; omega
      clear hb
      go_wp2_with fail
      rw [rounds_succ]
      go_wp2_with fail
      refine (byteAt_any a n cap F lv (ad + 1) wy2 (HF.out.below HBy2.out) hn (by omega) (by omega)).mono ?_
      rintro e wy1 ⟨rfl, hb⟩
      rw [HV1.out]
      have HBy1 := Lib.hid (HBy2.out.trans (hb.mono HBy2.out.size))
      have e01 := (hb.cell (p := ⟨w.heap.size, 0, none⟩) (by have := hswy2; omega)).trans e02
      have e11 := (hb.cell (p := ⟨w.heap.size, 1, none⟩) (by have := hswy2; omega)).trans e12
      have hswy1 : w.heap.size < wy1.heap.size := by have := hb.size; have := hswy2; omega
      clear hb
      go_wp2_with fail
      rw [rounds_succ]
      go_wp2_with fail
      refine (byteAt_any a n cap F lv ad wy1 (HF.out.below HBy1.out) hn (by omega) (by omega)).mono ?_
      rintro e wy0 ⟨rfl, hb⟩
      rw [HV0.out]
      have HBy0 := Lib.hid (HBy1.out.trans (hb.mono HBy1.out.size))
      have e00 := (hb.cell (p := ⟨w.heap.size, 0, none⟩) (by have := hswy1; omega)).trans e01
      have e10 := (hb.cell (p := ⟨w.heap.size, 1, none⟩) (by have := hswy1; omega)).trans e11
      have hswy0 : w.heap.size < wy0.heap.size := by have := hb.size; have := hswy1; omega
      clear hb
      go_wp2_with fail
      rw [rounds_succ]
      go_wp2_with fail
      go_ret2
      exact ⟨by rw [HV.out]; rfl, HBy0.out⟩
    · have hv : loadV F m ad = (0, 61) := by unfold loadV; rw [if_neg Hodd.out, if_neg Hr.out, if_neg hin]
      have hv3 : byteV F (ad + 3) = (0, false) := by
        have := Hodd.out
        unfold byteV; rw [if_neg (by omega)]
      have HV := Lib.hid hv
      clear hv hin
      go_wp2_with fail
      refine wp_loop_rounds 1 ?_
      rw [rounds_succ]
      go_wp2_with fail
      refine (byteAt_any a n cap F lv (ad + 3) w' (HF.out.below HB1.out) hn (by omega) (by omega)).mono ?_
      rintro e wy ⟨rfl, hb⟩
      rw [hv3]
      have HBy := Lib.hid (HB1.out.trans (hb.mono HB1.out.size))
      clear hb hv3
      go_wp2_with fail
      go_ret2
      exact ⟨by rw [HV.out]; rfl, HBy.out⟩

theorem refLoad_ram (a : Option Addr) (n cap : Nat) (F : List Int) (lx : Option Addr) (q lc : Nat) (L : List (Int × Int)) (m : Nat → Int) (ad : Int) (w : World) (hL : LRow w lx q L) (hI : Inv L m) (hq : q ≤ lc) (hq2 : q ≤ 1000000) (h4 : ad % 4 = 0) (hr : 536870912 ≤ ad ∧ ad ≤ 536936444) :
    Calls Try.prog 17 #[.agg #[.slice a n cap, .slice lx q lc], .int .u32 ad] w fun e w' => e = .returned (.tuple #[.int .u32 (loadV F m ad).1, .int .i64 (loadV F m ad).2]) ∧ Below w.heap.size w w' := by
  have hv : loadV F m ad = (m ((ad - 536870912) / 4).toNat, 0) := by unfold loadV; rw [if_neg (by omega), if_pos hr]
  rw [hv]
  have HL := Lib.hid hL
  have HI := Lib.hid hI
  have H4 := Lib.hid h4
  have e0 : Int.tmod ad 4 = 0 := by rw [Int.tmod_eq_emod_of_nonneg (by omega)]; omega
  obtain ⟨w1, hw1⟩ : ∃ w1, w1 = w.alloc (.cells #[.slice a n cap, .slice lx q lc] 45) := ⟨_, rfl⟩
  have hB1 : Below w.heap.size w w1 := by rw [hw1]; exact (Below.refl _ _).alloc (Nat.le_refl _) _
  have HB1 := Lib.hid hB1
  have c1 : w1.cell? ⟨w.heap.size, 1, none⟩ = some (.slice lx q lc) := by rw [hw1]; exact World.cell?_alloc_at _ _ _ _ rfl
  have wq1 : IntKind.i64.wrap ((q : Int) - 1) = (q : Int) - 1 := IntWalk.i64_in _ (by omega)
  obtain ⟨M, hM⟩ : ∃ M, M = m ((ad - 536870912) / 4).toNat := ⟨_, rfl⟩
  rw [← hM]
  have HM := Lib.hid hM
  clear hM hv hB1 h4 hL hI
  go_enter Try.func17, Try.ntmps17
  go_wp2_with fail
  rw [← hw1]
  refine (ram_yes ad w1 hr.1 hr.2).mono ?_
  rintro e w' ⟨rfl, rfl⟩
  clear hw1
  go_wp2_with fail
  go_loop [6] (fun i => (i = .int .i64 (-1) ∧ (∀ j (hj : j < L.length), (L[j]).1 ≠ ad)) ∨ (∃ j : Nat, j < q ∧ i = .int .i64 (j : Int) ∧ ∀ j' (hj : j' < L.length), j < j' → (L[j']).1 ≠ ad)) (fun i => (intOf i + 1).toNat)
  case atStart =>
    have hl := HL.out.1
    by_cases h0 : q = 0
    · exact .inl ⟨by rw [h0]; rfl, fun j hj => by omega⟩
    · exact .inr ⟨q - 1, by omega, by congr 1; omega, fun j hj hlt => by omega⟩
  case round =>
    rcases hrel with ⟨rfl, hall⟩ | ⟨j, hj, rfl, hall⟩
    · have hM0 : M = 0 := by
        rw [HM.out]
        obtain ⟨h1, h2, h3⟩ := HI.out
        by_cases hz : m ((ad - 536870912) / 4).toNat = 0
        · exact hz
        · exfalso
          have h5 := h3 _ (by omega) hz
          obtain ⟨j, hj, he⟩ := List.getElem_of_mem h5
          have := hall j hj
          rw [he] at this
          have := H4.out
          omega
      subst hM0
      clear hall
      go_wp2_with fail
      go_ret2
      exact ⟨rfl, HB1.out⟩
    · have hlen := HL.out.1
      obtain ⟨g, rfl, hg, hcell⟩ := HL.out.2.resolve_left (by omega)
      obtain ⟨k0, k1⟩ := hcell j (by omega)
      have k0' := (HB1.out.cell (p := ⟨g, j * 2, none⟩) hg).trans k0
      have k1' := (HB1.out.cell (p := ⟨g, j * 2 + 1, none⟩) hg).trans k1
      obtain ⟨A, hA⟩ : ∃ A, A = (L[j]'(by omega)).1 := ⟨_, rfl⟩
      obtain ⟨X, hX⟩ : ∃ X, X = (L[j]'(by omega)).2 := ⟨_, rfl⟩
      rw [← hA] at k0'
      rw [← hX] at k1'
      have HA := Lib.hid hA
      have HX := Lib.hid hX
      have Hall := Lib.hid hall
      have wq2 : IntKind.i64.wrap ((j : Int) - 1) = (j : Int) - 1 := IntWalk.i64_in _ (by omega)
      have e1 : decide ((0 : Int) ≤ (j : Int)) = true := by simp
      have Hcell := Lib.hid hcell
      clear hA hX hall hcell k0 k1
      by_cases heq : A = ad
      · have hXM : X = M := by
          rw [HX.out, HM.out]
          obtain ⟨h1, _, _⟩ := HI.out
          have h5 := (h1 _ (List.getElem_mem (show j < L.length by omega))).2.2.2.1
          rw [← h5, ← HA.out, heq]
        have heqb : (A == ad) = true := by simpa using heq
        rw [hXM] at k1'
        clear heq hXM
        go_wp2_with fail
        go_ret2
        exact ⟨rfl, HB1.out⟩
      · have heqb : (A == ad) = false := by simpa using heq
        have Heq := Lib.hid heq
        clear heq
        go_wp2_with fail
        refine ⟨?_, by simp only [intOf]; omega⟩
        by_cases h0 : j = 0
        · refine .inl ⟨by rw [h0]; rfl, fun j' hj' => ?_⟩
          by_cases hz : j' = j
          · subst hz; rw [← HA.out]; exact Heq.out
          · exact Hall.out j' hj' (by omega)
        · refine .inr ⟨j - 1, by omega, by congr 1; omega, fun j' hj' hlt => ?_⟩
          by_cases hz : j' = j
          · subst hz; rw [← HA.out]; exact Heq.out
          · exact Hall.out j' hj' (by omega)

/-- The document's Load, where the list of words says what RAM holds. -/
theorem refLoad_any (a : Option Addr) (n cap : Nat) (F : List Int) (lx : Option Addr) (q lc : Nat) (L : List (Int × Int)) (m : Nat → Int) (ad : Int) (w : World) (hF : ByteRow w a n F) (hn : n ≤ 300) (hL : LRow w lx q L) (hI : Inv L m) (hq : q ≤ lc) (hq2 : q ≤ 1000000) (h0 : 0 ≤ ad) (h1 : ad < 4294967296) :
    Calls Try.prog 17 #[.agg #[.slice a n cap, .slice lx q lc], .int .u32 ad] w fun e w' => e = .returned (.tuple #[.int .u32 (loadV F m ad).1, .int .i64 (loadV F m ad).2]) ∧ Below w.heap.size w w' := by
  by_cases hr : 536870912 ≤ ad ∧ ad ≤ 536936444
  · by_cases h4 : ad % 4 = 0
    · exact refLoad_ram a n cap F lx q lc L m ad w hL hI hq hq2 h4 hr
    · have hv : loadV F m ad = (0, 60) := by unfold loadV; rw [if_pos h4]
      have e1 : (Int.tmod ad 4 != 0) = true := by rw [Int.tmod_eq_emod_of_nonneg h0]; simpa using h4
      rw [hv]
      clear hv hF hL hI
      go_enter Try.func17, Try.ntmps17
      go_wp2
      go_ret2
      exact ⟨rfl, (Below.refl _ _).alloc (Nat.le_refl _) _⟩
  · exact refLoad_flash a n cap F m (.slice lx q lc) ad w hF hn h0 h1 hr
end Go.Proofs.Ytpfeddfbmnimlaa
