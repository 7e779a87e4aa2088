/- VopRight: the walk. -/
import Derived.Test.YtmkencdkglbpbaaDoorOpEq
set_option maxRecDepth 100000
set_option linter.unusedVariables false
namespace Go.Proofs.YtmkencdkglbpbaaDoor
open Go.RowKit

/-- The same, as the document's operation. -/
def XAt (w : World) (b : Nat) (K t0 t1 f0 f1 f2 f3 N : Int) : Prop := w.heap[b]? = some (.cells #[.int .i64 K, .int .i64 t0, .int .i64 t1, .int .i64 f0, .int .i64 f1, .int .i64 f2, .int .i64 f3, .int .u32 N] 38 (0, 0))
theorem XAt.cells {w : World} {b : Nat} {K t0 t1 f0 f1 f2 f3 N : Int} (h : XAt w b K t0 t1 f0 f1 f2 f3 N) :
    w.cell? ⟨b, 0, none⟩ = some (.int .i64 K) ∧ w.cell? ⟨b, 1, none⟩ = some (.int .i64 t0) ∧ w.cell? ⟨b, 2, none⟩ = some (.int .i64 t1) ∧ w.cell? ⟨b, 3, none⟩ = some (.int .i64 f0) ∧ w.cell? ⟨b, 4, none⟩ = some (.int .i64 f1) ∧ w.cell? ⟨b, 5, none⟩ = some (.int .i64 f2) ∧ w.cell? ⟨b, 6, none⟩ = some (.int .i64 f3) ∧ w.cell? ⟨b, 7, none⟩ = some (.int .u32 N) := by
  unfold XAt at h
  refine ⟨?_, ?_, ?_, ?_, ?_, ?_, ?_, ?_⟩ <;> (simp only [World.cell?, h]; rfl)
theorem XAt.below {w w' : World} {b : Nat} {K t0 t1 f0 f1 f2 f3 N : Int} (h : XAt w b K t0 t1 f0 f1 f2 f3 N) (hb : Below w.heap.size w w') : XAt w' b K t0 t1 f0 f1 f2 f3 N :=
  (hb.block _ (lt_of_block h)).trans h
theorem xAt_new (w : World) (K t0 t1 f0 f1 f2 f3 N : Int) : XAt (w.alloc (.cells #[.int .i64 K, .int .i64 t0, .int .i64 t1, .int .i64 f0, .int .i64 f1, .int .i64 f2, .int .i64 f3, .int .u32 N] 38)) w.heap.size K t0 t1 f0 f1 f2 f3 N := heap_alloc_new _ _

set_option maxHeartbeats 8000000 in
theorem vopRight_yes (K t0 t1 f0 f1 f2 f3 N T S : Int) (nm : ByteArray) (V : Bool) (w : World) (hS : HasRows w) (hN : 0 ≤ N ∧ N < 4294967296)
    (hV : rightV K t0 t1 f0 f1 f2 f3 N = V)
    (hsh : ∀ w, HasRows w → Calls Tryd.prog 23 #[.int .i64 K] w fun e w' => e = .returned (.tuple #[.int .i64 T, .int .i64 S]) ∧ Below w.heap.size w w')
    (hsr : ∀ w, Calls Tryd.prog 24 #[.int .i64 K] w fun e w' => e = .returned (.tuple #[.int .i64 T, .int .i64 S]) ∧ Below w.heap.size w w')
    (hnm : ∀ w, Calls Tryd.prog 26 #[.int .i64 K] w fun e w' => e = .returned (.string nm) ∧ Below w.heap.size w w')
    (hT : 0 ≤ T) (hS2 : 0 ≤ S) (hb : nm.toList.isEmpty = false)
    (hyes : V = true → ((regsOf [f0, f1, f2, f3]).length : Int) = S ∧ ((regsOf [t0, t1]).length : Int) = T ∧ padV (regsOf [t0, t1]) 0 = t0 ∧ padV (regsOf [t0, t1]) 1 = t1 ∧ padV (regsOf [f0, f1, f2, f3]) 0 = f0 ∧ padV (regsOf [f0, f1, f2, f3]) 1 = f1 ∧ padV (regsOf [f0, f1, f2, f3]) 2 = f2 ∧ padV (regsOf [f0, f1, f2, f3]) 3 = f3) :
    Calls Tryd.prog 8 #[opV K t0 t1 f0 f1 f2 f3 N] w fun e w' => e = .returned (.bool true) ∧ Below w.heap.size w w' := by
  have HS := Lib.hid hS
  have HSH := Lib.hid hsh
  have HSR := Lib.hid hsr
  have HNM := Lib.hid hnm
  have HT := Lib.hid hT
  have HS2 := Lib.hid hS2
  have Hb := Lib.hid hb
  have HY := Lib.hid hyes
  clear hyes
  have HN := Lib.hid hN
  have HV : Hid (∀ w, HasRows w → Calls Tryd.prog 17 #[opV K t0 t1 f0 f1 f2 f3 N] w fun e w' => e = .returned (.bool V) ∧ Below w.heap.size w w') := fun w h => by
    have := right_any K t0 t1 f0 f1 f2 f3 N hN.1 hN.2 w h
    rw [hV] at this; exact this
  have HVR : Hid (∀ w, Calls Tryd.prog 25 #[opV K t0 t1 f0 f1 f2 f3 N] w fun e w' => e = .returned (.bool V) ∧ Below w.heap.size w w') := fun w => by
    have := refRight_any K t0 t1 f0 f1 f2 f3 N hN.1 hN.2 w
    rw [hV] at this; exact this
  clear hS hsh hsr hnm hT hS2 hb hN
  have hB1 := (Below.refl _ w).alloc (Nat.le_refl _) (.cells #[.int .i64 K, .int .i64 t0, .int .i64 t1, .int .i64 f0, .int .i64 f1, .int .i64 f2, .int .i64 f3, .int .u32 N] 37)
  have HB1 := Lib.hid hB1
  have HO1 := Lib.hid (opAt_new w K t0 t1 f0 f1 f2 f3 N)
  clear hB1
  go_enter Tryd.func8, Tryd.ntmps8
  go_wp2_with fail
  generalize w.alloc _ = w1 at HB1 HO1 ⊢
  refine (anchor_any w1).mono ?_
  rintro e w2 ⟨rfl, hb2⟩
  have HB2 := Lib.hid (HB1.out.trans (hb2.mono HB1.out.size))
  have HO2 := Lib.hid (HO1.out.below hb2)
  clear hb2
  obtain ⟨c0, c1, c2, c3, c4, c5, c6, c7⟩ := HO2.out.cells
  have hl2 := lt_of_block HO2.out
  have hd2 : w.heap.size ≠ w2.heap.size := by omega
  have HB3 := Lib.hid (HB2.out.alloc HB2.out.size (.cells #[.int .i64 K, .int .i64 t0, .int .i64 t1, .int .i64 f0, .int .i64 f1, .int .i64 f2, .int .i64 f3, .int .u32 N] 38))
  have HO3 := Lib.hid (HO2.out.below ((Below.refl _ w2).alloc (Nat.le_refl _) (.cells #[.int .i64 K, .int .i64 t0, .int .i64 t1, .int .i64 f0, .int .i64 f1, .int .i64 f2, .int .i64 f3, .int .u32 N] 38)))
  have HX3 := Lib.hid (xAt_new w2 K t0 t1 f0 f1 f2 f3 N)
  go_wp2_with fail
  generalize w2.alloc _ = w3 at HB3 HO3 HX3 ⊢
  generalize w2.heap.size = xb at HX3 hl2 hd2 ⊢
  clear c0 c1 c2 c3 c4 c5 c6 c7
  refine (HSH.out w3 (HS.out.below HB3.out)).mono ?_
  rintro e w4 ⟨rfl, hb4⟩
  have HB4 := Lib.hid (HB3.out.trans (hb4.mono HB3.out.size))
  have HO4 := Lib.hid (HO3.out.below hb4)
  have HX4 := Lib.hid (HX3.out.below hb4)
  clear hb4
  obtain ⟨c0, c1, c2, c3, c4, c5, c6, c7⟩ := HO4.out.cells
  go_wp2_with fail
  refine (HSR.out w4).mono ?_
  rintro e w5 ⟨rfl, hb5⟩
  have HB5 := Lib.hid (HB4.out.trans (hb5.mono HB4.out.size))
  have HO5 := Lib.hid (HO4.out.below hb5)
  have HX5 := Lib.hid (HX4.out.below hb5)
  clear hb5 c0 c1 c2 c3 c4 c5 c6 c7
  obtain ⟨c0, c1, c2, c3, c4, c5, c6, c7⟩ := HO5.out.cells
  obtain ⟨x0, x1, x2, x3, x4, x5, x6, x7⟩ := HX5.out.cells
  go_wp2_with fail
  clear c0 c1 c2 c3 c4 c5 c6 c7 x0 x1 x2 x3 x4 x5 x6 x7
  have Kp : Hid (∀ w', Below w5.heap.size w5 w' → w'.cell? ⟨w.heap.size, 0, none⟩ = some (.int .i64 K) ∧ w'.cell? ⟨w.heap.size, 1, none⟩ = some (.int .i64 t0) ∧ w'.cell? ⟨w.heap.size, 2, none⟩ = some (.int .i64 t1) ∧ w'.cell? ⟨w.heap.size, 3, none⟩ = some (.int .i64 f0) ∧ w'.cell? ⟨w.heap.size, 4, none⟩ = some (.int .i64 f1) ∧ w'.cell? ⟨w.heap.size, 5, none⟩ = some (.int .i64 f2) ∧ w'.cell? ⟨w.heap.size, 6, none⟩ = some (.int .i64 f3) ∧ w'.cell? ⟨w.heap.size, 7, none⟩ = some (.int .u32 N) ∧ w'.cell? ⟨xb, 0, none⟩ = some (.int .i64 K) ∧ w'.cell? ⟨xb, 1, none⟩ = some (.int .i64 t0) ∧ w'.cell? ⟨xb, 2, none⟩ = some (.int .i64 t1) ∧ w'.cell? ⟨xb, 3, none⟩ = some (.int .i64 f0) ∧ w'.cell? ⟨xb, 4, none⟩ = some (.int .i64 f1) ∧ w'.cell? ⟨xb, 5, none⟩ = some (.int .i64 f2) ∧ w'.cell? ⟨xb, 6, none⟩ = some (.int .i64 f3) ∧ w'.cell? ⟨xb, 7, none⟩ = some (.int .u32 N) ) := fun w' h => by
    obtain ⟨c0, c1, c2, c3, c4, c5, c6, c7⟩ := (HO5.out.below h).cells
    obtain ⟨x0, x1, x2, x3, x4, x5, x6, x7⟩ := (HX5.out.below h).cells
    exact ⟨c0, c1, c2, c3, c4, c5, c6, c7, x0, x1, x2, x3, x4, x5, x6, x7⟩
  have HH5 := Lib.hid (HS.out.below HB5.out)
  have hD : Below w5.heap.size w5 w5.drew := (Below.refl _ w5).drew
  have qT : (T < 0) = False := by simp; exact HT.out
  have qS : (S < 0) = False := by simp; exact HS2.out
  have qT2 : decide (0 ≤ T) = true := by simp; exact HT.out
  have qn := Hb.out
  go_region_held3 (fun w' => w'.cell? ⟨w.heap.size, 0, none⟩ = some (.int .i64 K) ∧ w'.cell? ⟨w.heap.size, 1, none⟩ = some (.int .i64 t0) ∧ w'.cell? ⟨w.heap.size, 2, none⟩ = some (.int .i64 t1) ∧ w'.cell? ⟨w.heap.size, 3, none⟩ = some (.int .i64 f0) ∧ w'.cell? ⟨w.heap.size, 4, none⟩ = some (.int .i64 f1) ∧ w'.cell? ⟨w.heap.size, 5, none⟩ = some (.int .i64 f2) ∧ w'.cell? ⟨w.heap.size, 6, none⟩ = some (.int .i64 f3) ∧ w'.cell? ⟨w.heap.size, 7, none⟩ = some (.int .u32 N) ∧ w'.cell? ⟨xb, 0, none⟩ = some (.int .i64 K) ∧ w'.cell? ⟨xb, 1, none⟩ = some (.int .i64 t0) ∧ w'.cell? ⟨xb, 2, none⟩ = some (.int .i64 t1) ∧ w'.cell? ⟨xb, 3, none⟩ = some (.int .i64 f0) ∧ w'.cell? ⟨xb, 4, none⟩ = some (.int .i64 f1) ∧ w'.cell? ⟨xb, 5, none⟩ = some (.int .i64 f2) ∧ w'.cell? ⟨xb, 6, none⟩ = some (.int .i64 f3) ∧ w'.cell? ⟨xb, 7, none⟩ = some (.int .u32 N) )
    (first
      | exact Kp.out _ hD
      | exact Kp.out _ (hD.trans hba)
      | exact Kp.out _ ((hD.trans hba).trans hbb)
      | exact Kp.out _ (((hD.trans hba).trans hbb).trans hbc))
    (first
      | (go_at_call 17; refine (HV.out _ (HH5.out.below hD)).mono ?_; rintro e wa ⟨rfl, hba0⟩; have hba := hba0.mono hD.size)
      | (go_at_call 25; refine (HVR.out _).mono ?_; rintro e wb ⟨rfl, hbb0⟩; have hbb := hbb0.mono (hD.trans hba).size)
      | (go_at_call 26; refine (HNM.out _).mono ?_; rintro e wc ⟨rfl, hbc0⟩; have hbc := hbc0.mono ((hD.trans hba).trans hbb).size))
  go_wp2_with fail
  have hbC := ((hD.trans hba).trans hbb).trans hbc
  have HBC := Lib.hid (HB5.out.trans (hbC.mono HB5.out.size))
  have HOC := Lib.hid (HO5.out.below hbC)
  have HXC := Lib.hid (HX5.out.below hbC)
  clear hbC hba0 hbb0 hbc0 hba hbb hbc hD
  obtain ⟨x0, x1, x2, x3, x4, x5, x6, x7⟩ := HXC.out.cells
  go_wp2_with fail
  refine (HVR.out wc).mono ?_
  rintro e w7 ⟨rfl, hb7⟩
  have HB7 := Lib.hid (HBC.out.trans (hb7.mono HBC.out.size))
  have HO7 := Lib.hid (HOC.out.below hb7)
  clear hb7 x0 x1 x2 x3 x4 x5 x6 x7
  cases V
  · go_wp2_with fail
    go_ret
    exact ⟨rfl, HB7.out⟩
  obtain ⟨c0, c1, c2, c3, c4, c5, c6, c7⟩ := HO7.out.cells
  go_wp2_with fail
  clear c0 c1 c2 c3 c4 c5 c6 c7
  have Kq : Hid (∀ w', Below w7.heap.size w7 w' → w'.cell? ⟨w.heap.size, 0, none⟩ = some (.int .i64 K) ∧ w'.cell? ⟨w.heap.size, 1, none⟩ = some (.int .i64 t0) ∧ w'.cell? ⟨w.heap.size, 2, none⟩ = some (.int .i64 t1) ∧ w'.cell? ⟨w.heap.size, 3, none⟩ = some (.int .i64 f0) ∧ w'.cell? ⟨w.heap.size, 4, none⟩ = some (.int .i64 f1) ∧ w'.cell? ⟨w.heap.size, 5, none⟩ = some (.int .i64 f2) ∧ w'.cell? ⟨w.heap.size, 6, none⟩ = some (.int .i64 f3) ∧ w'.cell? ⟨w.heap.size, 7, none⟩ = some (.int .u32 N) ) := fun w' h => (HO7.out.below h).cells
  have hD : Below w7.heap.size w7 w7.drew := (Below.refl _ w7).drew
  go_region_held3 (fun w' => w'.cell? ⟨w.heap.size, 0, none⟩ = some (.int .i64 K) ∧ w'.cell? ⟨w.heap.size, 1, none⟩ = some (.int .i64 t0) ∧ w'.cell? ⟨w.heap.size, 2, none⟩ = some (.int .i64 t1) ∧ w'.cell? ⟨w.heap.size, 3, none⟩ = some (.int .i64 f0) ∧ w'.cell? ⟨w.heap.size, 4, none⟩ = some (.int .i64 f1) ∧ w'.cell? ⟨w.heap.size, 5, none⟩ = some (.int .i64 f2) ∧ w'.cell? ⟨w.heap.size, 6, none⟩ = some (.int .i64 f3) ∧ w'.cell? ⟨w.heap.size, 7, none⟩ = some (.int .u32 N) )
    (first
      | exact Kq.out _ hD
      | exact Kq.out _ (hD.trans hbu)
      | exact Kq.out _ ((hD.trans hbu).trans hbs))
    (first
      | (go_at_call 15; refine (uses_any K t0 t1 f0 f1 f2 f3 N _).mono ?_; rintro e wu ⟨vu, rfl, hou, hbu0⟩; have hbu := hbu0.mono hD.size)
      | (go_at_call 16; refine (sets_any K t0 t1 f0 f1 f2 f3 N _).mono ?_; rintro e ws ⟨vs, rfl, hos, hbs0⟩; have hbs := hbs0.mono (hD.trans hbu).size; have hou2 := ownsRow_below hou hbs0))
  have HBS := Lib.hid (HB7.out.trans (((hD.trans hbu).trans hbs).mono HB7.out.size))
  have HOS := Lib.hid (HO7.out.below ((hD.trans hbu).trans hbs))
  obtain ⟨hlu, hls, p0, p1, p2, p3, p4, p5⟩ := HY.out trivial
  obtain ⟨ux, uc, rfl, huc, hfu⟩ := own_form hou2 rfl
  obtain ⟨sx, sc, rfl, hsc, hfs⟩ := own_form hos rfl
  have hmk : ∀ w', Below ws.heap.size ws w' → Calls Tryd.prog 27 #[.int .i64 K, .int .u32 N, .slice sx (regsOf [t0, t1]).length sc, .slice ux (regsOf [f0, f1, f2, f3]).length uc] w' fun e w'' => e = .returned (opV K t0 t1 f0 f1 f2 f3 N) ∧ Below w'.heap.size w' w'' := fun w' hb' => by
    have hl1 : (regsOf [f0, f1, f2, f3]).length ≤ 4 := by have := List.length_filter_le (fun x : Int => x != -1) [f0, f1, f2, f3]; simpa using this
    have hl2 : (regsOf [t0, t1]).length ≤ 2 := by have := List.length_filter_le (fun x : Int => x != -1) [t0, t1]; simpa using this
    have := make_any K N sx ux _ sc _ uc (regsOf [t0, t1]) (regsOf [f0, f1, f2, f3]) w' ?_ ?_ rfl rfl (by omega) (by omega) (fun g e => ?_) (fun g e => ?_)
    · rw [p0, p1, p2, p3, p4, p5] at this; exact this
    · by_cases h0 : regsOf [t0, t1] = []
      · exact .inl h0
      · obtain ⟨g, hg, hg1, hg2, hc⟩ := hfs (List.length_pos_iff.2 h0)
        exact .inr ⟨g, hg, Nat.lt_of_lt_of_le hg2 hb'.size, fun j hj => by rw [Nat.zero_add]; exact (hb'.cell (p := ⟨g, j, none⟩) hg2).trans (hc j hj)⟩
    · by_cases h0 : regsOf [f0, f1, f2, f3] = []
      · exact .inl h0
      · obtain ⟨g, hg, hg1, hg2, hc⟩ := hfu (List.length_pos_iff.2 h0)
        exact .inr ⟨g, hg, Nat.lt_of_lt_of_le hg2 hb'.size, fun j hj => by rw [Nat.zero_add]; exact (hb'.cell (p := ⟨g, j, none⟩) hg2).trans (hc j hj)⟩
    · exact Nat.lt_of_lt_of_le (hos.lt g (by rw [e]; rfl)).2 hb'.size
    · exact Nat.lt_of_lt_of_le (hou2.lt g (by rw [e]; rfl)).2 hb'.size
  have HMK := Lib.hid hmk
  have HLU := Lib.hid hlu
  have HLS := Lib.hid hls
  have Kr : Hid (∀ w', Below ws.heap.size ws w' → w'.cell? ⟨w.heap.size, 0, none⟩ = some (.int .i64 K) ∧ w'.cell? ⟨w.heap.size, 1, none⟩ = some (.int .i64 t0) ∧ w'.cell? ⟨w.heap.size, 2, none⟩ = some (.int .i64 t1) ∧ w'.cell? ⟨w.heap.size, 3, none⟩ = some (.int .i64 f0) ∧ w'.cell? ⟨w.heap.size, 4, none⟩ = some (.int .i64 f1) ∧ w'.cell? ⟨w.heap.size, 5, none⟩ = some (.int .i64 f2) ∧ w'.cell? ⟨w.heap.size, 6, none⟩ = some (.int .i64 f3) ∧ w'.cell? ⟨w.heap.size, 7, none⟩ = some (.int .u32 N) ) := fun w' h => (HOS.out.below h).cells
  clear hou hou2 hos hbu0 hbs0 hbu hbs hD hfu hfs hmk p0 p1 p2 p3 p4 p5 hlu hls
  generalize (regsOf [f0, f1, f2, f3]).length = lu at HMK HLU huc ⊢
  generalize (regsOf [t0, t1]).length = ls at HMK HLS hsc ⊢
  obtain rfl := HLU.out
  obtain rfl := HLS.out
  go_wp2_with fail
  have hD2 : Below ws.heap.size ws ws.drew := (Below.refl _ ws).drew
  have heq2 := run_eq2_same
  have heq4 := run_eq4_same
  go_region_held3 (fun w' => w'.cell? ⟨w.heap.size, 0, none⟩ = some (.int .i64 K) ∧ w'.cell? ⟨w.heap.size, 1, none⟩ = some (.int .i64 t0) ∧ w'.cell? ⟨w.heap.size, 2, none⟩ = some (.int .i64 t1) ∧ w'.cell? ⟨w.heap.size, 3, none⟩ = some (.int .i64 f0) ∧ w'.cell? ⟨w.heap.size, 4, none⟩ = some (.int .i64 f1) ∧ w'.cell? ⟨w.heap.size, 5, none⟩ = some (.int .i64 f2) ∧ w'.cell? ⟨w.heap.size, 6, none⟩ = some (.int .i64 f3) ∧ w'.cell? ⟨w.heap.size, 7, none⟩ = some (.int .u32 N) )
    (first
      | exact Kr.out _ hD2
      | exact Kr.out _ (hD2.trans hbm))
    (first
      | (go_at_call 27; refine (HMK.out _ hD2).mono ?_; rintro e wm ⟨rfl, hbm0⟩; have hbm := hbm0.mono hD2.size))
  have HBM := Lib.hid (HBS.out.trans ((hD2.trans hbm).mono HBS.out.size))
  clear hbm hbm0 hD2
  go_wp2_with fail
  go_ret
  exact ⟨rfl, HBM.out⟩
set_option maxHeartbeats 8000000 in
theorem vopRight_no (K t0 t1 f0 f1 f2 f3 N : Int) (w : World) (hS : HasRows w) (hN : 0 ≤ N ∧ N < 4294967296)
    (hV : rightV K t0 t1 f0 f1 f2 f3 N = false)
    (hsh : ∀ w, HasRows w → Calls Tryd.prog 23 #[.int .i64 K] w fun e w' => e = .returned (.tuple #[.int .i64 0, .int .i64 0]) ∧ Below w.heap.size w w')
    (hsr : ∀ w, Calls Tryd.prog 24 #[.int .i64 K] w fun e w' => e = .returned (.tuple #[.int .i64 (-1), .int .i64 (-1)]) ∧ Below w.heap.size w w')
    (hnm : ∀ w, Calls Tryd.prog 26 #[.int .i64 K] w fun e w' => e = .returned (.string ByteArray.empty) ∧ Below w.heap.size w w') :
    Calls Tryd.prog 8 #[opV K t0 t1 f0 f1 f2 f3 N] w fun e w' => e = .returned (.bool true) ∧ Below w.heap.size w w' := by
  have HS := Lib.hid hS
  have HSH := Lib.hid hsh
  have HSR := Lib.hid hsr
  have HNM := Lib.hid hnm
  have HN := Lib.hid hN
  have HV : Hid (∀ w, HasRows w → Calls Tryd.prog 17 #[opV K t0 t1 f0 f1 f2 f3 N] w fun e w' => e = .returned (.bool false) ∧ Below w.heap.size w w') := fun w h => by
    have := right_any K t0 t1 f0 f1 f2 f3 N hN.1 hN.2 w h
    rw [hV] at this; exact this
  have HVR : Hid (∀ w, Calls Tryd.prog 25 #[opV K t0 t1 f0 f1 f2 f3 N] w fun e w' => e = .returned (.bool false) ∧ Below w.heap.size w w') := fun w => by
    have := refRight_any K t0 t1 f0 f1 f2 f3 N hN.1 hN.2 w
    rw [hV] at this; exact this
  clear hS hsh hsr hnm hN
  have hB1 := (Below.refl _ w).alloc (Nat.le_refl _) (.cells #[.int .i64 K, .int .i64 t0, .int .i64 t1, .int .i64 f0, .int .i64 f1, .int .i64 f2, .int .i64 f3, .int .u32 N] 37)
  have HB1 := Lib.hid hB1
  have HO1 := Lib.hid (opAt_new w K t0 t1 f0 f1 f2 f3 N)
  clear hB1
  go_enter Tryd.func8, Tryd.ntmps8
  go_wp2_with fail
  generalize w.alloc _ = w1 at HB1 HO1 ⊢
  refine (anchor_any w1).mono ?_
  rintro e w2 ⟨rfl, hb2⟩
  have HB2 := Lib.hid (HB1.out.trans (hb2.mono HB1.out.size))
  have HO2 := Lib.hid (HO1.out.below hb2)
  clear hb2
  obtain ⟨c0, c1, c2, c3, c4, c5, c6, c7⟩ := HO2.out.cells
  have hl2 := lt_of_block HO2.out
  have hd2 : w.heap.size ≠ w2.heap.size := by omega
  have HB3 := Lib.hid (HB2.out.alloc HB2.out.size (.cells #[.int .i64 K, .int .i64 t0, .int .i64 t1, .int .i64 f0, .int .i64 f1, .int .i64 f2, .int .i64 f3, .int .u32 N] 38))
  have HO3 := Lib.hid (HO2.out.below ((Below.refl _ w2).alloc (Nat.le_refl _) (.cells #[.int .i64 K, .int .i64 t0, .int .i64 t1, .int .i64 f0, .int .i64 f1, .int .i64 f2, .int .i64 f3, .int .u32 N] 38)))
  have HX3 := Lib.hid (xAt_new w2 K t0 t1 f0 f1 f2 f3 N)
  go_wp2_with fail
  generalize w2.alloc _ = w3 at HB3 HO3 HX3 ⊢
  generalize w2.heap.size = xb at HX3 hl2 hd2 ⊢
  clear c0 c1 c2 c3 c4 c5 c6 c7
  refine (HSH.out w3 (HS.out.below HB3.out)).mono ?_
  rintro e w4 ⟨rfl, hb4⟩
  have HB4 := Lib.hid (HB3.out.trans (hb4.mono HB3.out.size))
  have HO4 := Lib.hid (HO3.out.below hb4)
  have HX4 := Lib.hid (HX3.out.below hb4)
  clear hb4
  obtain ⟨c0, c1, c2, c3, c4, c5, c6, c7⟩ := HO4.out.cells
  go_wp2_with fail
  refine (HSR.out w4).mono ?_
  rintro e w5 ⟨rfl, hb5⟩
  have HB5 := Lib.hid (HB4.out.trans (hb5.mono HB4.out.size))
  have HO5 := Lib.hid (HO4.out.below hb5)
  have HX5 := Lib.hid (HX4.out.below hb5)
  clear hb5 c0 c1 c2 c3 c4 c5 c6 c7
  obtain ⟨c0, c1, c2, c3, c4, c5, c6, c7⟩ := HO5.out.cells
  obtain ⟨x0, x1, x2, x3, x4, x5, x6, x7⟩ := HX5.out.cells
  go_wp2_with fail
  clear c0 c1 c2 c3 c4 c5 c6 c7 x0 x1 x2 x3 x4 x5 x6 x7
  have Kp : Hid (∀ w', Below w5.heap.size w5 w' → w'.cell? ⟨w.heap.size, 0, none⟩ = some (.int .i64 K) ∧ w'.cell? ⟨w.heap.size, 1, none⟩ = some (.int .i64 t0) ∧ w'.cell? ⟨w.heap.size, 2, none⟩ = some (.int .i64 t1) ∧ w'.cell? ⟨w.heap.size, 3, none⟩ = some (.int .i64 f0) ∧ w'.cell? ⟨w.heap.size, 4, none⟩ = some (.int .i64 f1) ∧ w'.cell? ⟨w.heap.size, 5, none⟩ = some (.int .i64 f2) ∧ w'.cell? ⟨w.heap.size, 6, none⟩ = some (.int .i64 f3) ∧ w'.cell? ⟨w.heap.size, 7, none⟩ = some (.int .u32 N) ∧ w'.cell? ⟨xb, 0, none⟩ = some (.int .i64 K) ∧ w'.cell? ⟨xb, 1, none⟩ = some (.int .i64 t0) ∧ w'.cell? ⟨xb, 2, none⟩ = some (.int .i64 t1) ∧ w'.cell? ⟨xb, 3, none⟩ = some (.int .i64 f0) ∧ w'.cell? ⟨xb, 4, none⟩ = some (.int .i64 f1) ∧ w'.cell? ⟨xb, 5, none⟩ = some (.int .i64 f2) ∧ w'.cell? ⟨xb, 6, none⟩ = some (.int .i64 f3) ∧ w'.cell? ⟨xb, 7, none⟩ = some (.int .u32 N) ) := fun w' h => by
    obtain ⟨c0, c1, c2, c3, c4, c5, c6, c7⟩ := (HO5.out.below h).cells
    obtain ⟨x0, x1, x2, x3, x4, x5, x6, x7⟩ := (HX5.out.below h).cells
    exact ⟨c0, c1, c2, c3, c4, c5, c6, c7, x0, x1, x2, x3, x4, x5, x6, x7⟩
  have HH5 := Lib.hid (HS.out.below HB5.out)
  have hD : Below w5.heap.size w5 w5.drew := (Below.refl _ w5).drew
  go_region_held3 (fun w' => w'.cell? ⟨w.heap.size, 0, none⟩ = some (.int .i64 K) ∧ w'.cell? ⟨w.heap.size, 1, none⟩ = some (.int .i64 t0) ∧ w'.cell? ⟨w.heap.size, 2, none⟩ = some (.int .i64 t1) ∧ w'.cell? ⟨w.heap.size, 3, none⟩ = some (.int .i64 f0) ∧ w'.cell? ⟨w.heap.size, 4, none⟩ = some (.int .i64 f1) ∧ w'.cell? ⟨w.heap.size, 5, none⟩ = some (.int .i64 f2) ∧ w'.cell? ⟨w.heap.size, 6, none⟩ = some (.int .i64 f3) ∧ w'.cell? ⟨w.heap.size, 7, none⟩ = some (.int .u32 N) ∧ w'.cell? ⟨xb, 0, none⟩ = some (.int .i64 K) ∧ w'.cell? ⟨xb, 1, none⟩ = some (.int .i64 t0) ∧ w'.cell? ⟨xb, 2, none⟩ = some (.int .i64 t1) ∧ w'.cell? ⟨xb, 3, none⟩ = some (.int .i64 f0) ∧ w'.cell? ⟨xb, 4, none⟩ = some (.int .i64 f1) ∧ w'.cell? ⟨xb, 5, none⟩ = some (.int .i64 f2) ∧ w'.cell? ⟨xb, 6, none⟩ = some (.int .i64 f3) ∧ w'.cell? ⟨xb, 7, none⟩ = some (.int .u32 N) )
    (first
      | exact Kp.out _ hD
      | exact Kp.out _ (hD.trans hba)
      | exact Kp.out _ ((hD.trans hba).trans hbb)
      | exact Kp.out _ (((hD.trans hba).trans hbb).trans hbc))
    (first
      | (go_at_call 17; refine (HV.out _ (HH5.out.below hD)).mono ?_; rintro e wa ⟨rfl, hba0⟩; have hba := hba0.mono hD.size)
      | (go_at_call 25; refine (HVR.out _).mono ?_; rintro e wb ⟨rfl, hbb0⟩; have hbb := hbb0.mono (hD.trans hba).size)
      | (go_at_call 26; refine (HNM.out _).mono ?_; rintro e wc ⟨rfl, hbc0⟩; have hbc := hbc0.mono ((hD.trans hba).trans hbb).size))
  have hbC := ((hD.trans hba).trans hbb).trans hbc
  have HBC := Lib.hid (HB5.out.trans (hbC.mono HB5.out.size))
  have HXC := Lib.hid (HX5.out.below hbC)
  clear hbC hba0 hbb0 hbc0 hba hbb hbc hD
  obtain ⟨x0, x1, x2, x3, x4, x5, x6, x7⟩ := HXC.out.cells
  go_wp2_with fail
  refine (HVR.out wc).mono ?_
  rintro e w7 ⟨rfl, hb7⟩
  have HB7 := Lib.hid (HBC.out.trans (hb7.mono HBC.out.size))
  clear hb7
  go_wp2_with fail
  go_ret
  exact ⟨rfl, HB7.out⟩
end Go.Proofs.YtmkencdkglbpbaaDoor
