/- MemPlays: the walk. -/
import Derived.Test.YtpfeddfbmnimlaaPlayE
import Derived.Test.YtpfeddfbmnimlaaLawLeast
import Derived.Test.YtpfeddfbmnimlaaConv
set_option maxRecDepth 100000
set_option linter.unusedVariables false
namespace Go.Proofs.Ytpfeddfbmnimlaa
open Go.RowKit Go.Shelf

attribute [local go_sem] Oper.semAt_some

theorem toldL_zero : ∀ n, toldL (fun _ => 0) n = []
  | 0 => rfl
  | n + 1 => by rw [toldL_no (m := fun _ => 0) rfl, toldL_zero n]

/-- Two new boxes. -/
theorem two_boxes (w : World) (u v : Value) (s t : TypeId) : ∃ w8 : World, (w.alloc (.cells #[u] s)).alloc (.cells #[v] t) = w8 ∧ w8.heap.size = w.heap.size + 2 ∧
    w8.cell? ⟨w.heap.size, 0, none⟩ = some u ∧ w8.frozen? ⟨w.heap.size, 0, none⟩ = false ∧ w8.cell? ⟨w.heap.size + 1, 0, none⟩ = some v ∧ Below w.heap.size w w8 := by
  have c0 := cell_new w u s
  have c1 := cell_new (w.alloc (.cells #[u] s)) v t
  simp only [World.size_alloc] at c1
  exact ⟨_, rfl, by simp, cell_old _ c0.1, frozen_old _ c0.1 c0.2, c1.1, ((Below.refl _ w).alloc (Nat.le_refl _) _).alloc (by simp) _⟩

theorem toldL_len (m : Nat → Int) : ∀ j, (toldL m j).length ≤ j
  | 0 => Nat.le_refl _
  | j + 1 => by
    have ih := toldL_len m j
    rw [toldL]
    split
    · rw [List.length_append, List.length_singleton]; omega
    · omega

theorem keeps_of_below {A B : World} (h : Below A.heap.size A B) : KeepsOthers A B :=
  ⟨h.size, fun k o hk _ => (h.block k (Array.getElem?_eq_some_iff.1 hk).1).trans hk⟩

theorem count_take {L : List (Int × Int)} (k : Nat) (hk : k < L.length) : ((L.take (k + 1)).filter (fun p => p.2 != 0)).length = ((L.take k).filter (fun p => p.2 != 0)).length + (if (L[k]).2 != 0 then 1 else 0) := by
  rw [List.take_succ_eq_append_getElem hk, List.filter_append, List.length_append]
  congr 1
  simp only [List.filter_cons, List.filter_nil]
  split <;> rfl

set_option maxHeartbeats 8000000 in
theorem memPlays_walk (a : Option Addr) (n cap : Nat) (F : List Int) (oa : Option Addr) (N ocap : Nat) (O : List (Int × Int × Int)) (w : World) (hF : ByteRow w a n F) (hcap : a = none → n = 0 ∧ cap = 0) (hnc : n ≤ cap) (hO : OpRow w oa N O) (hNc : N ≤ ocap) (hoc : ocap ≤ maxLen) (hmx : cap ≤ maxLen) :
    Calls Try.prog 7 #[.slice a n cap, .slice oa N ocap] w fun e w' => e = .returned (.bool true) ∧ Below w.heap.size w w' := by
  unfold maxLen at hoc hmx
  have HF := Lib.hid hF
  have Hcap := Lib.hid hcap
  have HO := Lib.hid hO
  clear hF hcap hO
  refine (callsIn_wide (n := 10)).1 ?_
  refine callsIn_of_wp_marks Try.func7 rfl trivial ?_ rfl
  simp only [Try.ntmps7, List.size_toArray, List.length_cons, List.length_nil, Nat.reduceAdd, Nat.reduceSub, Array.replicate_succ, Array.replicate_zero, List.push_toArray, List.append_toArray, List.nil_append, List.cons_append]
  gi_wp2
  have hbx : ∃ w4 : World, w.alloc (.cells #[.bool false] 4) = w4 ∧ w4.heap.size = w.heap.size + 1 ∧ w4.cell? ⟨w.heap.size, 0, none⟩ = some (.bool false) ∧ w4.frozen? ⟨w.heap.size, 0, none⟩ = false ∧ Below w.heap.size w w4 :=
    ⟨_, rfl, by simp, (cell_of_box (World.alloc_heap_new w _)).1, (cell_of_box (World.alloc_heap_new w _)).2, (Below.refl _ w).alloc (Nat.le_refl _) _⟩
  obtain ⟨w4, hw4, hs4, k3, k3f, hB4⟩ := hbx
  rw [hw4]
  have K3 := Lib.hid k3
  have K3f := Lib.hid k3f
  have HB4 := Lib.hid hB4
  have hl3 : w.heap.size < w4.heap.size := by omega
  clear hw4 k3 k3f hB4 hs4
  refine ⟨trivial, (callsIn_wide.2 (anchor06 w4)).mono ?_⟩
  rintro ee w5 ⟨rfl, hb5⟩
  have HB5 := Lib.hid hb5
  have hsz5 := hb5.size
  have k3 := (HB5.out.cell (p := ⟨w.heap.size, 0, none⟩) hl3).trans K3.out
  have k3f := (HB5.out.frozen (p := ⟨w.heap.size, 0, none⟩) hl3).trans K3f.out
  clear hb5
  have hend : ∀ W, Below w4.heap.size w4 W → Below w.heap.size w (W.setCell ⟨w.heap.size, 0, none⟩ (.bool true)) := fun W h => (HB4.out.trans (h.mono HB4.out.size)).setCell (p := ⟨w.heap.size, 0, none⟩) (Nat.le_refl _) _
  have Hend := Lib.hid hend
  clear hend
  by_cases hbig : 300 < n
  · have e1 : decide ((300 : Int) < (n : Int)) = true := by simp; omega
    gi_wp2
    have hc5 := World.cell?_setCell_same' w5 ⟨w.heap.size, 0, none⟩ (.bool true) (by rw [k3]; rfl)
    refine ⟨.bool true, ?_, rfl, Hend.out w5 HB5.out⟩
    simp [results, Try.f7, go_sem, hc5]
  by_cases hbig2 : 60 < N
  · have e1 : decide ((300 : Int) < (n : Int)) = false := by simp; omega
    have e2 : decide ((60 : Int) < (N : Int)) = true := by simp; omega
    gi_wp2
    have hc5 := World.cell?_setCell_same' w5 ⟨w.heap.size, 0, none⟩ (.bool true) (by rw [k3]; rfl)
    refine ⟨.bool true, ?_, rfl, Hend.out w5 HB5.out⟩
    simp [results, Try.f7, go_sem, hc5]
  have e1 : decide ((300 : Int) < (n : Int)) = false := by simp; omega
  have e2 : decide ((60 : Int) < (N : Int)) = false := by simp; omega
  gi_wp2
  refine ⟨trivial, (callsIn_wide.2 (new_any a n cap F w5 (HF.out.below (HB4.out.trans (HB5.out.mono HB4.out.size))) (by omega) Hcap.out)).mono ?_⟩
  intro ee w6 hnew
  obtain ⟨bm, fv, rg, rfl, hM, hb6⟩ := hnew
  have hb6s := hb6.size
  have hbm := lt_of_block hM.blk
  have hrg := hM.hrs
  have hbm5 := hM.hb
  have hrg5 := hM.hr
  obtain ⟨w7, hw7⟩ : ∃ w7, w7 = w6.alloc (.cells #[.slice a n cap, .slice none 0 0] 45) := ⟨_, rfl⟩
  obtain ⟨bx, hbx⟩ : ∃ bx, bx = w6.heap.size := ⟨_, rfl⟩
  have hbox7 : w7.heap[bx]? = some (.cells #[.slice a n cap, .slice none 0 0] 45 (0, 0)) := by rw [hw7, hbx]; exact World.alloc_heap_new w6 _
  have hB7 : Below w6.heap.size w6 w7 := by rw [hw7]; exact (Below.refl _ _).alloc (Nat.le_refl _) _
  have HBox7 := Lib.hid hbox7
  have hs7 : bx < w7.heap.size := lt_of_block hbox7
  have HB7 := Lib.hid hB7
  have HM7 := Lib.hid (hM.below hB7)
  have HB57 := Lib.hid (hb6.trans (hB7.mono hb6.size))
  clear hM hb6 hbox7 hB7
  gi_wp2
  rw [← hw7, ← hbx]
  clear hw7
  refine ⟨trivial, (callsIn_wide.2 (copy_any HM7.out)).mono ?_⟩
  rintro ee w8 ⟨cb, crg, rfl, hcopy, hcb, hcrg, hb8⟩
  have hS : St w5 w8 bm fv rg F bx a n cap cb crg [] (fun _ => 0) none 0 := {
    mem := HM7.out.below hb8
    row := ⟨rfl, .inl rfl⟩
    capl := Nat.le_refl _
    box := (hb8.block _ hs7).trans HBox7.out
    ap1 := fun g e => by cases e
    ap2 := fun g e => by cases e
    copy := hcopy
    bel := HB57.out.trans (hb8.mono HB57.out.size)
    n1 := by omega
    n2 := by omega
    n3 := by omega
    n4 := by omega
    n5 := by omega
    n6 := by omega
    n7 := by omega }
  have HS := Lib.hid hS
  clear hS hcopy hcb hcrg hb8 hbx
  gi_wp2
  gi_loopw [56] (fun i wr => ∃ (k : Nat) (L : List (Int × Int)) (m : Nat → Int) (lx : Option Addr) (lc : Nat), k ≤ N ∧ i = .int .i64 k ∧ St w5 wr bm fv rg F bx a n cap cb crg L m lx lc ∧ Inv L m ∧ L.length ≤ k) (fun i _ => N - (intOf i).toNat)
  case atStart => exact ⟨0, [], fun _ => 0, none, 0, Nat.zero_le _, rfl, HS.out, inv_nil, Nat.le_refl _⟩
  case round =>
    obtain ⟨k, L, m, lx, lc, hk, rfl, hS, hI, hLk⟩ := hrel
    have HS := Lib.hid hS
    have HI := Lib.hid hI
    clear hS hI
    by_cases hlt : k < N
    · obtain ⟨hOl, hOb, hOc⟩ := HO.out
      obtain ⟨ob, oo, rfl, hob, hocell⟩ := hOc.resolve_left (by omega)
      have HBw := Lib.hid (HB4.out.trans ((HB5.out.trans (HS.out.bel.mono hsz5)).mono HB4.out.size))
      obtain ⟨o0, o1, o2⟩ := hocell k (by omega)
      have c0 := (HBw.out.cell (p := ⟨ob, oo + k * 3, none⟩) hob).trans o0
      have c1 := (HBw.out.cell (p := ⟨ob, oo + k * 3 + 1, none⟩) hob).trans o1
      have c2 := (HBw.out.cell (p := ⟨ob, oo + k * 3 + 2, none⟩) hob).trans o2
      have hb := hOb _ (List.getElem_mem (show k < O.length by omega))
      obtain ⟨K, A, X, hKAX⟩ : ∃ K A X, O[k]'(by omega) = (K, A, X) := ⟨_, _, _, rfl⟩
      rw [hKAX] at c0 c1 c2 hb
      simp only at c0 c1 c2 hb
      obtain ⟨hA0, hA1, hX0, hX1⟩ := hb
      obtain ⟨wa, hwa⟩ : ∃ wa, wa = wr.alloc (.cells #[.int .i64 K, .int .u32 A, .int .u32 X] 48) := ⟨_, rfl⟩
      have hSa : St w5 wa bm fv rg F bx a n cap cb crg L m lx lc := HS.out.below (by rw [hwa]; exact (Below.refl _ _).alloc (Nat.le_refl _) _)
      obtain ⟨x0, x1⟩ := two_cells HS.out.box
      have hbxl := lt_of_block HS.out.box
      have hbxn : bx ≠ wr.heap.size := by omega
      have hbxn' : wr.heap.size ≠ bx := by omega
      have y0 : wa.cell? ⟨wr.heap.size, 0, none⟩ = some (.int .i64 K) := by rw [hwa]; exact World.cell?_alloc_at _ _ _ _ rfl
      have y1 : wa.cell? ⟨wr.heap.size, 1, none⟩ = some (.int .u32 A) := by rw [hwa]; exact World.cell?_alloc_at _ _ _ _ rfl
      have y2 : wa.cell? ⟨wr.heap.size, 2, none⟩ = some (.int .u32 X) := by rw [hwa]; exact World.cell?_alloc_at _ _ _ _ rfl
      have hya : wr.heap.size < wa.heap.size := by rw [hwa]; simp
      have HSa := Lib.hid hSa
      have HY0 := Lib.hid y0
      have HY1 := Lib.hid y1
      have HY2 := Lib.hid y2
      have wq : IntKind.i64.wrap ((k : Int) + 1) = (k : Int) + 1 := IntWalk.i64_in _ (by omega)
      have HFa := Lib.hid (HF.out.below (HB4.out.trans ((HB5.out.trans (hSa.bel.mono hsz5)).mono HB4.out.size)))
      clear hOl hOb hOc hocell o0 o1 o2 hKAX hSa y0 y1 y2
      by_cases hk1 : K = 1
      · subst hk1
        gi_wp2
        rw [← hwa]
        clear hwa x0 x1 c0 c1 c2
        refine ⟨trivial, (callsIn_wide.2 (refStore_any a n cap lx L.length lc L A X wa HSa.out.row HSa.out.capl (by omega) hA0 hA1)).mono ?_⟩
        rintro ee wb ⟨lx', q', lc', rfl, hLR, hlc', hbb, hap⟩
        obtain rfl := hLR.1
        have hSb := HSa.out.below hbb
        have hS2 := hSb.boxed hLR hlc' (by
          rcases hap with rfl | hap
          · exact HSa.out.ap1
          · intro g e; have := hap g e; have := HSa.out.mem.hrs; omega) (by
          rcases hap with rfl | hap
          · exact HSa.out.ap2
          · intro g e; have := hap g e; have := lt_of_block HSa.out.box; omega)
        obtain ⟨x0, x1⟩ := two_cells hSb.box
        have xf0 : wb.frozen? ⟨bx, 0, none⟩ = false := by simp [World.frozen?, hSb.box]
        have xf1 : wb.frozen? ⟨bx, 1, none⟩ = false := by simp [World.frozen?, hSb.box]
        have y1 := (hbb.cell (p := ⟨wr.heap.size, 1, none⟩) hya).trans HY1.out
        have y2 := (hbb.cell (p := ⟨wr.heap.size, 2, none⟩) hya).trans HY2.out
        have HS2 := Lib.hid hS2
        clear hSb hS2 hbb hap hLR
        gi_wp2
        refine ⟨trivial, (callsIn_wide.2 (store_any HS2.out.mem A hA0 hA1 X hX0 hX1)).mono ?_⟩
        rintro ee wc ⟨rfl, hst⟩
        have HS3 := Lib.hid (HS2.out.stored hst)
        clear hst
        have hln := refL_len L A X
        gi_wp2
        exact ⟨⟨k + 1, _, _, _, _, by omega, by simp, HS3.out, inv_store HI.out A X hX0 hX1, by omega⟩, by simp only [intOf]; omega⟩
      · have q1 : (K == 1) = false := by simpa using hk1
        by_cases hk2 : K = 2
        · subst hk2
          gi_wp2
          rw [← hwa]
          clear hwa x0 x1 c0 c1 c2
          obtain ⟨x0, x1⟩ := two_cells HSa.out.box
          refine ⟨trivial, (callsIn_wide.2 (load_any HSa.out.mem A hA0 hA1)).mono ?_⟩
          rintro ee wb ⟨rfl, rfl⟩
          have y1 := HY1.out
          gi_wp2
          refine ⟨trivial, (callsIn_wide.2 (refLoad_any a n cap F lx L.length lc L m A wb HFa.out (by omega) HSa.out.row HI.out HSa.out.capl (by omega) hA0 hA1)).mono ?_⟩
          rintro ee wc ⟨rfl, hbc⟩
          have HSc := Lib.hid (HSa.out.below hbc)
          clear hbc
          gi_wp2
          exact ⟨⟨k + 1, _, _, _, _, by omega, by simp, HSc.out, HI.out, by omega⟩, by simp only [intOf]; omega⟩
        · have q2 : (K == 2) = false := by simpa using hk2
          by_cases hk3 : K = 3
          · subst hk3
            gi_wp2
            rw [← hwa]
            clear hwa x0 x1 c0 c1 c2
            refine ⟨trivial, (callsIn_wide.2 (half_any HSa.out.mem A hA0 hA1)).mono ?_⟩
            rintro ee wb ⟨rfl, hdr⟩
            have hbb := below_drawn (Below.refl wa.heap.size wa) hdr
            have HSb := Lib.hid (HSa.out.below hbb)
            obtain ⟨x0, x1⟩ := two_cells HSb.out.box
            have y1 := (hbb.cell (p := ⟨wr.heap.size, 1, none⟩) hya).trans HY1.out
            have HFb := Lib.hid (HFa.out.below (hbb.mono (Nat.le_refl _)))
            clear hdr hbb
            gi_wp2
            refine ⟨trivial, (callsIn_wide.2 (refHalf_any a n cap F (.slice lx L.length lc) A wb HFb.out (by omega) hA0 hA1)).mono ?_⟩
            rintro ee wc ⟨rfl, hbc⟩
            have HSc := Lib.hid (HSb.out.below hbc)
            clear hbc
            gi_wp2
            exact ⟨⟨k + 1, _, _, _, _, by omega, by simp, HSc.out, HI.out, by omega⟩, by simp only [intOf]; omega⟩
          · have q3 : (K == 3) = false := by simpa using hk3
            gi_wp2
            rw [← hwa]
            exact ⟨⟨k + 1, _, _, _, _, by omega, by simp, HSa.out, HI.out, by omega⟩, by simp only [intOf]; omega⟩
    · obtain rfl : k = N := by omega
      gi_wp2
      refine ⟨trivial, (callsIn_wide.2 (ram_any (some ⟨cb, 0, none⟩) _)).mono ?_⟩
      rintro ee wz ⟨rfl, rfl⟩
      obtain ⟨w8', hw8, hs8, j0, j0f, j1, hB8⟩ := two_boxes wr (.int .i64 0) (.pointer (some ⟨cb, 0, none⟩)) 3 25
      simp only [World.size_alloc]
      rw [hw8]
      obtain ⟨p0, g0⟩ : ∃ p0, p0 = wr.heap.size := ⟨_, rfl⟩
      obtain ⟨p1, g1⟩ : ∃ p1, p1 = p0 + 1 := ⟨_, rfl⟩
      rw [← g0] at hs8 j0 j0f j1 hB8 ⊢
      rw [← g1] at j1 ⊢
      have HR8 := Lib.hid (HS.out.copy.ramAt (fun i => by omega) (n₀ := p0) (by rw [← g0]; exact hB8) (by omega) j1)
      have G0 := Lib.hid g0
      have HB8 := Lib.hid hB8
      have hp0 : p0 < w8'.heap.size := by omega
      have hp1 : p1 < w8'.heap.size := by omega
      have hp01 : p0 < p1 := by omega
      have J0 := Lib.hid j0
      have J0f := Lib.hid j0f
      clear hs8 hB8 g0 g1 hw8 j0 j0f j1
      gi_wp2
      refine wpIn_rangeFunc_ownF rfl (by omega) (gf := 22) (lb := #[.pointer (some ⟨p1, 0, none⟩)]) rfl trivial (enters_of Try.func22 (by kernel_rfl) rfl)
        (ram_stops 9 (by omega) p1 cb crg p0 (fun _ => 0) w8' (by omega) hp1 HR8.out) KeepR.trans (KeepR.put (by omega) hp1) (Below.refl _ _) (fun _ => rfl)
        (fun pre W => Below w8'.heap.size w8' W)
        (fun _ _ _ => False)
        (ownFrom_below (Nat.le_refl _) (Nat.le_refl _))
        (fun _ _ _ _ _ hs _ _ => hs)
        (Below.refl _ _)
        (fun x => { tmps := #[.slice a n cap, .slice oa k ocap, undef, undef, .pointer (some ⟨w.heap.size, 0, none⟩), .pointer (some ⟨bm, 0, none⟩), .int .i64 0, .pointer (some ⟨bx, 0, none⟩), .pointer (some ⟨cb, 0, none⟩), undef, u10, u11, u12, u13, u14, u15, u16, u17, u18, u19, .pointer (some ⟨p0, 0, none⟩), undef, undef, undef, undef, undef, undef, undef, undef, .bool true, .bool false, .slice a n cap, .int .i64 (n : Int), .bool false, .bool false, .slice oa k ocap, .int .i64 (k : Int), .bool false, .bool false, .tuple #[.pointer (some ⟨bm, 0, none⟩), .int .i64 0], .slice a n cap, .tuple #[.pointer (some ⟨bm, 0, none⟩), .int .i64 0], .pointer (some ⟨bm, 0, none⟩), .int .i64 0, .int .i64 0, .bool false, .bool false, .pointer (some ⟨bm, 0, none⟩), .bool false, .bool false, .slice a n cap, .agg #[.slice a n cap, .slice none 0 0], .pointer (some ⟨bm, 0, none⟩), .pointer (some ⟨cb, 0, none⟩), .slice oa k ocap, .int .i64 (k : Int), .int .i64 (k : Int), .bool false, u58, u59, u60, u61, u62, u63, u64, u65, u66, u67, u68, u69, u70, u71, u72, u73, u74, u75, u76, u77, u78, u79, u80, u81, u82, u83, u84, u85, u86, u87, u88, u89, u90, u91, u92, u93, u94, u95, u96, u97, u98, u99, u100, u101, u102, u103, u104, u105, u106, u107, u108, u109, u110, u111, u112, u113, u114, u115, u116, u117, u118, u119, u120, u121, u122, u123, u124, u125, u126, u127, u128, u129, .pointer (some ⟨cb, 0, none⟩), .func (Fn.func 22) #[] #[.pointer (some ⟨p1, 0, none⟩)], .int .u32 (536870912 + ((4 * x.1 : Nat) : Int)), .int .u32 0, undef, undef, undef, undef, undef, undef, undef, undef, undef, undef, undef, undef, undef, undef, undef, undef, undef, undef, undef, undef, undef, undef, undef, undef, undef, undef, undef, undef, undef, undef, undef, undef, undef, undef, undef, undef, undef, undef, undef, undef, undef, undef, undef, undef, undef, undef, undef, undef, undef, undef, undef, undef, undef], defers := [] }) ?assign ?body ?done ?stop
      case assign =>
        intro l x W K hK
        gi_wp2
        exact hK
      case body =>
        intro l pre x W hI hlen
        exact absurd hlen (by rw [toldL_zero]; simp)
      case stop =>
        rintro D c pre W _ _ h _
        exact h.elim
      case done =>
        rintro D ys W hD - hBW hKD
        have HKD := Lib.hid hKD
        have HBW := Lib.hid hBW
        have HB9 := Lib.hid (HB8.out.trans (hBW.mono (by omega)))
        have hDl : D < W.heap.size := (Array.getElem?_eq_some_iff.1 hKD).1
        have j0 := (hBW.cell (p := ⟨p0, 0, none⟩) hp0).trans J0.out
        have j0f := (hBW.frozen (p := ⟨p0, 0, none⟩) hp0).trans J0f.out
        clear hKD hBW
        gi_wp2
        refine ⟨trivial, (callsIn_wide.2 (ram_any (some ⟨bm, 0, none⟩) _)).mono ?_⟩
        rintro ee wz ⟨rfl, rfl⟩
        obtain ⟨wA, hwA, hsA, i0, i0f, i1, hBA⟩ := two_boxes W (.int .u32 0) (.pointer (some ⟨bm, 0, none⟩)) 23 25
        simp only [World.size_alloc]
        rw [hwA]
        obtain ⟨p2, g2⟩ : ∃ p2, p2 = W.heap.size := ⟨_, rfl⟩
        obtain ⟨p3, g3⟩ : ∃ p3, p3 = p2 + 1 := ⟨_, rfl⟩
        rw [← g2] at hsA i0 i0f i1 hBA ⊢
        rw [← g3] at i1 ⊢
        have HBA := Lib.hid (HB9.out.trans (hBA.mono (by have := HB9.out.size; have := G0.out; omega)))
        have hW9 := HB9.out.size
        have hBWs := HBW.out.size
        have HR2 := Lib.hid (HS.out.mem.ramAt (W := wA) (n₀ := p0) (by rw [← G0.out]; exact HBA.out) (by have := G0.out; omega) i1)
        have J0A := Lib.hid ((hBA.cell (p := ⟨p0, 0, none⟩) (show p0 < p2 by omega)).trans j0)
        have J0fA := Lib.hid ((hBA.frozen (p := ⟨p0, 0, none⟩) (show p0 < p2 by omega)).trans j0f)
        have HKA : Hid (wA.heap[D]? = some (.deferred (some []))) := (hBA.block D (by omega)).trans HKD.out
        have I0 := Lib.hid i0
        have I0f := Lib.hid i0f
        have hp0A : p0 < wA.heap.size := by have := HBW.out.size; omega
        have hp2A : p2 < wA.heap.size := by omega
        have hp3A : p3 < wA.heap.size := by omega
        have hp02 : p0 < p2 := by have := HBW.out.size; omega
        have hp23 : p2 < p3 := by omega
        have hDA : D < wA.heap.size := by omega
        have hDp0 : D ≠ p0 := by omega
        have hDp2 : D ≠ p2 := by omega
        clear hBA hwA hsA i0 i0f i1 g2 g3 j0 j0f
        gi_wp2
        refine wpIn_rangeFunc_ownF rfl (by omega) (gf := 22) (lb := #[.pointer (some ⟨p3, 0, none⟩)]) rfl trivial (enters_of Try.func22 (by kernel_rfl) rfl)
          (ram_stops 9 (by omega) p3 bm rg p0 m wA (by omega) hp3A HR2.out) KeepR.trans (KeepR.put (by omega) hp3A) (Below.refl _ _) (fun _ => rfl)
          (fun pre W => (W.cell? ⟨p0, 0, none⟩ = some (.int .i64 (pre.length : Int)) ∧ W.frozen? ⟨p0, 0, none⟩ = false ∧ W.cell? ⟨p2, 0, none⟩ = some (.int .u32 (lastOf pre)) ∧ W.frozen? ⟨p2, 0, none⟩ = false) ∧ (Below p0 wr W ∧ (W.heap[D]? = some (.deferred (some [])) ∧ wA.heap.size ≤ W.heap.size)))
          (fun c pre W => ¬ Rising pre)
          (OwnFrom.and (Own.from (fun s A B row hs hg hr => ⟨cell_kept hs.1 hg hr, (frozen_kept hs.1 hg hr).trans hs.2.1, cell_kept hs.2.2.1 hg hr, (frozen_kept hs.2.2.1 hg hr).trans hs.2.2.2⟩) _) (OwnFrom.and (ownFrom_below (by rw [G0.out]; exact Nat.le_refl _) (by omega)) (fun s A B row hs hg hr => ⟨(hg.block D (Array.getElem?_eq_some_iff.1 hs.1).1 (fun e => by have := (hr D e.symm).1; omega)).trans hs.1, Nat.le_trans hs.2 hg.size⟩)))
          (fun c s A B row hs hg hr => hs)
          ⟨⟨J0A.out, J0fA.out, by simpa [lastOf] using I0.out, I0f.out⟩, HBA.out, HKA, Nat.le_refl _⟩
          (fun x => { tmps := #[.slice a n cap, .slice oa k ocap, undef, undef, .pointer (some ⟨w.heap.size, 0, none⟩), .pointer (some ⟨bm, 0, none⟩), .int .i64 0, .pointer (some ⟨bx, 0, none⟩), .pointer (some ⟨cb, 0, none⟩), undef, u10, u11, u12, u13, u14, u15, u16, u17, u18, u19, .pointer (some ⟨p0, 0, none⟩), .pointer (some ⟨p2, 0, none⟩), .int .u32 (536870912 + ((4 * x.1 : Nat) : Int)), .int .u32 (m x.1), undef, undef, undef, undef, undef, .bool true, .bool false, .slice a n cap, .int .i64 (n : Int), .bool false, .bool false, .slice oa k ocap, .int .i64 (k : Int), .bool false, .bool false, .tuple #[.pointer (some ⟨bm, 0, none⟩), .int .i64 0], .slice a n cap, .tuple #[.pointer (some ⟨bm, 0, none⟩), .int .i64 0], .pointer (some ⟨bm, 0, none⟩), .int .i64 0, .int .i64 0, .bool false, .bool false, .pointer (some ⟨bm, 0, none⟩), .bool false, .bool false, .slice a n cap, .agg #[.slice a n cap, .slice none 0 0], .pointer (some ⟨bm, 0, none⟩), .pointer (some ⟨cb, 0, none⟩), .slice oa k ocap, .int .i64 (k : Int), .int .i64 (k : Int), .bool false, u58, u59, u60, u61, u62, u63, u64, u65, u66, u67, u68, u69, u70, u71, u72, u73, u74, u75, u76, u77, u78, u79, u80, u81, u82, u83, u84, u85, u86, u87, u88, u89, u90, u91, u92, u93, u94, u95, u96, u97, u98, u99, u100, u101, u102, u103, u104, u105, u106, u107, u108, u109, u110, u111, u112, u113, u114, u115, u116, u117, u118, u119, u120, u121, u122, u123, u124, u125, u126, u127, u128, u129, .pointer (some ⟨cb, 0, none⟩), .func (Fn.func 22) #[] #[.pointer (some ⟨p1, 0, none⟩)], undef, undef, .pointer (some ⟨bm, 0, none⟩), .func (Fn.func 22) #[] #[.pointer (some ⟨p3, 0, none⟩)], .int .u32 (536870912 + ((4 * x.1 : Nat) : Int)), .int .u32 (m x.1), undef, undef, undef, undef, undef, undef, undef, undef, undef, undef, undef, undef, undef, undef, undef, undef, undef, undef, undef, undef, undef, undef, undef, undef, undef, undef, undef, undef, undef, undef, undef, undef, undef, undef, undef, undef, undef, undef, undef, undef, undef, undef, undef, undef, undef, undef, undef, undef, undef], defers := [] }) ?assign2 ?body2 ?done2 ?stop2
        case assign2 =>
          intro l x W K hK
          gi_wp2
          exact hK
        case body2 =>
          rintro l pre x W2 ⟨⟨c0, c0f, c1, c1f⟩, hBW2, hKD2, hsA2⟩ hlen
          have hb2 : Below wr.heap.size wr W2 := by rw [← G0.out]; exact hBW2
          have HB2 := Lib.hid hb2
          have HS2 := Lib.hid (HS.out.below hb2)
          have HFa := Lib.hid (HF.out.below (HB4.out.trans ((HB5.out.trans (HS2.out.bel.mono hsz5)).mono HB4.out.size)))
          have HBp := Lib.hid hBW2
          have HKD2 := Lib.hid hKD2
          have hq0 : p0 < W2.heap.size := World.block_lt_of_cell? _ _ c0
          have hq2 : p2 < W2.heap.size := World.block_lt_of_cell? _ _ c1
          have hDl2 : D < W2.heap.size := (Array.getElem?_eq_some_iff.1 hKD2).1
          clear hb2 hBW2 hKD2
          obtain ⟨A, hA⟩ : ∃ A : Int, A = 536870912 + ((4 * x.1 : Nat) : Int) := ⟨_, rfl⟩
          obtain ⟨V, hV⟩ : ∃ V : Int, V = m x.1 := ⟨_, rfl⟩
          rw [← hA, ← hV]
          have hx1 := x.2.1
          have hx2 := x.2.2
          rw [← hV] at hx2
          have hload : loadV F m A = (V, 0) := by
            unfold loadV
            rw [if_neg (by omega), if_pos (by omega), hV, show ((A - 536870912) / 4).toNat = x.1 from by omega]
          have hlast := lastOf_snoc pre x
          rw [← hA] at hlast
          have hrise : Rising (pre ++ [x]) → lastOf pre < A := fun h => by rw [hA]; exact lastOf_lt h
          obtain ⟨T, hT⟩ : ∃ T, T = lastOf pre := ⟨_, rfl⟩
          rw [← hT] at c1 hrise
          have hA0 : 0 ≤ A ∧ A < 4294967296 := by omega
          have hV0 : (V == 0) = false := by simpa using hx2
          have HLd := Lib.hid hload
          have Hlast := Lib.hid hlast
          have Hrise := Lib.hid hrise
          have C0 := Lib.hid c0
          have C0f := Lib.hid c0f
          have C1 := Lib.hid c1
          have C1f := Lib.hid c1f
          have hlenp : pre.length ≤ 16384 := by
            have := toldL_len m 16384; omega
          have wqf : IntKind.i64.wrap ((pre.length : Int) + 1) = (pre.length : Int) + 1 := IntWalk.i64_in _ (by omega)
          obtain ⟨x0, x1⟩ := two_cells HS2.out.box
          clear hA hV hload hlast hrise hT hx1 hx2 c0 c0f c1 c1f
          gi_wp2
          refine ⟨trivial, (CallsIn.inRound l (callsIn_wide.2 (refLoad_any a n cap F lx L.length lc L m A W2 HFa.out (by omega) HS2.out.row HI.out HS2.out.capl (by omega) hA0.1 hA0.2))).mono ?_⟩
          rintro ee W3 ⟨rfl, hb3⟩
          rw [HLd.out]
          have HB3 := Lib.hid hb3
          have HK3 := Lib.hid (keeps_of_below hb3)
          have c0 := (hb3.cell (p := ⟨p0, 0, none⟩) hq0).trans C0.out
          have c0f := (hb3.frozen (p := ⟨p0, 0, none⟩) hq0).trans C0f.out
          have c1 := (hb3.cell (p := ⟨p2, 0, none⟩) hq2).trans C1.out
          have c1f := (hb3.frozen (p := ⟨p2, 0, none⟩) hq2).trans C1f.out
          have HB43 := Lib.hid (HB5.out.trans ((HS2.out.bel.trans (hb3.mono HS2.out.bel.size)).mono hsz5))
          have cr := (HB43.out.cell (p := ⟨w.heap.size, 0, none⟩) hl3).trans K3.out
          have crf := (HB43.out.frozen (p := ⟨w.heap.size, 0, none⟩) hl3).trans K3f.out
          clear hb3
          by_cases hle : A ≤ T
          · have ql : decide (A ≤ T) = true := by simpa using hle
            gi_wp2
            exact ⟨HK3.out.trans (KeepsOthers.setCell _ _ _), fun h => absurd (Hrise.out h) (by omega)⟩
          · have ql : decide (A ≤ T) = false := by simpa using hle
            have n3 : p0 ≠ p2 := by omega
            have n4 : p2 ≠ p0 := by omega
            have hwp : W2.heap.size ≤ W3.heap.size := HB3.out.size
            have hlen2 : ((pre ++ [x]).length : Int) = (pre.length : Int) + 1 := by simp
            have Hlen2 := Lib.hid hlen2
            clear hlen2
            have fresh1 : ((W3.setCell ⟨p2, 0, none⟩ (.int .u32 A)).setCell ⟨p0, 0, none⟩ (.int .i64 ((pre.length : Int) + 1))).cell? ⟨p0, 0, none⟩ = some (.int .i64 ((pre.length : Int) + 1)) :=
              World.cell?_setCell_same' _ _ _ (by rw [World.cell?_setCell_other _ _ _ _ (by simp), c0]; rfl)
            have fresh2 : ((W3.setCell ⟨p2, 0, none⟩ (.int .u32 A)).setCell ⟨p0, 0, none⟩ (.int .i64 ((pre.length : Int) + 1))).cell? ⟨p2, 0, none⟩ = some (.int .u32 A) := by
              rw [World.cell?_setCell_other _ _ _ _ (by simp)]
              exact World.cell?_setCell_same' _ _ _ (by rw [c1]; rfl)
            have Fresh1 := Lib.hid fresh1
            have Fresh2 := Lib.hid fresh2
            have HKz : Hid (KeepsOthers W2 ((W3.setCell ⟨p2, 0, none⟩ (.int .u32 A)).setCell ⟨p0, 0, none⟩ (.int .i64 ((pre.length : Int) + 1)))) := HK3.out.trans ((KeepsOthers.setCell _ _ _).trans (KeepsOthers.setCell _ _ _))
            have HBr : Hid (Below p0 W2 ((W3.setCell ⟨p2, 0, none⟩ (.int .u32 A)).setCell ⟨p0, 0, none⟩ (.int .i64 ((pre.length : Int) + 1)))) := ((HB3.out.mono (Nat.le_of_lt hq0)).setCell (p := ⟨p2, 0, none⟩) (Nat.le_of_lt hp02) _).setCell (p := ⟨p0, 0, none⟩) (Nat.le_refl _) _
            clear fresh1 fresh2
            gi_wp2
            refine ⟨HKz.out, ⟨HBr.out, ?_⟩, ⟨?_, ?_, ?_, ?_⟩, HBp.out.trans HBr.out, HKz.out.same D _ HKD2.out rfl, ?_⟩
            · rw [Below.heap_setCell _ _ _ _ (show p3 ≠ p0 by omega), Below.heap_setCell _ _ _ _ (show p3 ≠ p2 by omega)]
              exact HB3.out.block p3 (by omega)
            · rw [Hlen2.out]; exact Fresh1.out
            · rw [World.frozen?_setCell, World.frozen?_setCell]; exact c0f
            · rw [Hlast.out]; exact Fresh2.out
            · rw [World.frozen?_setCell, World.frozen?_setCell]; exact c1f
            · simp; omega
        case stop2 =>
          rintro D2 c pre W2 _ hpre h _
          exact absurd (rising_prefix hpre (toldL_rising _ _)) h
        case done2 =>
          rintro D2 ys W2 hD2 rfl ⟨⟨c0, c0f, c1, c1f⟩, hBW2, hKD2, hsA2⟩ hK2
          have hb2 : Below wr.heap.size wr W2 := by rw [← G0.out]; exact hBW2
          have HS2 := Lib.hid (HS.out.below hb2)
          have C0 := Lib.hid c0
          have HKD2 := Lib.hid hKD2
          have HK2 := Lib.hid hK2
          have hq0 : p0 < W2.heap.size := World.block_lt_of_cell? _ _ c0
          have hDl2 : D < W2.heap.size := (Array.getElem?_eq_some_iff.1 hKD2).1
          have hDl3 : D2 < W2.heap.size := (Array.getElem?_eq_some_iff.1 hK2).1
          clear hb2 hBW2 hKD2 hK2 c0 c0f c1 c1f
          obtain ⟨x0, x1⟩ := two_cells HS2.out.box
          gi_wp2
          gi_loopw [166, 26] (fun i c wr => ∃ j : Nat, j ≤ L.length ∧ i = .int .i64 j ∧ c = .int .i64 (((L.take j).filter (fun p => p.2 != 0)).length : Int) ∧ Below W2.heap.size W2 wr) (fun i _ _ => L.length - (intOf i).toNat)
          case atStart => exact ⟨0, Nat.zero_le _, rfl, rfl, Below.refl _ _⟩
          case round =>
            obtain ⟨j, hj, rfl, rfl, hBq⟩ := hrel
            have HBq := Lib.hid hBq
            clear hBq
            by_cases hlt2 : j < L.length
            · obtain ⟨g, hgx, hg, hcell⟩ := HS2.out.row.2.resolve_left (by omega)
              obtain ⟨d0, d1⟩ := hcell j hlt2
              have d0' := (HBq.out.cell (p := ⟨g, j * 2, none⟩) hg).trans d0
              have d1' := (HBq.out.cell (p := ⟨g, j * 2 + 1, none⟩) hg).trans d1
              have hct := count_take j hlt2
              have hLk2 : L.length ≤ 60 := by omega
              have hfl := List.length_filter_le (fun p : Int × Int => p.2 != 0) (L.take j)
              have htl : (L.take j).length ≤ L.length := by rw [List.length_take]; omega
              obtain ⟨A, X, hAX⟩ : ∃ A X, L[j]'hlt2 = (A, X) := ⟨_, _, rfl⟩
              rw [hAX] at d0' d1' hct
              simp only at d0' d1' hct
              obtain ⟨cc, hcc⟩ : ∃ cc, cc = ((L.take j).filter (fun p => p.2 != 0)).length := ⟨_, rfl⟩
              rw [← hcc] at hct hfl ⊢
              have Hct := Lib.hid hct
              have wq1 : IntKind.i64.wrap ((j : Int) + 1) = (j : Int) + 1 := IntWalk.i64_in _ (by omega)
              have wq2 : IntKind.i64.wrap ((cc : Int) + 1) = (cc : Int) + 1 := IntWalk.i64_in _ (by omega)
              clear hcell d0 d1 hct hAX hcc
              subst hgx
              by_cases hX : X = 0
              · have hXb : (X != 0) = false := by simpa using hX
                have HXb := Lib.hid hXb
                clear hX
                gi_wp2
                exact ⟨⟨j + 1, by omega, by simp, by rw [Hct.out, if_neg (by rw [HXb.out]; simp), Nat.add_zero], HBq.out.alloc HBq.out.size _⟩, by simp only [intOf]; omega⟩
              · have hXb : (X != 0) = true := by simpa using hX
                have HXb := Lib.hid hXb
                clear hX
                gi_wp2
                exact ⟨⟨j + 1, by omega, by simp, by rw [Hct.out, if_pos HXb.out]; simp, HBq.out.alloc HBq.out.size _⟩, by simp only [intOf]; omega⟩
            · have hcount : ((L.take j).filter (fun p => p.2 != 0)).length = (toldL m 16384).length := by
                rw [show j = L.length from by omega, List.take_length]; exact inv_count HI.out
              rw [hcount]
              obtain ⟨NN, hNN⟩ : ∃ NN, NN = (toldL m 16384).length := ⟨_, rfl⟩
              have C0q := Lib.hid ((HBq.out.cell (p := ⟨p0, 0, none⟩) hq0).trans C0.out)
              rw [← hNN] at C0q ⊢
              have cn := C0q.out
              have HSq := Lib.hid (HS2.out.below HBq.out)
              have HFq := Lib.hid (HF.out.below (HB4.out.trans ((HB5.out.trans (HSq.out.bel.mono hsz5)).mono HB4.out.size)))
              have HB4q := Lib.hid (HB5.out.trans (HSq.out.bel.mono hsz5))
              clear hcount hNN
              have c0 := conv_row (HFq.out.below (Below.refl wr.heap.size wr).drew) Hcap.out
              have hmx : Try.prog.follows .mixedOrders = true := by kernel_rfl
              have cr := (HB4q.out.cell (p := ⟨w.heap.size, 0, none⟩) hl3).trans K3.out
              have crf := (HB4q.out.frozen (p := ⟨w.heap.size, 0, none⟩) hl3).trans K3f.out
              have hlr : w.heap.size < wr.heap.size := World.block_lt_of_cell? _ _ cr
              have hpr : p0 ≠ w.heap.size := by have := G0.out; have := HS.out.bel.size; omega
              gi_wp2
              refine wpIn_wide.2 ?_
              have HBw4 := Lib.hid (HB4.out.trans (HB4q.out.mono HB4.out.size))
              have hDr : D ≠ w.heap.size := by have := HBw4.out.size; have := HB8.out.size; have := HS.out.bel.size; omega
              have hD2r : D2 ≠ w.heap.size := by have := HBA.out.size; have := HS.out.bel.size; omega
              have hDD : D ≠ D2 := by omega
              have finish : ∀ w' : World, Below wr.drew.heap.size wr.drew w' → w'.cell? ⟨w.heap.size, 0, none⟩ = some (.bool false) → ∀ tm : Array Value, tm[4]? = some (.pointer (some ⟨w.heap.size, 0, none⟩)) →
                  LeavesInM Fence.wide 10 Try.prog Try.f7 tm (fun e w' => e = Ending.returned (Value.bool true) ∧ Below w.heap.size w w') [{ target := .collected D2, args := #[] }, { target := .collected D, args := #[] }] .returning (w'.setCell ⟨w.heap.size, 0, none⟩ (.bool true)) := by
                intro w' hbel cr2 tm htm
                have hk2 : (w'.setCell ⟨w.heap.size, 0, none⟩ (.bool true)).heap[D2]? = some (.deferred (some [])) := by
                  rw [Below.heap_setCell _ _ _ _ hD2r, hbel.block D2 (show D2 < wr.heap.size by have := HBq.out.size; omega)]
                  exact (HBq.out.block D2 hDl3).trans HK2.out
                have hkd : ((w'.setCell ⟨w.heap.size, 0, none⟩ (.bool true)).putObj D2 (.deferred none)).heap[D]? = some (.deferred (some [])) := by
                  rw [World.putObj_heap_other hDD, Below.heap_setCell _ _ _ _ hDr, hbel.block D (show D < wr.heap.size by have := HBq.out.size; omega)]
                  exact (HBq.out.block D hDl2).trans HKD2.out
                refine ⟨by simp, .inl ⟨_, _, rfl, run_takeDeferred hk2, ⟨by simp, .inl ⟨_, _, rfl, run_takeDeferred hkd, ?_⟩⟩⟩⟩
                have hc4 := cell_kept (World.cell?_setCell_same' w' ⟨w.heap.size, 0, none⟩ (.bool true) (by rw [cr2]; rfl)) (grownBy_putObj' _ D2 (.deferred none)) (fun r e => by cases e; exact ⟨_, hk2, rfl⟩)
                have hc5 := cell_kept hc4 (grownBy_putObj' _ D (.deferred none)) (fun r e => by cases e; exact ⟨_, hkd, rfl⟩)
                have hbz : Below w.heap.size w (w'.setCell ⟨w.heap.size, 0, none⟩ (.bool true)) := (HBw4.out.trans ((show Below wr.heap.size wr w' from ⟨hbel.os, hbel.tape, hbel.output, hbel.size, hbel.block⟩).mono HBw4.out.size)).setCell (p := ⟨w.heap.size, 0, none⟩) (Nat.le_refl _) _
                refine ⟨.bool true, ?_, rfl, (hbz.trans (belowK_b (w := w) (Nat.le_refl _) _ D2 _ _ (by have := HBA.out.size; have := HS.out.bel.size; omega) hk2 rfl rfl)).trans (belowK_b (w := w) (Nat.le_refl _) _ D _ _ (by have := HB8.out.size; have := HS.out.bel.size; omega) hkd rfl rfl)⟩
                simp [results, Try.f7, go_sem, hc5, htm]
              refine wp_region_noPanic ?_
              refine wp_region_any (by kernel_rfl) ?_
              change wpAny _ _ _ _ _ _ _ (World.drew _)
              refine wpAny_take (i := 1) (v := ?_) rfl (by kernel_rfl) (by kernel_rfl) (by kernel_rfl) (fun _ _ _ h => h) (Or.inl ⟨by kernel_rfl, ?_⟩) ?_
              rotate_left; intro w; go_simp; rfl
              refine wpAny_ready (rs := [0]) (by kernel_rfl) (by simp) ?_
              refine AllReady.cons rfl (fun K hK => ?_) AllReady.nil
              go_simp
              refine hK _ _ ?_
              clear hK K
              refine wpAny_take (i := 2) (v := ?_) rfl (by kernel_rfl) (by kernel_rfl) (by kernel_rfl) (fun _ _ _ h => h) (Or.inl ⟨by kernel_rfl, ?_⟩) ?_
              rotate_left; intro w; go_simp; rfl
              refine wpAny_take (i := 3) (v := ?_) rfl (by kernel_rfl) (by kernel_rfl) (by kernel_rfl) (fun _ _ _ h => h) (Or.inl ⟨by kernel_rfl, ?_⟩) ?_
              rotate_left; intro w; go_simp; rfl
              refine wpAny_take (i := 4) (v := ?_) rfl (by kernel_rfl) (by kernel_rfl) (by kernel_rfl) (fun _ _ _ h => h) (Or.inl ⟨by kernel_rfl, ?_⟩) ?_
              rotate_left; intro w; go_simp; rfl
              refine wpAny_take (i := 7) (v := ?_) rfl (by kernel_rfl) (by kernel_rfl) (by kernel_rfl) (fun _ _ _ h => h) (Or.inl ⟨by kernel_rfl, ?_⟩) ?_
              rotate_left; intro w; go_simp; rfl
              refine wpAny_ready (rs := [5, 8]) (by kernel_rfl) (by simp) ?_
              refine AllReady.cons rfl (fun K hK => ?_) (AllReady.cons rfl (fun K hK => ?_) AllReady.nil)
              · go_simp
                go_at_call 13
                refine (flash_any (HSq.out.mem.drawn (by exact ⟨1, rfl⟩))).mono ?_
                rintro e w' ⟨v, rfl, hown, hbel⟩
                obtain ⟨x', c', rfl, -⟩ := flash_shape hown
                obtain ⟨r1, r2⟩ := byteRow_own hown HSq.out.mem.fbytes
                have c1 := conv_row r1 r2
                have c2 := conv_row ((HFq.out.below (Below.refl wr.heap.size wr).drew).below hbel) Hcap.out
                have cr2 := (hbel.cell (p := ⟨w.heap.size, 0, none⟩) hlr).trans cr
                have crf2 := (hbel.frozen (p := ⟨w.heap.size, 0, none⟩) hlr).trans crf
                have Hbel := Lib.hid hbel
                clear hbel r1 r2 hown
                refine hK _ _ ?_
                clear hK K
                refine wpAny_ready (rs := [6, 8]) (by kernel_rfl) (by simp) ?_
                refine AllReady.cons rfl (fun K hK => ?_) (AllReady.cons rfl (fun K hK => ?_) AllReady.nil)
                · go_simp
                  refine hK _ _ ?_
                  clear hK K
                  refine wpAny_ready (rs := [8]) (by kernel_rfl) (by simp) ?_
                  refine AllReady.cons rfl (fun K hK => ?_) AllReady.nil
                  go_simp
                  refine hK _ _ ?_
                  clear hK K
                  refine wpAny_take (i := 9) (v := ?_) rfl (by kernel_rfl) (by kernel_rfl) (by kernel_rfl) (fun _ _ _ h => h) (Or.inl ⟨by kernel_rfl, ?_⟩) ?_
                  rotate_left; intro w; go_simp; rfl
                  refine wpAny_take (i := 10) (v := ?_) rfl (by kernel_rfl) (by kernel_rfl) (by kernel_rfl) (fun _ _ _ h => h) (Or.inl ⟨by kernel_rfl, ?_⟩) ?_
                  rotate_left; intro w; go_simp; rfl
                  refine wpAny_ready (rs := [11]) (by kernel_rfl) (by simp) ?_
                  refine AllReady.cons rfl (fun K hK => ?_) AllReady.nil
                  go_simp
                  refine hK _ _ ?_
                  clear hK K
                  refine wpAny_done (by kernel_rfl) (NoPanic.normal ?_) _
                  gi_wp2
                  exact finish w' Hbel.out cr2 _ rfl
                · go_simp
                  refine hK _ _ ?_
                  clear hK K
                  refine wpAny_ready (rs := [6]) (by kernel_rfl) (by simp) ?_
                  refine AllReady.cons rfl (fun K hK => ?_) AllReady.nil
                  go_simp
                  refine hK _ _ ?_
                  clear hK K
                  refine wpAny_take (i := 9) (v := ?_) rfl (by kernel_rfl) (by kernel_rfl) (by kernel_rfl) (fun _ _ _ h => h) (Or.inl ⟨by kernel_rfl, ?_⟩) ?_
                  rotate_left; intro w; go_simp; rfl
                  refine wpAny_take (i := 10) (v := ?_) rfl (by kernel_rfl) (by kernel_rfl) (by kernel_rfl) (fun _ _ _ h => h) (Or.inl ⟨by kernel_rfl, ?_⟩) ?_
                  rotate_left; intro w; go_simp; rfl
                  refine wpAny_ready (rs := [11]) (by kernel_rfl) (by simp) ?_
                  refine AllReady.cons rfl (fun K hK => ?_) AllReady.nil
                  go_simp
                  refine hK _ _ ?_
                  clear hK K
                  refine wpAny_done (by kernel_rfl) (NoPanic.normal ?_) _
                  gi_wp2
                  exact finish w' Hbel.out cr2 _ rfl
              · go_simp
                refine hK _ _ ?_
                clear hK K
                refine wpAny_ready (rs := [5]) (by kernel_rfl) (by simp) ?_
                refine AllReady.cons rfl (fun K hK => ?_) AllReady.nil
                go_simp
                go_at_call 13
                refine (flash_any (HSq.out.mem.drawn (by exact ⟨1, rfl⟩))).mono ?_
                rintro e w' ⟨v, rfl, hown, hbel⟩
                obtain ⟨x', c', rfl, -⟩ := flash_shape hown
                obtain ⟨r1, r2⟩ := byteRow_own hown HSq.out.mem.fbytes
                have c1 := conv_row r1 r2
                have c2 := conv_row ((HFq.out.below (Below.refl wr.heap.size wr).drew).below hbel) Hcap.out
                have cr2 := (hbel.cell (p := ⟨w.heap.size, 0, none⟩) hlr).trans cr
                have crf2 := (hbel.frozen (p := ⟨w.heap.size, 0, none⟩) hlr).trans crf
                have Hbel := Lib.hid hbel
                clear hbel r1 r2 hown
                refine hK _ _ ?_
                clear hK K
                refine wpAny_ready (rs := [6]) (by kernel_rfl) (by simp) ?_
                refine AllReady.cons rfl (fun K hK => ?_) AllReady.nil
                go_simp
                refine hK _ _ ?_
                clear hK K
                refine wpAny_take (i := 9) (v := ?_) rfl (by kernel_rfl) (by kernel_rfl) (by kernel_rfl) (fun _ _ _ h => h) (Or.inl ⟨by kernel_rfl, ?_⟩) ?_
                rotate_left; intro w; go_simp; rfl
                refine wpAny_take (i := 10) (v := ?_) rfl (by kernel_rfl) (by kernel_rfl) (by kernel_rfl) (fun _ _ _ h => h) (Or.inl ⟨by kernel_rfl, ?_⟩) ?_
                rotate_left; intro w; go_simp; rfl
                refine wpAny_ready (rs := [11]) (by kernel_rfl) (by simp) ?_
                refine AllReady.cons rfl (fun K hK => ?_) AllReady.nil
                go_simp
                refine hK _ _ ?_
                clear hK K
                refine wpAny_done (by kernel_rfl) (NoPanic.normal ?_) _
                gi_wp2
                exact finish w' Hbel.out cr2 _ rfl
end Go.Proofs.Ytpfeddfbmnimlaa
