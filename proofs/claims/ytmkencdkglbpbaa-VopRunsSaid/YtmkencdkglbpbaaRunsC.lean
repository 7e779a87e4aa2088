/- VopRuns: the walk. -/
import Derived.Test.YtmkencdkglbpbaaRunsB
import Derived.Test.YtmkencdkglbpbaaRamIt
set_option maxRecDepth 100000
set_option linter.unusedVariables false
namespace Go.Proofs.Ytmkencdkglbpbaa
open Go.RowKit Go.Shelf

attribute [local go_sem] Oper.semAt_some

/-- Two new boxes. -/
theorem two_boxes (w : World) (u v : Value) (s t : TypeId) : ∃ w8 : World, (w.alloc (.cells #[u] s)).alloc (.cells #[v] t) = w8 ∧ w8.heap.size = w.heap.size + 2 ∧
    w8.cell? ⟨w.heap.size, 0, none⟩ = some u ∧ w8.frozen? ⟨w.heap.size, 0, none⟩ = false ∧ w8.cell? ⟨w.heap.size + 1, 0, none⟩ = some v ∧ Below w.heap.size w w8 := by
  have h0 : ((w.alloc (.cells #[u] s)).alloc (.cells #[v] t)).heap[w.heap.size]? = some (.cells #[u] s (0, 0)) := by rw [Below.heap_alloc _ _ _ (by simp)]; exact World.alloc_heap_new w _
  have h1 : ((w.alloc (.cells #[u] s)).alloc (.cells #[v] t)).heap[w.heap.size + 1]? = some (.cells #[v] t (0, 0)) := by
    have := World.alloc_heap_new (w.alloc (.cells #[u] s)) (.cells #[v] t)
    rwa [World.size_alloc] at this
  exact ⟨_, rfl, by simp, (blk_cells h0 0).1, (blk_cells h0 0).2, (blk_cells h1 0).1, ((Below.refl _ w).alloc (Nat.le_refl _) _).alloc (by simp) _⟩
theorem toldL_len (m : Nat → Int) : ∀ j, (toldL m j).length ≤ j
  | 0 => Nat.le_refl _
  | j + 1 => by
    have ih := toldL_len m j
    rw [toldL]
    split
    · rw [List.length_append, List.length_singleton]; omega
    · omega
theorem keeps_of_below {A B : World} (h : Below A.heap.size A B) : KeepsOthers A B :=
  ⟨h.size, fun k o hk _ => (h.block k (Array.getElem?_eq_some_iff.1 hk).1).trans hk⟩
theorem count_take {L : List (Int × Int)} (k : Nat) (hk : k < L.length) : ((L.take (k + 1)).filter (fun p => p.2 != 0)).length = ((L.take k).filter (fun p => p.2 != 0)).length + (if (L[k]).2 != 0 then 1 else 0) := by
  rw [List.take_succ_eq_append_getElem hk, List.filter_append, List.length_append]
  congr 1
  simp only [List.filter_cons, List.filter_nil]
  split <;> rfl

/-- What the count of the words keeps. -/
structure Cnt (wz : World) (p0 D : Nat) (z : Int) (w : World) : Prop where
  c : w.cell? ⟨p0, 0, none⟩ = some (.int .i64 z)
  f : w.frozen? ⟨p0, 0, none⟩ = false
  b : Below p0 wz w
  d : w.heap[D]? = some (.deferred (some []))
theorem Cnt.alloc {wz w : World} {p0 D : Nat} {z : Int} (h : Cnt wz p0 D z w) (o : Obj) : Cnt wz p0 D z (w.alloc o) := by
  have hb := (Below.refl _ w).alloc (Nat.le_refl _) o
  have hl : p0 < w.heap.size := World.block_lt_of_cell? _ _ h.c
  exact ⟨(hb.cell (p := ⟨p0, 0, none⟩) hl).trans h.c, (hb.frozen (p := ⟨p0, 0, none⟩) hl).trans h.f, h.b.trans (hb.mono (Nat.le_of_lt hl)), (hb.block D (Array.getElem?_eq_some_iff.1 h.d).1).trans h.d⟩
theorem Cnt.put {wz w : World} {p0 D : Nat} {z : Int} (h : Cnt wz p0 D z w) (hD : D ≠ p0) (z' : Int) : Cnt wz p0 D z' (w.setCell ⟨p0, 0, none⟩ (.int .i64 z')) :=
  ⟨World.cell?_setCell_same' _ _ _ (by rw [h.c]; rfl), by rw [World.frozen?_setCell]; exact h.f, h.b.setCell (p := ⟨p0, 0, none⟩) (Nat.le_refl _) _, by rw [Below.heap_setCell _ _ _ _ hD]; exact h.d⟩

/-- Run of no operation. -/
theorem run_nil (sb : Nat) (x : Option Addr) (c : Nat) (w : World) :
    Calls Try.prog 7 #[.pointer (some ⟨sb, 0, none⟩), .slice x 0 c] w fun e w' => e = .returned (.tuple #[.int .i64 0, .int .i64 0]) ∧ w' = w := by
  go_enter Try.func7, Try.ntmps7
  go_wp2_with fail
  go_loopw [12] (fun i wr => i = .int .i64 0 ∧ wr = w) (fun _ _ => 0)
  case atStart => exact ⟨rfl, rfl⟩
  case round =>
    obtain ⟨rfl, rfl⟩ := hrel
    go_wp2_with fail
    go_ret2
    exact ⟨rfl, rfl⟩
theorem run_some (sb rb rc mb : Nat) (fv : Value) (rg B : Nat) (S : Int) (R : List Int) (m : Nat → Int) (x : Option Addr) (n c : Nat) (L : List Op8) (w : World) (hSt : StAt w sb rb rc mb fv rg B S R m) (hL : OpsSl w x L) (hn : L.length = n) (hl : n ≤ 100) (hok : ∀ o ∈ L, o.ok)
    (hx : 0 < n → ∀ b o, x = some ⟨b, o, none⟩ → b ≠ rb ∧ b ≠ rg) (hnc : n ≤ c) :
    Calls Try.prog 7 #[.pointer (some ⟨sb, 0, none⟩), .slice x n c] w fun e w' => e = .returned (.tuple #[.int .i64 (runM S L R m).1, .int .i64 (runM S L R m).2.1]) ∧ StAt w' sb rb rc mb fv rg B S (runM S L R m).2.2.1 (runM S L R m).2.2.2 ∧ Kept w w' rb rg := by
  by_cases h0 : n = 0
  · subst h0
    obtain rfl : L = [] := List.length_eq_zero_iff.1 hn
    exact (run_nil sb x c w).mono fun e w' h => by
      obtain ⟨rfl, rfl⟩ := h
      exact ⟨rfl, hSt, Kept.of_below _ _ (Below.refl _ _)⟩
  · exact run_any sb rb rc mb fv rg B S R m x n c L w hSt hL hn hl hok (hx (by omega)) hnc

set_option maxHeartbeats 16000000 in
theorem vopRuns_walk (x : Option Addr) (N oc : Nat) (Lo : List Op8) (y : Option Addr) (p yc : Nat) (R0 : List Int) (S : Int) (w : World) (hL : OpsSl w x Lo) (hN : Lo.length = N) (hNc : N ≤ oc) (hU : USl w y R0) (hp : R0.length = p) (hpc : p ≤ yc) (hbR : ∀ v ∈ R0, 0 ≤ v ∧ v < 4294967296) (hS : 0 ≤ S ∧ S < 4294967296) (hON : ∀ o ∈ Lo, 0 ≤ o.N ∧ o.N < 4294967296) :
    Calls Try.prog 4 #[.slice x N oc, .slice y p yc, .int .u32 S] w fun e w' => e = .returned (.bool true) ∧ Below w.heap.size w w' := by
  have HL := Lib.hid hL
  have HN := Lib.hid hN
  have HU := Lib.hid hU
  have HP := Lib.hid hp
  have HbR := Lib.hid hbR
  have HON := Lib.hid hON
  clear hL hN hU hp hbR hON
  refine (callsIn_wide (n := 10)).1 ?_
  refine callsIn_of_wp_marks Try.func4 rfl trivial ?_ rfl
  simp only [Try.ntmps4, List.size_toArray, List.length_cons, List.length_nil, Nat.reduceAdd, Nat.reduceSub, Array.replicate_succ, Array.replicate_zero, List.push_toArray, List.append_toArray, List.nil_append, List.cons_append]
  gi_wp2
  have hbx : ∃ w4 : World, w.alloc (.cells #[.bool false] 4) = w4 ∧ w4.heap.size = w.heap.size + 1 ∧ w4.heap[w.heap.size]? = some (.cells #[.bool false] 4 (0, 0)) ∧ Below w.heap.size w w4 :=
    ⟨_, rfl, by simp, World.alloc_heap_new w _, (Below.refl _ w).alloc (Nat.le_refl _) _⟩
  obtain ⟨w4, hw4, hs4, kb4, hB4⟩ := hbx
  rw [hw4]
  have KB4 := Lib.hid kb4
  have HB4 := Lib.hid hB4
  have hl3 : w.heap.size < w4.heap.size := by omega
  clear hw4 kb4 hB4 hs4
  refine ⟨trivial, (callsIn_wide.2 (anchor_any w4)).mono ?_⟩
  rintro ee w5 ⟨rfl, hb5⟩
  have HB5 := Lib.hid (HB4.out.trans (hb5.mono HB4.out.size))
  have KB5 := Lib.hid ((hb5.block _ hl3).trans KB4.out)
  have hl5 : w.heap.size < w5.heap.size := lt_of_block KB5.out
  obtain ⟨k3, k3f⟩ := blk_cells KB5.out 0
  simp only [List.getElem?_toArray, List.getElem?_cons_zero, List.getElem?_cons_succ] at k3
  clear hb5 KB4 HB4 hl3
  have hend : ∀ W, Below w.heap.size w W → Below w.heap.size w (W.setCell ⟨w.heap.size, 0, none⟩ (.bool true)) := fun W h => h.setCell (p := ⟨w.heap.size, 0, none⟩) (Nat.le_refl _) _
  have Hend := Lib.hid hend
  clear hend
  by_cases hbig : 60 < N
  · have e1 : decide ((60 : Int) < (N : Int)) = true := by simp; omega
    gi_wp2
    have hc5 := World.cell?_setCell_same' w5 ⟨w.heap.size, 0, none⟩ (.bool true) (by rw [k3]; rfl)
    refine ⟨.bool true, ?_, rfl, Hend.out w5 HB5.out⟩
    simp [results, Try.f4, go_sem, hc5]
  by_cases hbig2 : 40 < p
  · have e1 : decide ((60 : Int) < (N : Int)) = false := by simp; omega
    have e2 : decide ((40 : Int) < (p : Int)) = true := by simp; omega
    gi_wp2
    have hc5 := World.cell?_setCell_same' w5 ⟨w.heap.size, 0, none⟩ (.bool true) (by rw [k3]; rfl)
    refine ⟨.bool true, ?_, rfl, Hend.out w5 HB5.out⟩
    simp [results, Try.f4, go_sem, hc5]
  have e1 : decide ((60 : Int) < (N : Int)) = false := by simp; omega
  have e2 : decide ((40 : Int) < (p : Int)) = false := by simp; omega
  gi_wp2
  refine ⟨trivial, (callsIn_wide.2 (started_any y p yc R0 S w5 (HU.out.below HB5.out) HP.out HbR.out (by omega) hS)).mono ?_⟩
  rintro ee w6 ⟨sb, rb, rc, mb, fv, rg, rb2, rc2, B, m1, rfl, hc2, hSt⟩
  have HSt6 := Lib.hid hSt
  have HB6 := Lib.hid (HB5.out.trans (hSt.below.mono HB5.out.size))
  obtain ⟨w7, hw7⟩ : ∃ w7, w7 = w6.alloc (.cells #[.slice (some ⟨rb2, 0, none⟩) p rc2, .int .u32 S, .slice none 0 0, .slice none 0 0] 31) := ⟨_, rfl⟩
  have HB7 := Lib.hid (HB6.out.trans (by rw [hw7]; exact (Below.refl _ w6).alloc (by have := HB6.out.size; omega) _ : Below w.heap.size w6 w7))
  have Hw7 := Lib.hid hw7
  clear hSt k3 k3f
  gi_wp2
  rw [← hw7]
  clear hw7
  refine ⟨trivial, (callsIn_wide.2 (started_any y p yc R0 S w7 (HU.out.below HB7.out) HP.out HbR.out (by omega) hS)).mono ?_⟩
  rintro ee w8 ⟨sb', rb', rc', mb', fv', rg', rb2', rc2', B', m1', rfl, hc2', hSt⟩
  have HSt8 := Lib.hid hSt
  obtain ⟨w9, hw9⟩ : ∃ w9, w9 = w8.alloc (.cells #[.slice (some ⟨rb2', 0, none⟩) p rc2', .int .u32 S, .slice none 0 0, .slice none 0 0] 31) := ⟨_, rfl⟩
  have hB9 : Below w8.heap.size w8 w9 := by rw [hw9]; exact (Below.refl _ w8).alloc (Nat.le_refl _) _
  obtain ⟨hD, hBr⟩ := duo_start HB5.out KB5.out HSt6.out hc2 HP.out Hw7.out hSt hB9
  have HD := Lib.hid hD
  have HBr := Lib.hid hBr
  clear hSt hD hB9 hBr
  gi_wp2
  rw [← hw9]
  clear hw9
  gi_loopw [63] (fun i wr => ∃ k : Nat, k ≤ N ∧ i = .int .i64 k ∧ (∀ o ∈ Lo.take k, o.ok) ∧ Duo w wr sb rb rc mb fv rg B S R0 (fun _ => 0) w6.heap.size (some ⟨rb2, 0, none⟩) p rc2 none 0 0 [] R0 (fun _ => 0) sb' rb' rc' mb' fv' rg' B' R0) (fun i _ => N - (intOf i).toNat)
  case atStart => exact ⟨0, Nat.zero_le _, rfl, by simp, HD.out⟩
  case round =>
    obtain ⟨k, hk, rfl, hok, hDr⟩ := hrel
    have HOK := Lib.hid hok
    have HDr := Lib.hid hDr
    clear hok hDr
    by_cases hlt : k < N
    · have hlt' : k < Lo.length := by rw [HN.out]; exact hlt
      obtain ⟨ob, oo, rfl, hob, hc⟩ := (HL.out.below HDr.out.bel).resolve_left (by omega)
      obtain ⟨c0, c1', c2, c3, c4, c5, c6, c7⟩ := hc k hlt'
      have htake : Lo.take (k + 1) = Lo.take k ++ [Lo[k]] := List.take_succ_eq_append_getElem hlt'
      have hon := HON.out _ (List.getElem_mem hlt')
      generalize Lo[k]'hlt' = o at c0 c1' c2 c3 c4 c5 c6 c7 htake hon
      have Htk := Lib.hid htake
      have Hon := Lib.hid hon
      have wq : IntKind.i64.wrap ((k : Int) + 1) = (k : Int) + 1 := IntWalk.i64_in _ (by omega)
      have hbA := (Below.refl _ wr).alloc (Nat.le_refl _) (.cells #[.int .i64 o.K, .int .i64 o.t0, .int .i64 o.t1, .int .i64 o.f0, .int .i64 o.f1, .int .i64 o.f2, .int .i64 o.f3, .int .u32 o.N] 40)
      have HDa := Lib.hid (HDr.out.below hbA)
      have dlt : ob ≠ wr.heap.size := by omega
      clear hc htake hon hbA
      gi_wp2
      refine ⟨trivial, (callsIn_wide.2 (refRight_any o.K o.t0 o.t1 o.f0 o.f1 o.f2 o.f3 o.N Hon.out.1 Hon.out.2 _)).mono ?_⟩
      rintro ee wb ⟨rfl, hbb⟩
      have HDb := Lib.hid (HDa.out.below hbb)
      clear hbb c0 c1' c2 c3 c4 c5 c6 c7 dlt
      cases hr : rightV o.K o.t0 o.t1 o.f0 o.f1 o.f2 o.f3 o.N
      · obtain ⟨k3, k3f⟩ := blk_cells HDb.out.k6 0
        simp only [List.getElem?_toArray, List.getElem?_cons_zero, List.getElem?_cons_succ] at k3
        have hlw := lt_of_block HDb.out.k6
        gi_wp2
        have hc5 := World.cell?_setCell_same' wb ⟨w.heap.size, 0, none⟩ (.bool true) (by rw [k3]; rfl)
        refine ⟨.bool true, ?_, rfl, Hend.out wb HDb.out.bel⟩
        simp [results, Try.f4, go_sem, hc5]
      · gi_wp2
        refine ⟨⟨k + 1, by omega, by simp, ?_, HDb.out⟩, by simp only [intOf]; omega⟩
        intro v hv
        rw [Htk.out] at hv
        rcases List.mem_append.1 hv with hv | hv
        · exact HOK.out v hv
        · obtain rfl := List.mem_singleton.1 hv
          exact ⟨hr, Hon.out⟩
    · have hok := HOK.out
      rw [show k = Lo.length by rw [HN.out]; omega, List.take_length] at hok
      have HOK2 := Lib.hid hok
      clear hok
      gi_wp2
      refine wpIn_wide.2 ?_
      refine loop2_any w x N oc Lo sb rb rc mb fv rg B S R0 (fun _ => 0) w6.heap.size (some ⟨rb2, 0, none⟩) p rc2 sb' rb' rc' mb' fv' rg' B' R0 (runM S Lo R0 (fun _ => 0)) _ HDr HL HN (by omega) HOK2 (Lib.hid rfl) _ _ _ _ _ _ _ _ _ _ _ _ _ _ _ _ _ _ _ _ _ _ _ _ _ _ _ _ _ _ _ _ _ _ _ _ _ _ _ _ _ _ _ _ _ _ _ _ _ _ _ _ _ _ _ _ _ _ _ _ _ _ _ _ _ _ _ _ _ _ _ _ _ _ _ _ _ _ _ _ _ _ _ _ _ _ _ _ _ _ _ _ _ _ _ _ _ _ _ _ _ _ _ _ _ _ _ _ _ _ _ _ _ _ _ _ _ _ _ _ _ _ _ _ _ _ _ _ _ _ _ _ _ _ _ _ _ _ _ _ _ _ _ _ _ _ _ _ _ _ _ _ _ _ _ _ _ _ _ _ _ _ _ _ _ _ _ _ _ _ _ _ _ _ _ _ _ _ _ _ _ _ _ _ _ _ _ _ _ _ _ _ _ _ _ _ _ _ _ _ _ _ _ _ _ _ _ _ _ _ _ _ _ _ _ _ _ _ _ _ ?_
      intro fx1 fx2 fx3 fx4 fx5 fx10 fx11 fx12 fx15 fx16 fx17 fx18 fx19 fx20 fx21 fx22 fx23 fx24 fx25 fx26 fx27 fx28 fx29 fx30 fx31 fx32 fx33 fx34 fx35 fx36 fx37 fx38 fx39 fx40 fx41 fx42 fx43 fx44 fx45 fx46 fx47 fx48 fx49 fx50 fx51 fx52 fx53 fx54 fx55 fx56 fx57 fx58 fx59 fx60 fx61 fx62 fx63 fx64 fx65 fx66 fx67 fx68 fx69 fx70 fx71 fx72 fx73 fx74 fx75 fx76 fx77 fx78 fx79 fx80 fx81 fx82 fx83 fx84 fx85 fx86 fx87 fx88 fx89 fx90 fx91 fx92 fx93 fx94 fx95 fx96 fx97 fx98 fx99 fx100 fx101 fx102 fx103 fx104 fx105 fx106 fx107 fx108 fx109 fx110 fx111 fx112 fx113 fx114 fx115 fx116 fx117 fx118 fx119 fx120 fx121 fx122 fx123 fx124 fx125 fx126 fx127 fx128 fx129 fx130 fx131 fx132 fx133 fx134 fx135 fx136 fx137 fx138 fx139 fx140 fx141 fx142 fx143 fx144 fx145 fx146 fx147 fx148 fx149 fx150 fx151 fx152 fx153 fx154 fx155 fx156 fx157 fx158 fx159 fx160 fx161 fx162 fx163 fx164 fx165 fx166 fx167 fx168 fx169 fx170 fx171 fx172 fx173 fx174 fx175 fx176 fx177 fx178 fx179 fx180 fx181 fx182 fx183 fx184 fx185 fx186 fx187 fx188 fx189 fx190 fx191 fx192 fx193 fx194 fx195 fx196 fx197 fx198 fx199 fx200 fx201 fx202 fx203 fx204 fx205 fx206 fx207 fx208 fx209 fx210 fx211 fx212 fx213 fx214 fx215 fx216 fx217 fx218 fx219 fx220 fx221 fx222 fx223 fx224 fx225 fx226 fx227 fx228 wz e1 e2 R1 m1 rx1 n1 c1 lx1 q1 lc1 L1 hD hq hV
      have HD2 := Lib.hid hD
      have HV := Lib.hid hV
      clear hD hV
      have s0 := (blk_cells HD2.out.s.reg.blk 0).1
      have s2 := (blk_cells HD2.out.s.reg.blk 2).1
      simp only [List.getElem?_toArray, List.getElem?_cons_zero, List.getElem?_cons_succ] at s0 s2
      rw [HD2.out.ref.len] at s0
      have hsl := lt_of_block HD2.out.s.reg.blk
      have hsn : sb ≠ wz.heap.size := by omega
      gi_wp2
      refine ⟨trivial, (callsIn_wide.2 (ram_any (some ⟨mb, 0, none⟩) _)).mono ?_⟩
      rintro ee wy ⟨rfl, rfl⟩
      obtain ⟨w8', hw8, hs8, j0, j0f, j1, hB8⟩ := two_boxes wz (.int .i64 0) (.pointer (some ⟨mb, 0, none⟩)) 3 44
      simp only [World.size_alloc]
      rw [hw8]
      obtain ⟨p0, g0⟩ : ∃ p0, p0 = wz.heap.size := ⟨_, rfl⟩
      obtain ⟨p1, g1⟩ : ∃ p1, p1 = p0 + 1 := ⟨_, rfl⟩
      rw [← g0] at hs8 j0 j0f j1 hB8 ⊢
      rw [← g1] at j1 ⊢
      have HR8 := Lib.hid (HD2.out.s.mem.ramAt (W := w8') (n₀ := p0) (by rw [← g0]; exact hB8) (by omega) j1)
      have G0 := Lib.hid g0
      have HB8 := Lib.hid hB8
      have hp0 : p0 < w8'.heap.size := by omega
      have hp1 : p1 < w8'.heap.size := by omega
      have hp01 : p0 < p1 := by omega
      have J0 := Lib.hid j0
      have J0f := Lib.hid j0f
      clear hs8 hB8 g0 g1 hw8 j0 j0f j1 s0 s2 hsl hsn
      gi_wp2
      refine wpIn_rangeFunc_ownF rfl (by omega) (gf := 29) (lb := #[.pointer (some ⟨p1, 0, none⟩)]) rfl trivial (enters_of Try.func29 (by kernel_rfl) rfl)
        (ram_stops 9 (by omega) p1 mb rg p0 m1 w8' (by omega) hp1 HR8.out) KeepR.trans (KeepR.put (by omega) hp1) (Below.refl _ _) (fun _ => rfl)
        (fun pre W => (W.cell? ⟨p0, 0, none⟩ = some (.int .i64 (pre.length : Int)) ∧ W.frozen? ⟨p0, 0, none⟩ = false) ∧ (Below p0 wz W ∧ w8'.heap.size ≤ W.heap.size))
        (fun _ _ _ => False)
        (OwnFrom.and (Own.from (fun s A B row hs hg hr => ⟨cell_kept hs.1 hg hr, (frozen_kept hs.1 hg hr).trans hs.2⟩) _) (OwnFrom.and (ownFrom_below (by rw [G0.out]; exact Nat.le_refl _) (by omega)) (fun s A B row hs hg hr => Nat.le_trans hs hg.size)))
        (fun _ _ _ _ _ hs _ _ => hs)
        ⟨⟨J0.out, J0f.out⟩, HB8.out, Nat.le_refl _⟩
        (fun xt => { tmps := #[.slice x N oc, fx1, fx2, fx3, fx4, fx5, .pointer (some ⟨w.heap.size, 0, none⟩), .pointer (some ⟨sb, 0, none⟩), .pointer (some ⟨w6.heap.size, 0, none⟩), .pointer (some ⟨sb', 0, none⟩), fx10, fx11, fx12, .int .i64 e1, .int .i64 e2, fx15, fx16, fx17, fx18, fx19, fx20, fx21, fx22, .pointer (some ⟨p0, 0, none⟩), .int .u32 (536870912 + ((4 * xt.1 : Nat) : Int)), .int .u32 (m1 xt.1), fx26, fx27, fx28, fx29, fx30, fx31, fx32, fx33, fx34, fx35, fx36, fx37, fx38, fx39, fx40, fx41, fx42, fx43, fx44, fx45, fx46, fx47, fx48, fx49, fx50, fx51, fx52, fx53, fx54, fx55, fx56, fx57, fx58, fx59, fx60, fx61, fx62, fx63, fx64, fx65, fx66, fx67, fx68, fx69, fx70, fx71, fx72, fx73, fx74, fx75, fx76, fx77, fx78, fx79, fx80, fx81, fx82, fx83, fx84, fx85, fx86, fx87, fx88, fx89, fx90, fx91, fx92, fx93, fx94, fx95, fx96, fx97, fx98, fx99, fx100, fx101, fx102, fx103, fx104, fx105, fx106, fx107, fx108, fx109, fx110, fx111, fx112, fx113, fx114, fx115, fx116, fx117, fx118, fx119, fx120, fx121, fx122, fx123, fx124, fx125, fx126, fx127, fx128, fx129, fx130, fx131, fx132, fx133, fx134, fx135, fx136, fx137, fx138, fx139, fx140, .pointer (some ⟨sb, 0, none⟩), .pointer (some ⟨sb, 0, none⟩), .pointer (some ⟨sb, 2, none⟩), .pointer (some ⟨mb, 0, none⟩), .func (Fn.func 29) #[] #[.pointer (some ⟨p1, 0, none⟩)], .int .u32 (536870912 + ((4 * xt.1 : Nat) : Int)), .int .u32 (m1 xt.1), fx148, fx149, fx150, fx151, fx152, fx153, fx154, fx155, fx156, fx157, fx158, fx159, fx160, fx161, fx162, fx163, fx164, fx165, fx166, fx167, fx168, fx169, fx170, fx171, fx172, fx173, fx174, fx175, fx176, fx177, fx178, fx179, fx180, fx181, fx182, fx183, fx184, fx185, fx186, fx187, fx188, fx189, fx190, fx191, fx192, fx193, fx194, fx195, fx196, fx197, fx198, fx199, fx200, fx201, fx202, fx203, fx204, fx205, fx206, fx207, fx208, fx209, fx210, fx211, fx212, fx213, fx214, fx215, fx216, fx217, fx218, fx219, fx220, fx221, fx222, fx223, fx224, fx225, fx226, fx227, fx228], defers := [] }) ?assign ?body ?done ?stop
      case assign =>
        intro l xt W K hK
        gi_wp2
        exact hK
      case body =>
        rintro l pre xt W2 ⟨⟨c0, c0f⟩, hBW2, hsW2⟩ hlen
        have hb2 : Below wz.heap.size wz W2 := by rw [← G0.out]; exact hBW2
        have HD3 := Lib.hid (HD2.out.below hb2)
        have HBp := Lib.hid hBW2
        have hq0 : p0 < W2.heap.size := World.block_lt_of_cell? _ _ c0
        clear hb2 hBW2
        obtain ⟨A, hA⟩ : ∃ A : Int, A = 536870912 + ((4 * xt.1 : Nat) : Int) := ⟨_, rfl⟩
        obtain ⟨V, hV⟩ : ∃ V : Int, V = m1 xt.1 := ⟨_, rfl⟩
        rw [← hA, ← hV]
        have hx1 := xt.2.1
        have hload : loadV [] m1 A = (V, 0) := by
          unfold loadV
          rw [if_neg (by omega), if_pos (by omega), hV, show ((A - 536870912) / 4).toNat = xt.1 from by omega]
        have hA0 : 0 ≤ A ∧ A < 4294967296 := by omega
        have HLd := Lib.hid hload
        have C0 := Lib.hid c0
        have C0f := Lib.hid c0f
        have hlenp : pre.length ≤ 16384 := by
          have := toldL_len m1 16384; omega
        have wqf : IntKind.i64.wrap ((pre.length : Int) + 1) = (pre.length : Int) + 1 := IntWalk.i64_in _ (by omega)
        have z2 := (blk_cells HD3.out.box 2).1
        have z3 := (blk_cells HD3.out.box 3).1
        simp only [List.getElem?_toArray, List.getElem?_cons_zero, List.getElem?_cons_succ] at z2 z3
        clear hA hV hload hx1 c0 c0f
        gi_wp2
        refine ⟨trivial, (CallsIn.inRound l (callsIn_wide.2 (refLoad_any none 0 0 [] lx1 q1 lc1 L1 m1 A W2 ⟨rfl, by simp, .inl rfl⟩ (by omega) HD3.out.ref.lrow HD3.out.ref.inv HD3.out.ref.lcap (by omega) hA0.1 hA0.2))).mono ?_⟩
        rintro ee W3 ⟨rfl, hb3⟩
        rw [HLd.out]
        have HB3 := Lib.hid hb3
        have HK3 := Lib.hid (keeps_of_below hb3)
        have c0 := (hb3.cell (p := ⟨p0, 0, none⟩) hq0).trans C0.out
        have c0f := (hb3.frozen (p := ⟨p0, 0, none⟩) hq0).trans C0f.out
        have hlen2 : ((pre ++ [xt]).length : Int) = (pre.length : Int) + 1 := by simp
        have Hlen2 := Lib.hid hlen2
        have fresh1 : (W3.setCell ⟨p0, 0, none⟩ (.int .i64 ((pre.length : Int) + 1))).cell? ⟨p0, 0, none⟩ = some (.int .i64 ((pre.length : Int) + 1)) := World.cell?_setCell_same' _ _ _ (by rw [c0]; rfl)
        have Fresh1 := Lib.hid fresh1
        have HKz : Hid (KeepsOthers W2 (W3.setCell ⟨p0, 0, none⟩ (.int .i64 ((pre.length : Int) + 1)))) := HK3.out.trans (KeepsOthers.setCell _ _ _)
        have HBr : Hid (Below p0 W2 (W3.setCell ⟨p0, 0, none⟩ (.int .i64 ((pre.length : Int) + 1)))) := (HB3.out.mono (Nat.le_of_lt hq0)).setCell (p := ⟨p0, 0, none⟩) (Nat.le_refl _) _
        clear fresh1 hb3 hlen2
        gi_wp2
        refine ⟨HKz.out, ⟨HBr.out, ?_⟩, ⟨?_, ?_⟩, HBp.out.trans HBr.out, ?_⟩
        · rw [Below.heap_setCell _ _ _ _ (show p1 ≠ p0 by omega)]
          exact HB3.out.block p1 (by omega)
        · rw [Hlen2.out]; exact Fresh1.out
        · rw [World.frozen?_setCell]; exact c0f
        · have := HB3.out.size; simp; omega
      case stop =>
        rintro D c pre W _ _ h _
        exact h.elim
      case done =>
        rintro D ys W hD rfl ⟨⟨c0, c0f⟩, hBW, hsW⟩ hKD
        have hDp : D ≠ p0 := by omega
        have hCt : Cnt wz p0 D ((toldL m1 16384).length : Int) W := ⟨c0, c0f, hBW, hKD⟩
        have hNb := toldL_len m1 16384
        obtain ⟨NN, hNN⟩ : ∃ NN, NN = (toldL m1 16384).length := ⟨_, rfl⟩
        rw [← hNN] at hCt hNb
        have HNN := Lib.hid hNN
        have HCt := Lib.hid hCt
        have hb2 : Below wz.heap.size wz W := by rw [← G0.out]; exact hBW
        have HDw := Lib.hid (HD2.out.below hb2)
        have z3 := (blk_cells HDw.out.box 3).1
        simp only [List.getElem?_toArray, List.getElem?_cons_zero, List.getElem?_cons_succ] at z3
        have hLq := HD2.out.ref.lrow.1
        clear c0 c0f hBW hKD hNN hCt hb2
        gi_wp2
        gi_loopw [168] (fun i wr => ∃ j : Nat, j ≤ q1 ∧ i = .int .i64 j ∧ Cnt wz p0 D ((NN : Int) - (((L1.take j).filter (fun p => p.2 != 0)).length : Int)) wr) (fun i _ => q1 - (intOf i).toNat)
        case atStart => exact ⟨0, Nat.zero_le _, rfl, by simpa using HCt.out⟩
        case round =>
          obtain ⟨j, hj, rfl, hCr⟩ := hrel
          have HCr := Lib.hid hCr
          clear hCr
          have hp0r : p0 < wr.heap.size := World.block_lt_of_cell? _ _ HCr.out.c
          by_cases hlt2 : j < q1
          · obtain ⟨g, hgx, hg, hcell⟩ := HD2.out.ref.lrow.2.resolve_left (by omega)
            rw [← G0.out] at hg
            obtain ⟨d0, d1⟩ := hcell j (by omega)
            have d0' := (HCr.out.b.cell (p := ⟨g, j * 2, none⟩) hg).trans d0
            have d1' := (HCr.out.b.cell (p := ⟨g, j * 2 + 1, none⟩) hg).trans d1
            have hct := count_take j (show j < L1.length by omega)
            have hfl := List.length_filter_le (fun p : Int × Int => p.2 != 0) (L1.take j)
            have htl : (L1.take j).length ≤ L1.length := by rw [List.length_take]; omega
            obtain ⟨A, X, hAX⟩ : ∃ A X, L1[j]'(by omega) = (A, X) := ⟨_, _, rfl⟩
            rw [hAX] at d0' d1' hct
            simp only at d0' d1' hct
            obtain ⟨cc, hcc⟩ : ∃ cc, cc = ((L1.take j).filter (fun p => p.2 != 0)).length := ⟨_, rfl⟩
            rw [← hcc] at hct hfl HCr
            have Hct := Lib.hid hct
            have wq1 : IntKind.i64.wrap ((j : Int) + 1) = (j : Int) + 1 := IntWalk.i64_in _ (by omega)
            have wq2 : IntKind.i64.wrap ((NN : Int) - (cc : Int) - 1) = (NN : Int) - (cc : Int) - 1 := IntWalk.i64_in _ (by omega)
            have k0 := HCr.out.c
            have k0f := HCr.out.f
            have hgr : g ≠ wr.heap.size := by omega
            have hpr : p0 ≠ wr.heap.size := by omega
            clear hcell d0 d1 hct hAX hcc
            subst hgx
            by_cases hX : X = 0
            · have hXb : (X != 0) = false := by simpa using hX
              have HXb := Lib.hid hXb
              clear hX
              gi_wp2
              exact ⟨⟨j + 1, by omega, by simp, by rw [Hct.out, if_neg (by rw [HXb.out]; simp), Nat.add_zero]; exact HCr.out.alloc _⟩, by simp only [intOf]; omega⟩
            · have hXb : (X != 0) = true := by simpa using hX
              have HXb := Lib.hid hXb
              clear hX
              gi_wp2
              exact ⟨⟨j + 1, by omega, by simp, by
                rw [Hct.out, if_pos HXb.out, show (NN : Int) - ((cc + 1 : Nat) : Int) = (NN : Int) - (cc : Int) - 1 by omega]
                exact (HCr.out.put hDp _).alloc _⟩, by simp only [intOf]; omega⟩
          · have hcount : ((L1.take j).filter (fun p => p.2 != 0)).length = NN := by
              rw [show j = L1.length from by omega, List.take_length, HNN.out]; exact inv_count HD2.out.ref.inv
            rw [hcount, show (NN : Int) - (NN : Int) = 0 by omega] at HCr
            have hb3 : Below wz.heap.size wz wr := by rw [← G0.out]; exact HCr.out.b
            have HDr2 := Lib.hid (HD2.out.below hb3)
            have hrun := run_some sb' rb' rc' mb' fv' rg' B' S R0 (fun _ => 0) x N oc Lo wr HDr2.out.t (HL.out.below HDr2.out.bel) HN.out (by omega) HOK2.out (fun hN0 b o e => by
              obtain ⟨b1, o1, e1, hb1, _⟩ := HL.out.resolve_left (by have := HN.out; omega)
              rw [e1] at e
              injection e with e
              injection e with e2 e3
              have h1 := HDr2.out.xt
              have h2 := HDr2.out.lo
              have h3 := HBr.out
              omega) hNc
            rw [← HV.out] at hrun
            dsimp only at hrun
            gi_wp2
            refine ⟨trivial, (callsIn_wide.2 hrun).mono ?_⟩
            rintro ee wk ⟨rfl, hst3, hk3⟩
            obtain ⟨hsk, hbk, h6k, hbel⟩ := HDr2.out.ran HBr.out hk3
            have hg0 := G0.out
            have hrbl := HD2.out.t.reg.rlt
            have hrgl := HD2.out.t.mem.hrs
            have hkp := hk3.block p0 hp0r (by omega) (by omega)
            have n0 := (World.cell?_of_block (w := wr) (a := ⟨p0, 0, none⟩) hkp).trans HCr.out.c
            have hDw : D < wr.heap.size := (Array.getElem?_eq_some_iff.1 HCr.out.d).1
            have hKd := (hk3.block D hDw (by omega) (by omega)).trans HCr.out.d
            have HSk := Lib.hid hsk
            have HTk := Lib.hid hst3
            have H6k := Lib.hid h6k
            have HBel := Lib.hid hbel
            have HKd := Lib.hid hKd
            have s0 := (blk_cells hsk.reg.blk 0).1
            simp only [List.getElem?_toArray, List.getElem?_cons_zero, List.getElem?_cons_succ] at s0
            have hlen1 := HD2.out.ref.len
            rw [hlen1] at s0
            have hn100 := HD2.out.ref.small
            have hDk : D < wk.heap.size := (Array.getElem?_eq_some_iff.1 hKd).1
            have hDgt : w.heap.size < D := by have := HD2.out.lo; have := lt_of_block HD2.out.box; omega
            have hDw0 : D ≠ w.heap.size := by omega
            clear hg0 hrun hst3 hk3 hsk hbk h6k hbel hkp hKd hb3
            gi_wp2
            gi_loopw [201] (fun i wr => ∃ j : Nat, j ≤ n1 ∧ i = .int .i64 j ∧ Below wk.heap.size wk wr) (fun i _ => n1 - (intOf i).toNat)
            case atStart => exact ⟨0, Nat.zero_le _, rfl, Below.refl _ _⟩
            case round =>
              obtain ⟨i, hi, rfl, hBi⟩ := hrel
              have HBi := Lib.hid hBi
              clear hBi s0
              have hBs := HBi.out.size
              by_cases hli : i < n1
              · have hil : i < R1.length := by omega
                have hsi := HSk.out.below HBi.out
                have hti := HTk.out.below HBi.out
                have r0 := hsi.reg.row i hil
                have r1 := hti.reg.row i hil
                have s0 := (blk_cells hsi.reg.blk 0).1
                have s1 := (blk_cells hti.reg.blk 0).1
                simp only [List.getElem?_toArray, List.getElem?_cons_zero, List.getElem?_cons_succ] at s0 s1
                rw [hlen1] at s0 s1
                have hc0 := hsi.reg.cap
                have hc1 := hti.reg.cap
                rw [hlen1] at hc0 hc1
                generalize R1[i]'hil = X at r0 r1
                have g1 : decide ((n1 : Int) ≤ (i : Int)) = false := by simp; omega
                have wq : IntKind.i64.wrap ((i : Int) + 1) = (i : Int) + 1 := IntWalk.i64_in _ (by omega)
                clear hsi hti
                gi_wp2
                refine wpIn_wide.2 ?_
                refine wp_region_noPanic ?_
                go_quiet (fail)
                refine NoPanic.normal ?_
                gi_wp2
                exact ⟨⟨i + 1, by omega, by simp, below_drewN HBi.out _⟩, by simp only [intOf]; omega⟩
              · have h6 := (HBi.out.block w.heap.size (lt_of_block H6k.out)).trans H6k.out
                obtain ⟨k6, k6f⟩ := blk_cells h6 0
                simp only [List.getElem?_toArray, List.getElem?_cons_zero, List.getElem?_cons_succ] at k6
                have hl6 : w.heap.size < wr.heap.size := lt_of_block h6
                have hBz : Below w.heap.size w (wr.setCell ⟨w.heap.size, 0, none⟩ (.bool true)) := Hend.out _ (HBel.out.trans (HBi.out.mono HBel.out.size))
                have hkz : (wr.setCell ⟨w.heap.size, 0, none⟩ (.bool true)).heap[D]? = some (.deferred (some [])) := by
                  rw [Below.heap_setCell _ _ _ _ hDw0, HBi.out.block D hDk]; exact HKd.out
                have hc4 := cell_kept (World.cell?_setCell_same' wr ⟨w.heap.size, 0, none⟩ (.bool true) (by rw [k6]; rfl)) (grownBy_putObj' _ D (.deferred none)) (fun r e => by cases e; exact ⟨_, hkz, rfl⟩)
                have Hc4 := Lib.hid hc4
                have HBz := Lib.hid hBz
                have Hkz := Lib.hid hkz
                clear hc4 hBz hkz h6
                gi_wp2
                refine ⟨by simp, .inl ⟨_, _, rfl, run_takeDeferred Hkz.out, ?_⟩⟩
                refine ⟨.bool true, ?_, rfl, HBz.out.trans (belowK_b (w := w) (Nat.le_refl _) _ D _ _ (Nat.le_of_lt hDgt) Hkz.out rfl rfl)⟩
                simp [results, Try.f4, go_sem, Hc4.out]
end Go.Proofs.Ytmkencdkglbpbaa
