/- VopRuns: the great loop: both machines do the operations. -/
import Derived.Test.YtmkencdkglbpbaaRunsA
import Derived.BigQuiet
import Derived.Deep.RegionHeld3
import Derived.StillTailTactics
set_option maxRecDepth 100000
set_option linter.unusedVariables false
namespace Go.Proofs.Ytmkencdkglbpbaa
open Go.RowKit

/-- The bodies of a code's loops, in the order of the text. -/
def loopsOf : Code → List Code
  | .loop c => c :: loopsOf c
  | .seq a b => loopsOf a ++ loopsOf b
  | .block _ c => loopsOf c
  | .scope c => loopsOf c
  | .cond _ a b => loopsOf a ++ loopsOf b
  | _ => []
noncomputable def loopBody (i : Nat) : Code := ((Try.f4.body.map loopsOf).getD []).getD i .skip

theorem refOp_full (rx : Option Addr) (n c : Nat) (R : List Int) (S : Int) (lx : Option Addr) (q lc : Nat) (L : List (Int × Int)) (m : Nat → Int) (o : Op8) (w : World) (hA : RefAt w rx n c R lx q lc L m) (hS : 0 ≤ S ∧ S < 4294967296) (hq : q ≤ 10000) (h : o.ok) :
    Calls Try.prog 11 #[.agg #[.slice rx n c, .int .u32 S, .slice none 0 0, .slice lx q lc], opV o.K o.t0 o.t1 o.f0 o.f1 o.f2 o.f3 o.N] w (RefPost w rx lx S q (o.run S R m).1 (o.run S R m).2.1 (o.run S R m).2.2.1 (o.run S R m).2.2.2) := by
  obtain ⟨K, t0, t1, f0, f1, f2, f3, N⟩ := o
  obtain ⟨h1, h2⟩ := h
  obtain ⟨k, hk, hr⟩ := rightOp_of h1
  simp only at hk hr h2 ⊢
  subst hk
  exact refDo_any rx n c R S lx q lc L m k t0 t1 f0 f1 f2 f3 N w hA hS h2 hq hr

set_option maxHeartbeats 8000000 in
theorem loop2_any (w0 : World) (x : Option Addr) (N oc : Nat) (Lo : List Op8) (sb rb rc mb : Nat) (fv : Value) (rg B : Nat) (S : Int) (R m) (bx : Nat) (rx : Option Addr) (n c : Nat) (sb' rb' rc' mb' : Nat) (fv' : Value) (rg' B' : Nat) (R0 : List Int)
    (V : Int × Int × List Int × (Nat → Int)) (w1 : World) (HD : Hid (Duo w0 w1 sb rb rc mb fv rg B S R m bx rx n c none 0 0 [] R m sb' rb' rc' mb' fv' rg' B' R0)) (HL : Hid (OpsSl w0 x Lo)) (HN : Hid (Lo.length = N)) (hN60 : N ≤ 60) (HOK : Hid (∀ o ∈ Lo, o.ok)) (HV : Hid (runM S Lo R m = V)) (Qx : Exit → Act → World → Prop) (fr1 fr2 fr3 fr4 fr5 fr10 fr11 fr12 fr15 fr16 fr17 fr18 fr19 fr20 fr21 fr22 fr23 fr24 fr25 fr26 fr27 fr28 fr29 fr30 fr31 fr32 fr33 fr34 fr35 fr36 fr37 fr38 fr39 fr40 fr41 fr42 fr43 fr44 fr45 fr46 fr47 fr48 fr49 fr50 fr51 fr52 fr53 fr54 fr55 fr56 fr57 fr58 fr59 fr60 fr61 fr62 fr63 fr64 fr65 fr66 fr67 fr68 fr69 fr70 fr74 fr75 fr76 fr77 fr78 fr79 fr80 fr81 fr82 fr83 fr84 fr85 fr86 fr87 fr88 fr89 fr90 fr91 fr92 fr93 fr94 fr95 fr96 fr97 fr98 fr99 fr100 fr101 fr102 fr103 fr104 fr105 fr106 fr107 fr108 fr109 fr110 fr111 fr112 fr113 fr114 fr115 fr116 fr117 fr118 fr119 fr120 fr121 fr122 fr123 fr124 fr125 fr126 fr127 fr128 fr129 fr130 fr131 fr132 fr133 fr134 fr135 fr136 fr137 fr138 fr139 fr140 fr141 fr142 fr143 fr144 fr145 fr146 fr147 fr148 fr149 fr150 fr151 fr152 fr153 fr154 fr155 fr156 fr157 fr158 fr159 fr160 fr161 fr162 fr163 fr164 fr165 fr166 fr167 fr168 fr169 fr170 fr171 fr172 fr173 fr174 fr175 fr176 fr177 fr178 fr179 fr180 fr181 fr182 fr183 fr184 fr185 fr186 fr187 fr188 fr189 fr190 fr191 fr192 fr193 fr194 fr195 fr196 fr197 fr198 fr199 fr200 fr201 fr202 fr203 fr204 fr205 fr206 fr207 fr208 fr209 fr210 fr211 fr212 fr213 fr214 fr215 fr216 fr217 fr218 fr219 fr220 fr221 fr222 fr223 fr224 fr225 fr226 fr227 fr228 : Value)
    (hexit : ∀ (fx1 fx2 fx3 fx4 fx5 fx10 fx11 fx12 fx15 fx16 fx17 fx18 fx19 fx20 fx21 fx22 fx23 fx24 fx25 fx26 fx27 fx28 fx29 fx30 fx31 fx32 fx33 fx34 fx35 fx36 fx37 fx38 fx39 fx40 fx41 fx42 fx43 fx44 fx45 fx46 fx47 fx48 fx49 fx50 fx51 fx52 fx53 fx54 fx55 fx56 fx57 fx58 fx59 fx60 fx61 fx62 fx63 fx64 fx65 fx66 fx67 fx68 fx69 fx70 fx71 fx72 fx73 fx74 fx75 fx76 fx77 fx78 fx79 fx80 fx81 fx82 fx83 fx84 fx85 fx86 fx87 fx88 fx89 fx90 fx91 fx92 fx93 fx94 fx95 fx96 fx97 fx98 fx99 fx100 fx101 fx102 fx103 fx104 fx105 fx106 fx107 fx108 fx109 fx110 fx111 fx112 fx113 fx114 fx115 fx116 fx117 fx118 fx119 fx120 fx121 fx122 fx123 fx124 fx125 fx126 fx127 fx128 fx129 fx130 fx131 fx132 fx133 fx134 fx135 fx136 fx137 fx138 fx139 fx140 fx141 fx142 fx143 fx144 fx145 fx146 fx147 fx148 fx149 fx150 fx151 fx152 fx153 fx154 fx155 fx156 fx157 fx158 fx159 fx160 fx161 fx162 fx163 fx164 fx165 fx166 fx167 fx168 fx169 fx170 fx171 fx172 fx173 fx174 fx175 fx176 fx177 fx178 fx179 fx180 fx181 fx182 fx183 fx184 fx185 fx186 fx187 fx188 fx189 fx190 fx191 fx192 fx193 fx194 fx195 fx196 fx197 fx198 fx199 fx200 fx201 fx202 fx203 fx204 fx205 fx206 fx207 fx208 fx209 fx210 fx211 fx212 fx213 fx214 fx215 fx216 fx217 fx218 fx219 fx220 fx221 fx222 fx223 fx224 fx225 fx226 fx227 fx228 : Value) (wr : World) (e1 e2 : Int) (R1 : List Int) (m1 : Nat → Int) (rx1 : Option Addr) (n1 c1 : Nat) (lx1 : Option Addr) (q1 lc1 : Nat) (L1 : List (Int × Int)), Duo w0 wr sb rb rc mb fv rg B S R1 m1 bx rx1 n1 c1 lx1 q1 lc1 L1 R1 m1 sb' rb' rc' mb' fv' rg' B' R0 → q1 ≤ 61 → (e1, e2, R1, m1) = V → Qx (.exit 2) ⟨List.toArray (.slice x N oc :: fx1 :: fx2 :: fx3 :: fx4 :: fx5 :: .pointer (some ⟨w0.heap.size, 0, none⟩) :: .pointer (some ⟨sb, 0, none⟩) :: .pointer (some ⟨bx, 0, none⟩) :: .pointer (some ⟨sb', 0, none⟩) :: fx10 :: fx11 :: fx12 :: .int .i64 e1 :: .int .i64 e2 :: fx15 :: fx16 :: fx17 :: fx18 :: fx19 :: fx20 :: fx21 :: fx22 :: fx23 :: fx24 :: fx25 :: fx26 :: fx27 :: fx28 :: fx29 :: fx30 :: fx31 :: fx32 :: fx33 :: fx34 :: fx35 :: fx36 :: fx37 :: fx38 :: fx39 :: fx40 :: fx41 :: fx42 :: fx43 :: fx44 :: fx45 :: fx46 :: fx47 :: fx48 :: fx49 :: fx50 :: fx51 :: fx52 :: fx53 :: fx54 :: fx55 :: fx56 :: fx57 :: fx58 :: fx59 :: fx60 :: fx61 :: fx62 :: fx63 :: fx64 :: fx65 :: fx66 :: fx67 :: fx68 :: fx69 :: fx70 :: fx71 :: fx72 :: fx73 :: fx74 :: fx75 :: fx76 :: fx77 :: fx78 :: fx79 :: fx80 :: fx81 :: fx82 :: fx83 :: fx84 :: fx85 :: fx86 :: fx87 :: fx88 :: fx89 :: fx90 :: fx91 :: fx92 :: fx93 :: fx94 :: fx95 :: fx96 :: fx97 :: fx98 :: fx99 :: fx100 :: fx101 :: fx102 :: fx103 :: fx104 :: fx105 :: fx106 :: fx107 :: fx108 :: fx109 :: fx110 :: fx111 :: fx112 :: fx113 :: fx114 :: fx115 :: fx116 :: fx117 :: fx118 :: fx119 :: fx120 :: fx121 :: fx122 :: fx123 :: fx124 :: fx125 :: fx126 :: fx127 :: fx128 :: fx129 :: fx130 :: fx131 :: fx132 :: fx133 :: fx134 :: fx135 :: fx136 :: fx137 :: fx138 :: fx139 :: fx140 :: fx141 :: fx142 :: fx143 :: fx144 :: fx145 :: fx146 :: fx147 :: fx148 :: fx149 :: fx150 :: fx151 :: fx152 :: fx153 :: fx154 :: fx155 :: fx156 :: fx157 :: fx158 :: fx159 :: fx160 :: fx161 :: fx162 :: fx163 :: fx164 :: fx165 :: fx166 :: fx167 :: fx168 :: fx169 :: fx170 :: fx171 :: fx172 :: fx173 :: fx174 :: fx175 :: fx176 :: fx177 :: fx178 :: fx179 :: fx180 :: fx181 :: fx182 :: fx183 :: fx184 :: fx185 :: fx186 :: fx187 :: fx188 :: fx189 :: fx190 :: fx191 :: fx192 :: fx193 :: fx194 :: fx195 :: fx196 :: fx197 :: fx198 :: fx199 :: fx200 :: fx201 :: fx202 :: fx203 :: fx204 :: fx205 :: fx206 :: fx207 :: fx208 :: fx209 :: fx210 :: fx211 :: fx212 :: fx213 :: fx214 :: fx215 :: fx216 :: fx217 :: fx218 :: fx219 :: fx220 :: fx221 :: fx222 :: fx223 :: fx224 :: fx225 :: fx226 :: fx227 :: fx228 :: []), []⟩ wr) :
    Code.wp Try.prog (Code.loop (loopBody 1)) Qx ⟨List.toArray (.slice x N oc :: fr1 :: fr2 :: fr3 :: fr4 :: fr5 :: .pointer (some ⟨w0.heap.size, 0, none⟩) :: .pointer (some ⟨sb, 0, none⟩) :: .pointer (some ⟨bx, 0, none⟩) :: .pointer (some ⟨sb', 0, none⟩) :: fr10 :: fr11 :: fr12 :: .int .i64 0 :: .int .i64 0 :: fr15 :: fr16 :: fr17 :: fr18 :: fr19 :: fr20 :: fr21 :: fr22 :: fr23 :: fr24 :: fr25 :: fr26 :: fr27 :: fr28 :: fr29 :: fr30 :: fr31 :: fr32 :: fr33 :: fr34 :: fr35 :: fr36 :: fr37 :: fr38 :: fr39 :: fr40 :: fr41 :: fr42 :: fr43 :: fr44 :: fr45 :: fr46 :: fr47 :: fr48 :: fr49 :: fr50 :: fr51 :: fr52 :: fr53 :: fr54 :: fr55 :: fr56 :: fr57 :: fr58 :: fr59 :: fr60 :: fr61 :: fr62 :: fr63 :: fr64 :: fr65 :: fr66 :: fr67 :: fr68 :: fr69 :: fr70 :: .slice x N oc :: .int .i64 N :: .int .i64 0 :: fr74 :: fr75 :: fr76 :: fr77 :: fr78 :: fr79 :: fr80 :: fr81 :: fr82 :: fr83 :: fr84 :: fr85 :: fr86 :: fr87 :: fr88 :: fr89 :: fr90 :: fr91 :: fr92 :: fr93 :: fr94 :: fr95 :: fr96 :: fr97 :: fr98 :: fr99 :: fr100 :: fr101 :: fr102 :: fr103 :: fr104 :: fr105 :: fr106 :: fr107 :: fr108 :: fr109 :: fr110 :: fr111 :: fr112 :: fr113 :: fr114 :: fr115 :: fr116 :: fr117 :: fr118 :: fr119 :: fr120 :: fr121 :: fr122 :: fr123 :: fr124 :: fr125 :: fr126 :: fr127 :: fr128 :: fr129 :: fr130 :: fr131 :: fr132 :: fr133 :: fr134 :: fr135 :: fr136 :: fr137 :: fr138 :: fr139 :: fr140 :: fr141 :: fr142 :: fr143 :: fr144 :: fr145 :: fr146 :: fr147 :: fr148 :: fr149 :: fr150 :: fr151 :: fr152 :: fr153 :: fr154 :: fr155 :: fr156 :: fr157 :: fr158 :: fr159 :: fr160 :: fr161 :: fr162 :: fr163 :: fr164 :: fr165 :: fr166 :: fr167 :: fr168 :: fr169 :: fr170 :: fr171 :: fr172 :: fr173 :: fr174 :: fr175 :: fr176 :: fr177 :: fr178 :: fr179 :: fr180 :: fr181 :: fr182 :: fr183 :: fr184 :: fr185 :: fr186 :: fr187 :: fr188 :: fr189 :: fr190 :: fr191 :: fr192 :: fr193 :: fr194 :: fr195 :: fr196 :: fr197 :: fr198 :: fr199 :: fr200 :: fr201 :: fr202 :: fr203 :: fr204 :: fr205 :: fr206 :: fr207 :: fr208 :: fr209 :: fr210 :: fr211 :: fr212 :: fr213 :: fr214 :: fr215 :: fr216 :: fr217 :: fr218 :: fr219 :: fr220 :: fr221 :: fr222 :: fr223 :: fr224 :: fr225 :: fr226 :: fr227 :: fr228 :: []), []⟩ w1 := by
  conv => arg 2; arg 1; whnf
  have HX := Lib.hid hexit
  clear hexit
  go_loopw [13, 14, 73] (fun t1 t2 i wr => ∃ (k : Nat) (R1 : List Int) (m1 : Nat → Int) (rx1 : Option Addr) (n1 c1 : Nat) (lx1 : Option Addr) (q1 lc1 : Nat) (L1 : List (Int × Int)), k ≤ N ∧ t1 = .int .i64 0 ∧ t2 = .int .i64 0 ∧ i = .int .i64 k ∧ Duo w0 wr sb rb rc mb fv rg B S R1 m1 bx rx1 n1 c1 lx1 q1 lc1 L1 R1 m1 sb' rb' rc' mb' fv' rg' B' R0 ∧ q1 ≤ k ∧ runM S (Lo.drop k) R1 m1 = V) (fun _ _ i _ => N - (intOf i).toNat)
  case atStart => exact ⟨0, R, m, rx, n, c, none, 0, 0, [], Nat.zero_le _, rfl, rfl, rfl, HD.out, Nat.le_refl _, by rw [List.drop_zero]; exact HV.out⟩
  case round =>
    obtain ⟨k, R1, m1, rx1, n1, c1, lx1, q1, lc1, L1, hk, rfl, rfl, rfl, hD, hq, hv⟩ := hrel
    have HD1 := Lib.hid hD
    have Hv := Lib.hid hv
    have HLr := Lib.hid (HL.out.below hD.bel)
    clear hD hv
    by_cases hlt : k < N
    · have hlt' : k < Lo.length := by rw [HN.out]; exact hlt
      obtain ⟨ob, oo, rfl, hb, hc⟩ := HLr.out.resolve_left (by omega)
      obtain ⟨c0, c1', c2, c3, c4, c5, c6, c7⟩ := hc k hlt'
      have hdrop : Lo.drop k = Lo[k] :: Lo.drop (k + 1) := List.drop_eq_getElem_cons hlt'
      have hop := HOK.out _ (List.getElem_mem hlt')
      generalize Lo[k]'hlt' = p at c0 c1' c2 c3 c4 c5 c6 c7 hdrop hop
      have Hdr := Lib.hid hdrop
      have HP := Lib.hid hop
      have wq : IntKind.i64.wrap ((k : Int) + 1) = (k : Int) + 1 := IntWalk.i64_in _ (by omega)
      obtain ⟨wa, hwa⟩ : ∃ wa, wa = wr.alloc (.cells #[.int .i64 p.K, .int .i64 p.t0, .int .i64 p.t1, .int .i64 p.f0, .int .i64 p.f1, .int .i64 p.f2, .int .i64 p.f3, .int .u32 p.N] 40) := ⟨_, rfl⟩
      have hbA : Below wr.heap.size wr wa := by rw [hwa]; exact (Below.refl _ wr).alloc (Nat.le_refl _) _
      have hka : wa.heap[wr.heap.size]? = some (.cells #[.int .i64 p.K, .int .i64 p.t0, .int .i64 p.t1, .int .i64 p.f0, .int .i64 p.f1, .int .i64 p.f2, .int .i64 p.f3, .int .u32 p.N] 40 (0, 0)) := by rw [hwa]; exact World.alloc_heap_new wr _
      have HDa := Lib.hid (HD1.out.below hbA)
      have HKa := Lib.hid hka
      have hsr : rb < wr.heap.size ∧ rg < wr.heap.size := ⟨HD1.out.s.reg.rlt, HD1.out.s.mem.hrs⟩
      obtain ⟨a0, ha0⟩ : ∃ a0, a0 = wr.heap.size := ⟨_, rfl⟩
      have dlt : ob ≠ wr.heap.size := by omega
      clear hc hdrop hop hbA
      go_upto_region 19 with fail
      rw [← hwa]
      clear hwa c0 c1' c2 c3 c4 c5 c6 c7 dlt
      rw [← ha0] at HKa hsr ⊢
      clear ha0
      obtain ⟨⟨k0, _⟩, ⟨k1, _⟩, ⟨k2, _⟩, ⟨k3, _⟩, ⟨k4, _⟩, ⟨k5, _⟩, ⟨k6, _⟩, ⟨k7, _⟩⟩ := And.intro (blk_cells HKa.out 0) (And.intro (blk_cells HKa.out 1) (And.intro (blk_cells HKa.out 2) (And.intro (blk_cells HKa.out 3) (And.intro (blk_cells HKa.out 4) (And.intro (blk_cells HKa.out 5) (And.intro (blk_cells HKa.out 6) (blk_cells HKa.out 7)))))))
      simp only [List.getElem?_toArray, List.getElem?_cons_zero, List.getElem?_cons_succ] at k0 k1 k2 k3 k4 k5 k6 k7
      go_upto_region 20 with fail
      have hdo := op_full sb rb rc mb fv rg B S R1 m1 p wa HDa.out.s HP.out
      refine hdo.mono ?_
      rintro e wb ⟨rfl, hst2, hk2⟩
      have hrun : (if (p.run S R1 m1).1 ≠ 0 ∨ (p.run S R1 m1).2.1 ≠ 0 then p.run S R1 m1 else runM S (Lo.drop (k + 1)) (p.run S R1 m1).2.2.1 (p.run S R1 m1).2.2.2) = V := by
        rw [← Hv.out, Hdr.out]; rfl
      have HR := Lib.hid hrun
      have HDb := Lib.hid (HDa.out.did hst2 hk2)
      have HKb := Lib.hid ((hk2.block a0 (lt_of_block HKa.out) (by omega) (by omega)).trans HKa.out)
      have HRF := Lib.hid (refOp_full rx1 n1 c1 R1 S lx1 q1 lc1 L1 m1 p wb HDb.out.ref HDb.out.s.reg.sbd (by omega) HP.out)
      clear hdo hrun hst2 hk2 k0 k1 k2 k3 k4 k5 k6 k7
      generalize p.run S R1 m1 = Q at HR HDb HRF ⊢
      obtain ⟨t1, t2, R2, m2⟩ := Q
      dsimp only at HR HDb HRF ⊢
      obtain ⟨⟨k0, _⟩, ⟨k1, _⟩, ⟨k2, _⟩, ⟨k3, _⟩, ⟨k4, _⟩, ⟨k5, _⟩, ⟨k6, _⟩, ⟨k7, _⟩⟩ := And.intro (blk_cells HKb.out 0) (And.intro (blk_cells HKb.out 1) (And.intro (blk_cells HKb.out 2) (And.intro (blk_cells HKb.out 3) (And.intro (blk_cells HKb.out 4) (And.intro (blk_cells HKb.out 5) (And.intro (blk_cells HKb.out 6) (blk_cells HKb.out 7)))))))
      have z0 := (blk_cells HDb.out.box 0).1
      have z1 := (blk_cells HDb.out.box 1).1
      have z2 := (blk_cells HDb.out.box 2).1
      have z3 := (blk_cells HDb.out.box 3).1
      simp only [List.getElem?_toArray, List.getElem?_cons_zero, List.getElem?_cons_succ] at k0 k1 k2 k3 k4 k5 k6 k7 z0 z1 z2 z3
      go_upto_region 21 with fail
      refine HRF.out.mono ?_
      rintro e wc ⟨rx2, n2, c2, lx2, q2, lc2, L2, rfl, hA2, hq2, hbc, hr2, hl2⟩
      have HDc := Lib.hid (HDb.out.below hbc)
      obtain ⟨hx2, hy2⟩ := HDb.out.apart hr2 hl2
      clear k0 k1 k2 k3 k4 k5 k6 k7 z0 z1 z2 z3 HRF hbc hr2 hl2
      unfold refS
      have hbxl := lt_of_block HDc.out.box
      obtain ⟨⟨z0, f0⟩, ⟨z1, f1⟩, ⟨z2, f2⟩, ⟨z3, f3⟩⟩ := And.intro (blk_cells HDc.out.box 0) (And.intro (blk_cells HDc.out.box 1) (And.intro (blk_cells HDc.out.box 2) (blk_cells HDc.out.box 3)))
      simp only [List.getElem?_toArray, List.getElem?_cons_zero, List.getElem?_cons_succ] at z0 z1 z2 z3
      have hne : bx ≠ wc.heap.size := by omega
      obtain ⟨kz, gz⟩ := putS HDc.out.box (.slice rx2 n2 c2) (.int .u32 S) (.slice none 0 0) (.slice lx2 q2 lc2)
      have hDe := (HDc.out.boxed hA2 hx2 hy2 gz kz).below ((Below.refl _ _).alloc (Nat.le_refl _) (.cells #[.slice rx2 n2 c2, .int .u32 S, .slice none 0 0, .slice lx2 q2 lc2] 31))
      have HDe := Lib.hid hDe
      clear kz gz hA2 hx2 hy2 hDe
      go_upto_region 22 with fail
      generalize World.alloc _ _ = we at HDe ⊢
      clear z0 z1 z2 z3 f0 f1 f2 f3 hne hbxl
      have hsb := HDe.out.s.reg.blk
      have s0 := (blk_cells hsb 0).1
      obtain ⟨⟨z0, _⟩, ⟨z1, _⟩, ⟨z2, _⟩, ⟨z3, _⟩⟩ := And.intro (blk_cells HDe.out.box 0) (And.intro (blk_cells HDe.out.box 1) (And.intro (blk_cells HDe.out.box 2) (blk_cells HDe.out.box 3)))
      simp only [List.getElem?_toArray, List.getElem?_cons_zero, List.getElem?_cons_succ] at z0 z1 z2 z3 s0
      rw [HDe.out.ref.len] at s0
      clear hsb
      go_quiet (fail)
      have HDf := Lib.hid (HDe.out.below (below_drewN (Below.refl _ we) nq))
      generalize we.drewN nq = wf at HDf ⊢
      clear HDe z0 z1 z2 z3 s0
      have s0 := (blk_cells HDf.out.s.reg.blk 0).1
      have z0 := (blk_cells HDf.out.box 0).1
      simp only [List.getElem?_toArray, List.getElem?_cons_zero, List.getElem?_cons_succ] at z0 s0
      rw [HDf.out.ref.len] at s0
      have hn100 := HDf.out.ref.small
      go_wp2_with fail
      go_loopw [115] (fun i wr => ∃ j : Nat, j ≤ n2 ∧ i = .int .i64 j ∧ Duo w0 wr sb rb rc mb fv rg B S R2 m2 bx rx2 n2 c2 lx2 q2 lc2 L2 R2 m2 sb' rb' rc' mb' fv' rg' B' R0) (fun i _ => n2 - (intOf i).toNat)
      case atStart => exact ⟨0, Nat.zero_le _, rfl, HDf.out⟩
      case round =>
        obtain ⟨j, hj, rfl, hDr⟩ := hrel
        have HDr := Lib.hid hDr
        clear hDr s0 z0
        by_cases hj2 : j < n2
        · have hjl : j < R2.length := by rw [HDr.out.ref.len]; exact hj2
          obtain ⟨gb, go, hgx, hgl, hgc⟩ := HDr.out.ref.row.resolve_left (by omega)
          have r0 := HDr.out.s.reg.row j hjl
          have r1 := hgc j hjl
          generalize R2[j]'hjl = X at r0 r1
          subst hgx
          have s0 := (blk_cells HDr.out.s.reg.blk 0).1
          have z0 := (blk_cells HDr.out.box 0).1
          simp only [List.getElem?_toArray, List.getElem?_cons_zero, List.getElem?_cons_succ] at z0 s0
          rw [HDr.out.ref.len] at s0
          have hcap := HDr.out.ref.cap
          have hcap2 := HDr.out.s.reg.cap
          rw [HDr.out.ref.len] at hcap2
          have wq2 : IntKind.i64.wrap ((j : Int) + 1) = (j : Int) + 1 := IntWalk.i64_in _ (by omega)
          clear hgc
          go_upto_region 27 with fail
          go_quiet (fail)
          go_wp2_with fail
          exact ⟨⟨j + 1, by omega, by simp, HDr.out.below (below_drewN (Below.refl _ _) _)⟩, by simp only [intOf]; omega⟩
        · by_cases ht1 : t1 = 0
          · by_cases ht2 : t2 = 0
            · subst ht1 ht2
              go_wp2_with fail
              exact ⟨⟨k + 1, R2, m2, rx2, n2, c2, lx2, q2, lc2, L2, by omega, rfl, rfl, by simp, HDr.out, by omega, by simpa using HR.out⟩, by simp only [intOf]; omega⟩
            · have e2 : (t2 != 0) = true := by simpa using ht2
              have hv := HR.out
              rw [if_pos (.inr ht2)] at hv
              have HVV := Lib.hid hv
              subst ht1
              clear ht2 hv
              go_wp2_with fail
              exact HX.out _ _ _ _ _ _ _ _ _ _ _ _ _ _ _ _ _ _ _ _ _ _ _ _ _ _ _ _ _ _ _ _ _ _ _ _ _ _ _ _ _ _ _ _ _ _ _ _ _ _ _ _ _ _ _ _ _ _ _ _ _ _ _ _ _ _ _ _ _ _ _ _ _ _ _ _ _ _ _ _ _ _ _ _ _ _ _ _ _ _ _ _ _ _ _ _ _ _ _ _ _ _ _ _ _ _ _ _ _ _ _ _ _ _ _ _ _ _ _ _ _ _ _ _ _ _ _ _ _ _ _ _ _ _ _ _ _ _ _ _ _ _ _ _ _ _ _ _ _ _ _ _ _ _ _ _ _ _ _ _ _ _ _ _ _ _ _ _ _ _ _ _ _ _ _ _ _ _ _ _ _ _ _ _ _ _ _ _ _ _ _ _ _ _ _ _ _ _ _ _ _ _ _ _ _ _ _ _ _ _ _ _ _ _ _ _ _ _ _ _ _ _ _ 0 t2 R2 m2 rx2 n2 c2 lx2 q2 lc2 L2 HDr.out (by omega) HVV.out
          · have e1 : (t1 != 0) = true := by simpa using ht1
            have hv := HR.out
            rw [if_pos (.inl ht1)] at hv
            have HVV := Lib.hid hv
            clear ht1 hv
            go_wp2_with fail
            exact HX.out _ _ _ _ _ _ _ _ _ _ _ _ _ _ _ _ _ _ _ _ _ _ _ _ _ _ _ _ _ _ _ _ _ _ _ _ _ _ _ _ _ _ _ _ _ _ _ _ _ _ _ _ _ _ _ _ _ _ _ _ _ _ _ _ _ _ _ _ _ _ _ _ _ _ _ _ _ _ _ _ _ _ _ _ _ _ _ _ _ _ _ _ _ _ _ _ _ _ _ _ _ _ _ _ _ _ _ _ _ _ _ _ _ _ _ _ _ _ _ _ _ _ _ _ _ _ _ _ _ _ _ _ _ _ _ _ _ _ _ _ _ _ _ _ _ _ _ _ _ _ _ _ _ _ _ _ _ _ _ _ _ _ _ _ _ _ _ _ _ _ _ _ _ _ _ _ _ _ _ _ _ _ _ _ _ _ _ _ _ _ _ _ _ _ _ _ _ _ _ _ _ _ _ _ _ _ _ _ _ _ _ _ _ _ _ _ _ _ _ _ _ _ _ t1 t2 R2 m2 rx2 n2 c2 lx2 q2 lc2 L2 HDr.out (by omega) HVV.out
    · have hkn : k = N := by omega
      have hv := Hv.out
      rw [hkn, ← HN.out, List.drop_length] at hv
      go_wp2_with fail
      exact HX.out _ _ _ _ _ _ _ _ _ _ _ _ _ _ _ _ _ _ _ _ _ _ _ _ _ _ _ _ _ _ _ _ _ _ _ _ _ _ _ _ _ _ _ _ _ _ _ _ _ _ _ _ _ _ _ _ _ _ _ _ _ _ _ _ _ _ _ _ _ _ _ _ _ _ _ _ _ _ _ _ _ _ _ _ _ _ _ _ _ _ _ _ _ _ _ _ _ _ _ _ _ _ _ _ _ _ _ _ _ _ _ _ _ _ _ _ _ _ _ _ _ _ _ _ _ _ _ _ _ _ _ _ _ _ _ _ _ _ _ _ _ _ _ _ _ _ _ _ _ _ _ _ _ _ _ _ _ _ _ _ _ _ _ _ _ _ _ _ _ _ _ _ _ _ _ _ _ _ _ _ _ _ _ _ _ _ _ _ _ _ _ _ _ _ _ _ _ _ _ _ _ _ _ _ _ _ _ _ _ _ _ _ _ _ _ _ _ _ _ _ _ _ wr 0 0 R1 m1 rx1 n1 c1 lx1 q1 lc1 L1 HD1.out (by omega) hv

end Go.Proofs.Ytmkencdkglbpbaa
