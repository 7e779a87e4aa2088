/- AllocRuns: the great loop: the machine s does the list, operation by operation; nothing of it comes to the slots. -/
import Derived.Test.YtmkencdkglbpbaaDoorDuoA
import Derived.BigQuiet
import Derived.Deep.RegionHeld3
import Derived.StillTailTactics
set_option maxRecDepth 100000
set_option linter.unusedVariables false
namespace Go.Proofs.YtmkencdkglbpbaaDoor
open Go.RowKit

/-- The bodies of a code's loops, in the order of the text. -/
def loopsOf : Code → List Code
  | .loop c => c :: loopsOf c
  | .seq a b => loopsOf a ++ loopsOf b
  | .block _ c => loopsOf c
  | .scope c => loopsOf c
  | .cond _ a b => loopsOf a ++ loopsOf b
  | _ => []
noncomputable def loopBody (i : Nat) : Code := ((Tryd.f10.body.map loopsOf).getD []).getD i .skip

set_option maxHeartbeats 8000000 in
theorem loop3_any (w0 : World) (x : Option Addr) (N oc : Nat) (L : List Op8) (sb rb rc mb : Nat) (fv : Value) (rg B : Nat) (S : Int) (R : List Int) (m : Nat → Int) (sb' rb' rc' mb' : Nat) (fv' : Value) (rg' B' : Nat) (R8 : List Int) (m8 : Nat → Int) (xb : Nat) (xo : Option Addr) (co : Nat) (O : List Op8) (Z z : Nat) (fr : Int)
    (V : Int × Int × List Int × (Nat → Int)) (w1 : World) (HD : Hid (Duo w0 w1 sb rb rc mb fv rg B S R m sb' rb' rc' mb' fv' rg' B' R8 m8 xb xo co O Z)) (HL : Hid (OpsSl w0 x L)) (HN : Hid (L.length = N)) (hN60 : N ≤ 60) (HOK : Hid (∀ o ∈ L, o.ok)) (HRG : Hid (∀ o ∈ L, ∀ x ∈ regsOf [o.f0, o.f1, o.f2, o.f3] ++ regsOf [o.t0, o.t1], x < (R.length : Int))) (hZ : Z ≤ 256)
    (HF : Hid (0 ≤ fr ∧ fr < 4294967296)) (HFz : Hid (fr = 536870912 + 4 * (z : Int))) (HV : Hid (runM S L R m = V)) (Qx : Exit → Act → World → Prop) (fr1 fr3 fr4 fr5 fr6 fr7 fr8 fr10 fr11 fr12 fr13 fr14 fr15 fr16 fr17 fr23 fr24 fr25 fr26 fr27 fr28 fr29 fr30 fr31 fr32 fr33 fr34 fr35 fr36 fr37 fr38 fr39 fr40 fr41 fr42 fr43 fr44 fr45 fr46 fr47 fr48 fr49 fr50 fr51 fr52 fr53 fr54 fr55 fr56 fr57 fr58 fr59 fr60 fr61 fr62 fr63 fr64 fr65 fr66 fr67 fr68 fr69 fr70 fr71 fr72 fr73 fr74 fr75 fr76 fr77 fr78 fr79 fr80 fr81 fr82 fr83 fr84 fr85 fr86 fr87 fr88 fr89 fr90 fr91 fr92 fr93 fr94 fr95 fr96 fr97 fr98 fr99 fr100 fr101 fr102 fr103 fr104 fr105 fr106 fr107 fr108 fr109 fr110 fr111 fr112 fr113 fr114 fr115 fr116 fr117 fr118 fr119 fr120 fr121 fr122 fr123 fr124 fr128 fr129 fr130 fr131 fr132 fr133 fr134 fr135 fr136 fr137 fr138 fr139 fr140 fr141 fr142 fr143 fr144 fr145 fr146 fr147 fr148 fr149 fr150 fr151 fr152 fr153 fr154 fr155 fr156 fr157 fr158 fr159 fr160 fr161 fr162 fr163 fr164 fr165 fr166 fr167 fr168 fr169 fr170 fr171 fr172 fr173 fr174 fr175 fr176 fr177 fr178 fr179 fr180 fr181 fr182 fr183 fr184 fr185 fr186 fr187 fr188 fr189 fr190 fr191 fr192 fr193 fr194 fr195 fr196 fr197 fr198 fr199 fr200 fr201 fr202 fr203 fr204 fr205 fr206 fr207 : Value)
    (hexit : ∀ (fx1 fx3 fx4 fx5 fx6 fx7 fx8 fx10 fx11 fx12 fx13 fx14 fx15 fx16 fx17 fx23 fx24 fx25 fx26 fx27 fx28 fx29 fx30 fx31 fx32 fx33 fx34 fx35 fx36 fx37 fx38 fx39 fx40 fx41 fx42 fx43 fx44 fx45 fx46 fx47 fx48 fx49 fx50 fx51 fx52 fx53 fx54 fx55 fx56 fx57 fx58 fx59 fx60 fx61 fx62 fx63 fx64 fx65 fx66 fx67 fx68 fx69 fx70 fx71 fx72 fx73 fx74 fx75 fx76 fx77 fx78 fx79 fx80 fx81 fx82 fx83 fx84 fx85 fx86 fx87 fx88 fx89 fx90 fx91 fx92 fx93 fx94 fx95 fx96 fx97 fx98 fx99 fx100 fx101 fx102 fx103 fx104 fx105 fx106 fx107 fx108 fx109 fx110 fx111 fx112 fx113 fx114 fx115 fx116 fx117 fx118 fx119 fx120 fx121 fx122 fx123 fx124 fx125 fx126 fx127 fx128 fx129 fx130 fx131 fx132 fx133 fx134 fx135 fx136 fx137 fx138 fx139 fx140 fx141 fx142 fx143 fx144 fx145 fx146 fx147 fx148 fx149 fx150 fx151 fx152 fx153 fx154 fx155 fx156 fx157 fx158 fx159 fx160 fx161 fx162 fx163 fx164 fx165 fx166 fx167 fx168 fx169 fx170 fx171 fx172 fx173 fx174 fx175 fx176 fx177 fx178 fx179 fx180 fx181 fx182 fx183 fx184 fx185 fx186 fx187 fx188 fx189 fx190 fx191 fx192 fx193 fx194 fx195 fx196 fx197 fx198 fx199 fx200 fx201 fx202 fx203 fx204 fx205 fx206 fx207 : Value) (wr : World) (e1 e2 : Int) (R1 : List Int) (m1 : Nat → Int), Duo w0 wr sb rb rc mb fv rg B S R1 m1 sb' rb' rc' mb' fv' rg' B' R8 m8 xb xo co O Z → (e1, e2, R1, m1) = V → noTouch S z Z L R m → Qx (.exit 4) ⟨List.toArray (.slice x N oc :: fx1 :: .int .u32 S :: fx3 :: fx4 :: fx5 :: fx6 :: fx7 :: fx8 :: .pointer (some ⟨xb, 0, none⟩) :: fx10 :: fx11 :: fx12 :: fx13 :: fx14 :: fx15 :: fx16 :: fx17 :: .pointer (some ⟨sb, 0, none⟩) :: .pointer (some ⟨sb', 0, none⟩) :: .int .u32 fr :: .int .i64 e1 :: .int .i64 e2 :: fx23 :: fx24 :: fx25 :: fx26 :: fx27 :: fx28 :: fx29 :: fx30 :: fx31 :: fx32 :: fx33 :: fx34 :: fx35 :: fx36 :: fx37 :: fx38 :: fx39 :: fx40 :: fx41 :: fx42 :: fx43 :: fx44 :: fx45 :: fx46 :: fx47 :: fx48 :: fx49 :: fx50 :: fx51 :: fx52 :: fx53 :: fx54 :: fx55 :: fx56 :: fx57 :: fx58 :: fx59 :: fx60 :: fx61 :: fx62 :: fx63 :: fx64 :: fx65 :: fx66 :: fx67 :: fx68 :: fx69 :: fx70 :: fx71 :: fx72 :: fx73 :: fx74 :: fx75 :: fx76 :: fx77 :: fx78 :: fx79 :: fx80 :: fx81 :: fx82 :: fx83 :: fx84 :: fx85 :: fx86 :: fx87 :: fx88 :: fx89 :: fx90 :: fx91 :: fx92 :: fx93 :: fx94 :: fx95 :: fx96 :: fx97 :: fx98 :: fx99 :: fx100 :: fx101 :: fx102 :: fx103 :: fx104 :: fx105 :: fx106 :: fx107 :: fx108 :: fx109 :: fx110 :: fx111 :: fx112 :: fx113 :: fx114 :: fx115 :: fx116 :: fx117 :: fx118 :: fx119 :: fx120 :: fx121 :: fx122 :: fx123 :: fx124 :: fx125 :: fx126 :: fx127 :: fx128 :: fx129 :: fx130 :: fx131 :: fx132 :: fx133 :: fx134 :: fx135 :: fx136 :: fx137 :: fx138 :: fx139 :: fx140 :: fx141 :: fx142 :: fx143 :: fx144 :: fx145 :: fx146 :: fx147 :: fx148 :: fx149 :: fx150 :: fx151 :: fx152 :: fx153 :: fx154 :: fx155 :: fx156 :: fx157 :: fx158 :: fx159 :: fx160 :: fx161 :: fx162 :: fx163 :: fx164 :: fx165 :: fx166 :: fx167 :: fx168 :: fx169 :: fx170 :: fx171 :: fx172 :: fx173 :: fx174 :: fx175 :: fx176 :: fx177 :: fx178 :: fx179 :: fx180 :: fx181 :: fx182 :: fx183 :: fx184 :: fx185 :: fx186 :: fx187 :: fx188 :: fx189 :: fx190 :: fx191 :: fx192 :: fx193 :: fx194 :: fx195 :: fx196 :: fx197 :: fx198 :: fx199 :: fx200 :: fx201 :: fx202 :: fx203 :: fx204 :: fx205 :: fx206 :: fx207 :: []), []⟩ wr)
    (hret : ∀ (fx1 fx3 fx4 fx5 fx6 fx7 fx10 fx11 fx12 fx13 fx14 fx15 fx16 fx17 fx21 fx22 fx23 fx24 fx25 fx26 fx27 fx28 fx29 fx30 fx31 fx32 fx33 fx34 fx35 fx36 fx37 fx38 fx39 fx40 fx41 fx42 fx43 fx44 fx45 fx46 fx47 fx48 fx49 fx50 fx51 fx52 fx53 fx54 fx55 fx56 fx57 fx58 fx59 fx60 fx61 fx62 fx63 fx64 fx65 fx66 fx67 fx68 fx69 fx70 fx71 fx72 fx73 fx74 fx75 fx76 fx77 fx78 fx79 fx80 fx81 fx82 fx83 fx84 fx85 fx86 fx87 fx88 fx89 fx90 fx91 fx92 fx93 fx94 fx95 fx96 fx97 fx98 fx99 fx100 fx101 fx102 fx103 fx104 fx105 fx106 fx107 fx108 fx109 fx110 fx111 fx112 fx113 fx114 fx115 fx116 fx117 fx118 fx119 fx120 fx121 fx122 fx123 fx124 fx125 fx126 fx127 fx128 fx129 fx130 fx131 fx132 fx133 fx134 fx135 fx136 fx137 fx138 fx139 fx140 fx141 fx142 fx143 fx144 fx145 fx146 fx147 fx148 fx149 fx150 fx151 fx152 fx153 fx154 fx155 fx156 fx157 fx158 fx159 fx160 fx161 fx162 fx163 fx164 fx165 fx166 fx167 fx168 fx169 fx170 fx171 fx172 fx173 fx174 fx175 fx176 fx177 fx178 fx179 fx180 fx181 fx182 fx183 fx184 fx185 fx186 fx187 fx188 fx189 fx190 fx191 fx192 fx193 fx194 fx195 fx196 fx197 fx198 fx199 fx200 fx201 fx202 fx203 fx204 fx205 fx206 fx207 : Value) (wr : World), Below w0.heap.size w0 wr → Qx .ret ⟨List.toArray (.slice x N oc :: fx1 :: .int .u32 S :: fx3 :: fx4 :: fx5 :: fx6 :: fx7 :: .bool true :: .pointer (some ⟨xb, 0, none⟩) :: fx10 :: fx11 :: fx12 :: fx13 :: fx14 :: fx15 :: fx16 :: fx17 :: .pointer (some ⟨sb, 0, none⟩) :: .pointer (some ⟨sb', 0, none⟩) :: .int .u32 fr :: fx21 :: fx22 :: fx23 :: fx24 :: fx25 :: fx26 :: fx27 :: fx28 :: fx29 :: fx30 :: fx31 :: fx32 :: fx33 :: fx34 :: fx35 :: fx36 :: fx37 :: fx38 :: fx39 :: fx40 :: fx41 :: fx42 :: fx43 :: fx44 :: fx45 :: fx46 :: fx47 :: fx48 :: fx49 :: fx50 :: fx51 :: fx52 :: fx53 :: fx54 :: fx55 :: fx56 :: fx57 :: fx58 :: fx59 :: fx60 :: fx61 :: fx62 :: fx63 :: fx64 :: fx65 :: fx66 :: fx67 :: fx68 :: fx69 :: fx70 :: fx71 :: fx72 :: fx73 :: fx74 :: fx75 :: fx76 :: fx77 :: fx78 :: fx79 :: fx80 :: fx81 :: fx82 :: fx83 :: fx84 :: fx85 :: fx86 :: fx87 :: fx88 :: fx89 :: fx90 :: fx91 :: fx92 :: fx93 :: fx94 :: fx95 :: fx96 :: fx97 :: fx98 :: fx99 :: fx100 :: fx101 :: fx102 :: fx103 :: fx104 :: fx105 :: fx106 :: fx107 :: fx108 :: fx109 :: fx110 :: fx111 :: fx112 :: fx113 :: fx114 :: fx115 :: fx116 :: fx117 :: fx118 :: fx119 :: fx120 :: fx121 :: fx122 :: fx123 :: fx124 :: fx125 :: fx126 :: fx127 :: fx128 :: fx129 :: fx130 :: fx131 :: fx132 :: fx133 :: fx134 :: fx135 :: fx136 :: fx137 :: fx138 :: fx139 :: fx140 :: fx141 :: fx142 :: fx143 :: fx144 :: fx145 :: fx146 :: fx147 :: fx148 :: fx149 :: fx150 :: fx151 :: fx152 :: fx153 :: fx154 :: fx155 :: fx156 :: fx157 :: fx158 :: fx159 :: fx160 :: fx161 :: fx162 :: fx163 :: fx164 :: fx165 :: fx166 :: fx167 :: fx168 :: fx169 :: fx170 :: fx171 :: fx172 :: fx173 :: fx174 :: fx175 :: fx176 :: fx177 :: fx178 :: fx179 :: fx180 :: fx181 :: fx182 :: fx183 :: fx184 :: fx185 :: fx186 :: fx187 :: fx188 :: fx189 :: fx190 :: fx191 :: fx192 :: fx193 :: fx194 :: fx195 :: fx196 :: fx197 :: fx198 :: fx199 :: fx200 :: fx201 :: fx202 :: fx203 :: fx204 :: fx205 :: fx206 :: fx207 :: []), []⟩ wr) :
    Code.wp Tryd.prog (Code.loop (loopBody 2)) Qx ⟨List.toArray (.slice x N oc :: fr1 :: .int .u32 S :: fr3 :: fr4 :: fr5 :: fr6 :: fr7 :: fr8 :: .pointer (some ⟨xb, 0, none⟩) :: fr10 :: fr11 :: fr12 :: fr13 :: fr14 :: fr15 :: fr16 :: fr17 :: .pointer (some ⟨sb, 0, none⟩) :: .pointer (some ⟨sb', 0, none⟩) :: .int .u32 fr :: .int .i64 0 :: .int .i64 0 :: fr23 :: fr24 :: fr25 :: fr26 :: fr27 :: fr28 :: fr29 :: fr30 :: fr31 :: fr32 :: fr33 :: fr34 :: fr35 :: fr36 :: fr37 :: fr38 :: fr39 :: fr40 :: fr41 :: fr42 :: fr43 :: fr44 :: fr45 :: fr46 :: fr47 :: fr48 :: fr49 :: fr50 :: fr51 :: fr52 :: fr53 :: fr54 :: fr55 :: fr56 :: fr57 :: fr58 :: fr59 :: fr60 :: fr61 :: fr62 :: fr63 :: fr64 :: fr65 :: fr66 :: fr67 :: fr68 :: fr69 :: fr70 :: fr71 :: fr72 :: fr73 :: fr74 :: fr75 :: fr76 :: fr77 :: fr78 :: fr79 :: fr80 :: fr81 :: fr82 :: fr83 :: fr84 :: fr85 :: fr86 :: fr87 :: fr88 :: fr89 :: fr90 :: fr91 :: fr92 :: fr93 :: fr94 :: fr95 :: fr96 :: fr97 :: fr98 :: fr99 :: fr100 :: fr101 :: fr102 :: fr103 :: fr104 :: fr105 :: fr106 :: fr107 :: fr108 :: fr109 :: fr110 :: fr111 :: fr112 :: fr113 :: fr114 :: fr115 :: fr116 :: fr117 :: fr118 :: fr119 :: fr120 :: fr121 :: fr122 :: fr123 :: fr124 :: .slice x N oc :: .int .i64 N :: .int .i64 0 :: fr128 :: fr129 :: fr130 :: fr131 :: fr132 :: fr133 :: fr134 :: fr135 :: fr136 :: fr137 :: fr138 :: fr139 :: fr140 :: fr141 :: fr142 :: fr143 :: fr144 :: fr145 :: fr146 :: fr147 :: fr148 :: fr149 :: fr150 :: fr151 :: fr152 :: fr153 :: fr154 :: fr155 :: fr156 :: fr157 :: fr158 :: fr159 :: fr160 :: fr161 :: fr162 :: fr163 :: fr164 :: fr165 :: fr166 :: fr167 :: fr168 :: fr169 :: fr170 :: fr171 :: fr172 :: fr173 :: fr174 :: fr175 :: fr176 :: fr177 :: fr178 :: fr179 :: fr180 :: fr181 :: fr182 :: fr183 :: fr184 :: fr185 :: fr186 :: fr187 :: fr188 :: fr189 :: fr190 :: fr191 :: fr192 :: fr193 :: fr194 :: fr195 :: fr196 :: fr197 :: fr198 :: fr199 :: fr200 :: fr201 :: fr202 :: fr203 :: fr204 :: fr205 :: fr206 :: fr207 :: []), []⟩ w1 := by
  conv => arg 2; arg 1; whnf
  have HX := Lib.hid hexit
  have HQ := Lib.hid hret
  clear hexit hret
  go_loopw [21, 22, 127] (fun t1 t2 i wr => ∃ (k : Nat) (R1 : List Int) (m1 : Nat → Int), k ≤ N ∧ t1 = .int .i64 0 ∧ t2 = .int .i64 0 ∧ i = .int .i64 k ∧ Duo w0 wr sb rb rc mb fv rg B S R1 m1 sb' rb' rc' mb' fv' rg' B' R8 m8 xb xo co O Z ∧ R1.length = R.length ∧ runM S (L.drop k) R1 m1 = V ∧ (noTouch S z Z (L.drop k) R1 m1 → noTouch S z Z L R m)) (fun _ _ i _ => N - (intOf i).toNat)
  case atStart => exact ⟨0, R, m, Nat.zero_le _, rfl, rfl, rfl, HD.out, rfl, by rw [List.drop_zero]; exact HV.out, by rw [List.drop_zero]; exact id⟩
  case round =>
    obtain ⟨k, R1, m1, hk, rfl, rfl, rfl, hD, hlen, hv, hnt⟩ := hrel
    have HD1 := Lib.hid hD
    have Hv := Lib.hid hv
    have Hnt := Lib.hid hnt
    have Hlen := Lib.hid hlen
    have HLr := Lib.hid (HL.out.below hD.bel)
    clear hD hv hnt hlen
    by_cases hlt : k < N
    · have hlt' : k < L.length := by rw [HN.out]; exact hlt
      obtain ⟨ob, oo, rfl, hb, hc⟩ := HLr.out.resolve_left (by omega)
      obtain ⟨c0, c1', c2, c3, c4, c5, c6, c7⟩ := hc k hlt'
      have hdrop : L.drop k = L[k] :: L.drop (k + 1) := List.drop_eq_getElem_cons hlt'
      have hop := HOK.out _ (List.getElem_mem hlt')
      have hrg := HRG.out _ (List.getElem_mem hlt')
      rw [← Hlen.out] at hrg
      generalize L[k]'hlt' = p at c0 c1' c2 c3 c4 c5 c6 c7 hdrop hop hrg
      have Hdr := Lib.hid hdrop
      have HP := Lib.hid hop
      have Hrg := Lib.hid hrg
      have wq : IntKind.i64.wrap ((k : Int) + 1) = (k : Int) + 1 := IntWalk.i64_in _ (by omega)
      obtain ⟨wa, hwa⟩ : ∃ wa, wa = wr.alloc (.cells #[.int .i64 p.K, .int .i64 p.t0, .int .i64 p.t1, .int .i64 p.f0, .int .i64 p.f1, .int .i64 p.f2, .int .i64 p.f3, .int .u32 p.N] 37) := ⟨_, rfl⟩
      have hbA : Below wr.heap.size wr wa := by rw [hwa]; exact (Below.refl _ wr).alloc (Nat.le_refl _) _
      have hka : wa.heap[wr.heap.size]? = some (.cells #[.int .i64 p.K, .int .i64 p.t0, .int .i64 p.t1, .int .i64 p.f0, .int .i64 p.f1, .int .i64 p.f2, .int .i64 p.f3, .int .u32 p.N] 37 (0, 0)) := by rw [hwa]; exact heap_alloc_new wr _
      have HDa := Lib.hid (HD1.out.below hbA)
      have HKa := Lib.hid hka
      have hsr : rb < wr.heap.size ∧ rg < wr.heap.size := ⟨HD1.out.s.reg.rlt, HD1.out.s.mem.hrs⟩
      obtain ⟨a0, ha0⟩ : ∃ a0, a0 = wr.heap.size := ⟨_, rfl⟩
      have dlt : ob ≠ wr.heap.size := by omega
      clear hc hdrop hop hrg hbA hka
      go_upto_region 31 with fail
      rw [← hwa]
      clear hwa c0 c1' c2 c3 c4 c5 c6 c7 dlt
      rw [← ha0] at HKa hsr ⊢
      clear ha0
      obtain ⟨⟨k0, _⟩, ⟨k1, _⟩, ⟨k2, _⟩, ⟨k3, _⟩, ⟨k4, _⟩, ⟨k5, _⟩, ⟨k6, _⟩, ⟨k7, _⟩⟩ := And.intro (blk_cells HKa.out 0) (And.intro (blk_cells HKa.out 1) (And.intro (blk_cells HKa.out 2) (And.intro (blk_cells HKa.out 3) (And.intro (blk_cells HKa.out 4) (And.intro (blk_cells HKa.out 5) (And.intro (blk_cells HKa.out 6) (blk_cells HKa.out 7)))))))
      have z1 := (blk_cells HDa.out.x 1).1
      simp only [List.getElem?_toArray, List.getElem?_cons_zero, List.getElem?_cons_succ] at k0 k1 k2 k3 k4 k5 k6 k7 z1
      have HTC := Lib.hid (touch_any sb rb rc mb S R1 p fr Z wa HDa.out.s.reg HP.out Hrg.out HF.out (by omega))
      go_upto_region 32 with fail
      refine HTC.out.mono ?_
      rintro e wb ⟨rfl, hbb⟩
      have HDb := Lib.hid (HDa.out.below hbb)
      have HKb := Lib.hid ((hbb.block a0 (lt_of_block HKa.out)).trans HKa.out)
      have HTI := Lib.hid (touchB_iff (K := p.K) (N := p.N) (S := S) (v0 := rv R1 (regsOf [p.f0, p.f1, p.f2, p.f3]) 0) (v1 := rv R1 (regsOf [p.f0, p.f1, p.f2, p.f3]) 1) (Z := Z) HFz.out)
      generalize touchB p.K p.N S (rv R1 (regsOf [p.f0, p.f1, p.f2, p.f3]) 0) (rv R1 (regsOf [p.f0, p.f1, p.f2, p.f3]) 1) fr Z = tb at HTI ⊢
      clear k0 k1 k2 k3 k4 k5 k6 k7 z1 HTC hbb
      cases tb
      · have Htn : Hid (¬ touchM p.K p.N S (rv R1 (regsOf [p.f0, p.f1, p.f2, p.f3]) 0) (rv R1 (regsOf [p.f0, p.f1, p.f2, p.f3]) 1) z Z) := Lib.hid (fun h => by have := HTI.out.2 h; simp at this)
        clear HTI
        obtain ⟨⟨k0, _⟩, ⟨k1, _⟩, ⟨k2, _⟩, ⟨k3, _⟩, ⟨k4, _⟩, ⟨k5, _⟩, ⟨k6, _⟩, ⟨k7, _⟩⟩ := And.intro (blk_cells HKb.out 0) (And.intro (blk_cells HKb.out 1) (And.intro (blk_cells HKb.out 2) (And.intro (blk_cells HKb.out 3) (And.intro (blk_cells HKb.out 4) (And.intro (blk_cells HKb.out 5) (And.intro (blk_cells HKb.out 6) (blk_cells HKb.out 7)))))))
        simp only [List.getElem?_toArray, List.getElem?_cons_zero, List.getElem?_cons_succ] at k0 k1 k2 k3 k4 k5 k6 k7
        go_upto_region 34 with fail
        have hdo := op_full sb rb rc mb fv rg B S R1 m1 p wb HDb.out.s HP.out
        refine hdo.mono ?_
        rintro e wc ⟨rfl, hst2, hk2⟩
        have hrun : (if (p.run S R1 m1).1 ≠ 0 ∨ (p.run S R1 m1).2.1 ≠ 0 then p.run S R1 m1 else runM S (L.drop (k + 1)) (p.run S R1 m1).2.2.1 (p.run S R1 m1).2.2.2) = V := by
          rw [← Hv.out, Hdr.out]; rfl
        have hnt2 : ((p.run S R1 m1).1 = 0 → (p.run S R1 m1).2.1 = 0 → noTouch S z Z (L.drop (k + 1)) (p.run S R1 m1).2.2.1 (p.run S R1 m1).2.2.2) → noTouch S z Z L R m := fun h => Hnt.out (by rw [Hdr.out]; exact ⟨Htn.out, h⟩)
        have hln := run_len p S R1 m1
        have HR := Lib.hid hrun
        have HN2 := Lib.hid hnt2
        have HDc := Lib.hid (HDb.out.did hst2 hk2)
        have Hln := Lib.hid (hln.trans Hlen.out)
        clear hdo hrun hnt2 hln hst2 hk2 k0 k1 k2 k3 k4 k5 k6 k7
        generalize p.run S R1 m1 = Q at HR HN2 HDc Hln ⊢
        obtain ⟨t1, t2, R2, m2⟩ := Q
        dsimp only at HR HN2 HDc Hln ⊢
        by_cases ht1 : t1 = 0
        · by_cases ht2 : t2 = 0
          · subst ht1 ht2
            go_wp2_with fail
            exact ⟨⟨k + 1, R2, m2, by omega, rfl, rfl, by simp, HDc.out, Hln.out, by simpa using HR.out, fun h => HN2.out fun _ _ => h⟩, by simp only [intOf]; omega⟩
          · have e2 : (t2 != 0) = true := by simpa using ht2
            have hv := HR.out
            rw [if_pos (.inr ht2)] at hv
            have HVV := Lib.hid hv
            have HNN := Lib.hid (HN2.out fun _ h => absurd h ht2)
            subst ht1
            clear ht2 hv
            go_wp2_with fail
            exact HX.out _ _ _ _ _ _ _ _ _ _ _ _ _ _ _ _ _ _ _ _ _ _ _ _ _ _ _ _ _ _ _ _ _ _ _ _ _ _ _ _ _ _ _ _ _ _ _ _ _ _ _ _ _ _ _ _ _ _ _ _ _ _ _ _ _ _ _ _ _ _ _ _ _ _ _ _ _ _ _ _ _ _ _ _ _ _ _ _ _ _ _ _ _ _ _ _ _ _ _ _ _ _ _ _ _ _ _ _ _ _ _ _ _ _ _ _ _ _ _ _ _ _ _ _ _ _ _ _ _ _ _ _ _ _ _ _ _ _ _ _ _ _ _ _ _ _ _ _ _ _ _ _ _ _ _ _ _ _ _ _ _ _ _ _ _ _ _ _ _ _ _ _ _ _ _ _ _ _ _ _ _ _ _ _ _ _ _ _ _ _ _ _ _ _ _ _ _ _ _ _ _ 0 t2 R2 m2 HDc.out HVV.out HNN.out
        · have e1 : (t1 != 0) = true := by simpa using ht1
          have hv := HR.out
          rw [if_pos (.inl ht1)] at hv
          have HVV := Lib.hid hv
          have HNN := Lib.hid (HN2.out fun h => absurd h ht1)
          clear ht1 hv
          go_wp2_with fail
          exact HX.out _ _ _ _ _ _ _ _ _ _ _ _ _ _ _ _ _ _ _ _ _ _ _ _ _ _ _ _ _ _ _ _ _ _ _ _ _ _ _ _ _ _ _ _ _ _ _ _ _ _ _ _ _ _ _ _ _ _ _ _ _ _ _ _ _ _ _ _ _ _ _ _ _ _ _ _ _ _ _ _ _ _ _ _ _ _ _ _ _ _ _ _ _ _ _ _ _ _ _ _ _ _ _ _ _ _ _ _ _ _ _ _ _ _ _ _ _ _ _ _ _ _ _ _ _ _ _ _ _ _ _ _ _ _ _ _ _ _ _ _ _ _ _ _ _ _ _ _ _ _ _ _ _ _ _ _ _ _ _ _ _ _ _ _ _ _ _ _ _ _ _ _ _ _ _ _ _ _ _ _ _ _ _ _ _ _ _ _ _ _ _ _ _ _ _ _ _ _ _ _ _ t1 t2 R2 m2 HDc.out HVV.out HNN.out
      · go_wp2_with fail
        exact HQ.out _ _ _ _ _ _ _ _ _ _ _ _ _ _ _ _ _ _ _ _ _ _ _ _ _ _ _ _ _ _ _ _ _ _ _ _ _ _ _ _ _ _ _ _ _ _ _ _ _ _ _ _ _ _ _ _ _ _ _ _ _ _ _ _ _ _ _ _ _ _ _ _ _ _ _ _ _ _ _ _ _ _ _ _ _ _ _ _ _ _ _ _ _ _ _ _ _ _ _ _ _ _ _ _ _ _ _ _ _ _ _ _ _ _ _ _ _ _ _ _ _ _ _ _ _ _ _ _ _ _ _ _ _ _ _ _ _ _ _ _ _ _ _ _ _ _ _ _ _ _ _ _ _ _ _ _ _ _ _ _ _ _ _ _ _ _ _ _ _ _ _ _ _ _ _ _ _ _ _ _ _ _ _ _ _ _ _ _ _ _ _ _ _ _ _ _ _ _ _ _ _ _ HDb.out.bel
    · have hkn : k = N := by omega
      have hv := Hv.out
      rw [hkn, ← HN.out, List.drop_length] at hv
      have hn := Hnt.out
      rw [hkn, ← HN.out, List.drop_length] at hn
      have HNN := Lib.hid (hn trivial)
      have HVV := Lib.hid hv
      clear hv hn
      go_wp2_with fail
      exact HX.out _ _ _ _ _ _ _ _ _ _ _ _ _ _ _ _ _ _ _ _ _ _ _ _ _ _ _ _ _ _ _ _ _ _ _ _ _ _ _ _ _ _ _ _ _ _ _ _ _ _ _ _ _ _ _ _ _ _ _ _ _ _ _ _ _ _ _ _ _ _ _ _ _ _ _ _ _ _ _ _ _ _ _ _ _ _ _ _ _ _ _ _ _ _ _ _ _ _ _ _ _ _ _ _ _ _ _ _ _ _ _ _ _ _ _ _ _ _ _ _ _ _ _ _ _ _ _ _ _ _ _ _ _ _ _ _ _ _ _ _ _ _ _ _ _ _ _ _ _ _ _ _ _ _ _ _ _ _ _ _ _ _ _ _ _ _ _ _ _ _ _ _ _ _ _ _ _ _ _ _ _ _ _ _ _ _ _ _ _ _ _ _ _ _ _ _ _ _ _ _ _ 0 0 R1 m1 HD1.out HVV.out HNN.out
end Go.Proofs.YtmkencdkglbpbaaDoor
