/- The document's step, its third loop. -/
import Derived.Test.YtmkencdkglbpbaaDoorRfCa
import Derived.Deep.RegionHeld3
import Derived.StillTailTactics
set_option maxRecDepth 100000
set_option linter.unusedVariables false
namespace Go.Proofs.YtmkencdkglbpbaaDoor
open Go.RowKit Go.Maps

set_option maxHeartbeats 8000000 in
theorem loop3_any (b oo n c : Nat) (L : List Op8) (base : Int) (xs0 : Option Addr) (cs0 : Nat) (xo0 : Option Addr) (co0 : Nat) (T : List Int) (O : List Op8) (B N k : Nat) (S0 : List Int) (w : World) (s0 : AS) (o : Op8) (nx : Int → Int) (b2 b3 : Nat) (HL : Hid (OpsSl w (some ⟨b, oo, none⟩) L)) (HN : Hid (L.length = n)) (hn2 : n ≤ 1000) (hk : k < L.length) (hB : B ≤ w.heap.size) (HI : Hid (RunI L (L.take k) base S0 s0)) (HO : Hid (OpIn S0 o)) (hb : 0 ≤ base ∧ base ≤ 1020) (hN : N + 20 ≤ 10000) (Hxo : Hid (∀ b1 o1, (some ⟨b, oo, none⟩ : Option Addr) = some ⟨b1, o1, none⟩ → some b1 ≠ (Value.slice xo0 O.length co0).ownBlock)) (Hp0 : Hid (s0.pos = k)) (Hoe : Hid (o = L[k])) (Hnx : Hid (nx = fun y => nextF n k (lastF L 0 y))) (Hb2 : Hid (b2 = w.heap.size + 2)) (Hb3 : Hid (b3 = w.heap.size + 3)) (s1 : AS) (q4 : Op8) (Hf1 : Hid (Fine s1)) (Hg1 : Hid (InG S0 s1)) (p1 : s1.pos = k) (a0 a1 a2 a3 a4 a5 a6 a7 : Int) (vs1 vo1 : Value) (w5 : World) (HS0 : Hid (StA w B (N + 8 + 0) (some ⟨b, oo, none⟩) n c base k (.slice xs0 T.length cs0) (.slice xo0 O.length co0) o (qT q4 o 0 (setS nx base o s1 0).2) (setS nx base o s1 0).1 a0 a1 a2 a3 a4 a5 a6 a7 vs1 vo1 w5)) (hm00 : 0 ≤ (setS nx base o s1 0).1.slots) (hm01 : (setS nx base o s1 0).1.slots ≤ (N + 8 + 0 : Nat)) (Qx : Exit → Act → World → Prop) (fr0 fr5 fr6 fr7 fr8 fr10 fr11 fr12 fr13 fr14 fr15 fr16 fr17 fr18 fr19 fr20 fr21 fr22 fr23 fr24 fr25 fr26 fr27 fr28 fr29 fr30 fr31 fr32 fr33 fr34 fr35 fr36 fr37 fr38 fr39 fr40 fr41 fr42 fr43 fr44 fr45 fr46 fr47 fr48 fr49 fr50 fr51 fr52 fr53 fr54 fr55 fr56 fr57 fr58 fr59 fr60 fr61 fr62 fr63 fr64 fr65 fr66 fr67 fr68 fr69 fr70 fr71 fr72 fr73 fr74 fr75 fr76 fr77 fr78 fr79 fr80 fr81 fr82 fr83 fr84 fr85 fr86 fr87 fr88 fr89 fr90 fr91 fr92 fr93 fr94 fr95 fr96 fr97 fr98 fr99 fr100 fr101 fr102 fr103 fr104 fr105 fr106 fr107 fr108 fr109 fr110 fr111 fr112 fr113 fr114 fr115 fr116 fr117 fr118 fr119 fr120 fr121 fr122 fr123 fr124 fr125 fr126 fr127 fr128 fr129 fr130 fr131 fr132 fr133 fr134 fr135 fr136 fr137 fr138 fr139 fr140 fr141 fr142 fr143 fr144 fr145 fr146 fr147 fr148 fr149 fr150 fr151 fr152 fr153 fr154 fr155 fr156 fr157 fr158 fr159 fr160 fr161 fr162 fr163 fr164 fr165 fr166 fr167 fr168 fr169 fr170 fr171 fr172 fr173 fr174 : Value)
    (hexit : ∀ (fx0 fx5 fx6 fx7 fx8 fx10 fx11 fx12 fx13 fx14 fx15 fx16 fx17 fx18 fx19 fx20 fx21 fx22 fx23 fx24 fx25 fx26 fx27 fx28 fx29 fx30 fx31 fx32 fx33 fx34 fx35 fx36 fx37 fx38 fx39 fx40 fx41 fx42 fx43 fx44 fx45 fx46 fx47 fx48 fx49 fx50 fx51 fx52 fx53 fx54 fx55 fx56 fx57 fx58 fx59 fx60 fx61 fx62 fx63 fx64 fx65 fx66 fx67 fx68 fx69 fx70 fx71 fx72 fx73 fx74 fx75 fx76 fx77 fx78 fx79 fx80 fx81 fx82 fx83 fx84 fx85 fx86 fx87 fx88 fx89 fx90 fx91 fx92 fx93 fx94 fx95 fx96 fx97 fx98 fx99 fx100 fx101 fx102 fx103 fx104 fx105 fx106 fx107 fx108 fx109 fx110 fx111 fx112 fx113 fx114 fx115 fx116 fx117 fx118 fx119 fx120 fx121 fx122 fx123 fx124 fx125 fx126 fx127 fx128 fx129 fx130 fx131 fx132 fx133 fx134 fx135 fx136 fx137 fx138 fx139 fx140 fx141 fx142 fx143 fx144 fx145 fx146 fx147 fx148 fx149 fx150 fx151 fx152 fx153 fx154 fx155 fx156 fx157 fx158 fx159 fx160 fx161 fx162 fx163 fx164 fx165 fx166 fx167 fx168 fx169 fx170 fx171 fx172 fx173 fx174 : Value) (wr : World) (d0 d1 d2 d3 d4 d5 d6 d7 : Int) (vs2 vo2 : Value), StA w B (N + 8 + 2) (some ⟨b, oo, none⟩) n c base k (.slice xs0 T.length cs0) (.slice xo0 O.length co0) o (qT q4 o 2 (setS nx base o s1 2).2) (setS nx base o s1 2).1 d0 d1 d2 d3 d4 d5 d6 d7 vs2 vo2 wr → 0 ≤ (setS nx base o s1 2).1.slots → (setS nx base o s1 2).1.slots ≤ (N + 8 + 2 : Nat) → Qx (.exit 4) ⟨List.toArray (fx0 :: .pointer (some ⟨w.heap.size, 0, none⟩) :: .pointer (some ⟨w.heap.size + 1, 0, none⟩) :: .pointer (some ⟨b2, 0, none⟩) :: .pointer (some ⟨b3, 0, none⟩) :: fx5 :: fx6 :: fx7 :: fx8 :: .int .i64 ((2 : Nat) : Int) :: fx10 :: fx11 :: fx12 :: fx13 :: fx14 :: fx15 :: fx16 :: fx17 :: fx18 :: fx19 :: fx20 :: fx21 :: fx22 :: fx23 :: fx24 :: fx25 :: fx26 :: fx27 :: fx28 :: fx29 :: fx30 :: fx31 :: fx32 :: fx33 :: fx34 :: fx35 :: fx36 :: fx37 :: fx38 :: fx39 :: fx40 :: fx41 :: fx42 :: fx43 :: fx44 :: fx45 :: fx46 :: fx47 :: fx48 :: fx49 :: fx50 :: fx51 :: fx52 :: fx53 :: fx54 :: fx55 :: fx56 :: fx57 :: fx58 :: fx59 :: fx60 :: fx61 :: fx62 :: fx63 :: fx64 :: fx65 :: fx66 :: fx67 :: fx68 :: fx69 :: fx70 :: fx71 :: fx72 :: fx73 :: fx74 :: fx75 :: fx76 :: fx77 :: fx78 :: fx79 :: fx80 :: fx81 :: fx82 :: fx83 :: fx84 :: fx85 :: fx86 :: fx87 :: fx88 :: fx89 :: fx90 :: fx91 :: fx92 :: fx93 :: fx94 :: fx95 :: fx96 :: fx97 :: fx98 :: fx99 :: fx100 :: fx101 :: fx102 :: fx103 :: fx104 :: fx105 :: fx106 :: fx107 :: fx108 :: fx109 :: fx110 :: fx111 :: fx112 :: fx113 :: fx114 :: fx115 :: fx116 :: fx117 :: fx118 :: fx119 :: fx120 :: fx121 :: fx122 :: fx123 :: fx124 :: fx125 :: fx126 :: fx127 :: fx128 :: fx129 :: fx130 :: fx131 :: fx132 :: fx133 :: fx134 :: fx135 :: fx136 :: fx137 :: fx138 :: fx139 :: fx140 :: fx141 :: fx142 :: fx143 :: fx144 :: fx145 :: fx146 :: fx147 :: fx148 :: fx149 :: fx150 :: fx151 :: fx152 :: fx153 :: fx154 :: fx155 :: fx156 :: fx157 :: fx158 :: fx159 :: fx160 :: fx161 :: fx162 :: fx163 :: fx164 :: fx165 :: fx166 :: fx167 :: fx168 :: fx169 :: fx170 :: fx171 :: fx172 :: fx173 :: fx174 :: []), []⟩ wr) :
    Code.wp Tryd.prog (Code.loop (loopBody 2)) Qx ⟨List.toArray (fr0 :: .pointer (some ⟨w.heap.size, 0, none⟩) :: .pointer (some ⟨w.heap.size + 1, 0, none⟩) :: .pointer (some ⟨b2, 0, none⟩) :: .pointer (some ⟨b3, 0, none⟩) :: fr5 :: fr6 :: fr7 :: fr8 :: .int .i64 0 :: fr10 :: fr11 :: fr12 :: fr13 :: fr14 :: fr15 :: fr16 :: fr17 :: fr18 :: fr19 :: fr20 :: fr21 :: fr22 :: fr23 :: fr24 :: fr25 :: fr26 :: fr27 :: fr28 :: fr29 :: fr30 :: fr31 :: fr32 :: fr33 :: fr34 :: fr35 :: fr36 :: fr37 :: fr38 :: fr39 :: fr40 :: fr41 :: fr42 :: fr43 :: fr44 :: fr45 :: fr46 :: fr47 :: fr48 :: fr49 :: fr50 :: fr51 :: fr52 :: fr53 :: fr54 :: fr55 :: fr56 :: fr57 :: fr58 :: fr59 :: fr60 :: fr61 :: fr62 :: fr63 :: fr64 :: fr65 :: fr66 :: fr67 :: fr68 :: fr69 :: fr70 :: fr71 :: fr72 :: fr73 :: fr74 :: fr75 :: fr76 :: fr77 :: fr78 :: fr79 :: fr80 :: fr81 :: fr82 :: fr83 :: fr84 :: fr85 :: fr86 :: fr87 :: fr88 :: fr89 :: fr90 :: fr91 :: fr92 :: fr93 :: fr94 :: fr95 :: fr96 :: fr97 :: fr98 :: fr99 :: fr100 :: fr101 :: fr102 :: fr103 :: fr104 :: fr105 :: fr106 :: fr107 :: fr108 :: fr109 :: fr110 :: fr111 :: fr112 :: fr113 :: fr114 :: fr115 :: fr116 :: fr117 :: fr118 :: fr119 :: fr120 :: fr121 :: fr122 :: fr123 :: fr124 :: fr125 :: fr126 :: fr127 :: fr128 :: fr129 :: fr130 :: fr131 :: fr132 :: fr133 :: fr134 :: fr135 :: fr136 :: fr137 :: fr138 :: fr139 :: fr140 :: fr141 :: fr142 :: fr143 :: fr144 :: fr145 :: fr146 :: fr147 :: fr148 :: fr149 :: fr150 :: fr151 :: fr152 :: fr153 :: fr154 :: fr155 :: fr156 :: fr157 :: fr158 :: fr159 :: fr160 :: fr161 :: fr162 :: fr163 :: fr164 :: fr165 :: fr166 :: fr167 :: fr168 :: fr169 :: fr170 :: fr171 :: fr172 :: fr173 :: fr174 :: []), []⟩ w5 := by
  conv => arg 2; arg 1; whnf
  have HX := Lib.hid hexit
  clear hexit
  have hsd := fun j hj => setS_at (nx := nx) (base := base) (S := S0) Hf1.out Hg1.out HO.out j hj
  rw [p1] at hsd
  have HSd := Lib.hid hsd
  clear hsd p1
  go_loopw [9] (fun iv wz => ∃ (i : Nat) (d0 d1 d2 d3 d4 d5 d6 d7 : Int) (vs2 vo2 : Value), i ≤ 2 ∧ iv = .int .i64 i ∧ StA w B (N + 8 + i) (some ⟨b, oo, none⟩) n c base k (.slice xs0 T.length cs0) (.slice xo0 O.length co0) o (qT q4 o i (setS nx base o s1 i).2) (setS nx base o s1 i).1 d0 d1 d2 d3 d4 d5 d6 d7 vs2 vo2 wz ∧ 0 ≤ (setS nx base o s1 i).1.slots ∧ (setS nx base o s1 i).1.slots ≤ (N + 8 + i : Nat)) (fun iv _ => 2 - (intOf iv).toNat)
  case atStart => exact ⟨0, _, _, _, _, _, _, _, _, _, _, by omega, rfl, HS0.out, hm00, hm01⟩
  case round =>
    obtain ⟨i, d0, d1, d2, d3, d4, d5, d6, d7, vs2, vo2, hi2, rfl, hst, hsd0, hsd1⟩ := hrel
    by_cases hlt3 : i < 2
    · skip -- S3
      have hlt' : i < [o.t0, o.t1].length := hlt3
      obtain ⟨hf, hp, hcase⟩ := HSd.out i hlt'
      obtain ⟨hl2, hkO⟩ := hst.kO' Hb2.out
      have hcO := blkO_to hkO i hlt'
      obtain ⟨X, hXe⟩ : ∃ X, [o.t0, o.t1][i]'hlt' = X := ⟨_, rfl⟩
      rw [hXe] at hcO hcase
      have HXe := Lib.hid hXe
      clear hXe
      obtain ⟨lj, hlj⟩ : ∃ lj, (setS nx base o s1 i).2 = lj := ⟨_, rfl⟩
      obtain ⟨sj, hsj⟩ : ∃ sj, (setS nx base o s1 i).1 = sj := ⟨_, rfl⟩
      rw [hlj, hsj] at hcase
      rw [hsj] at hf hp hsd0 hsd1
      rw [hlj, hsj] at hst
      obtain ⟨xs2, cs2, rfl, hcs2⟩ := own_slice hst.rows.rt
      obtain ⟨xo2, co2, rfl, hco2⟩ := own_slice hst.rows.ro
      have wi : IntKind.i64.wrap ((i : Int) + 1) = (i : Int) + 1 := IntWalk.i64_in _ (by omega)
      have hlb := lt_of_block hst.k5
      have Hst9 := Lib.hid hst
      have Hf := Lib.hid hf
      have Hp := Lib.hid hp
      have Hlj := Lib.hid hlj
      have Hsj := Lib.hid hsj
      have hiI : (i : Int) < 2 := by omega
      clear hst hkO hf hp hlj hsj
      rcases hcase with ⟨hX, hnext, hqk⟩ | ⟨h0, h1, hnext, hqk⟩
      · have Hnext := Lib.hid hnext
        have Hqk := Lib.hid (hqk q4)
        clear hnext hqk
        subst hX
        go_wp2_with fail
        exact ⟨⟨i + 1, _, _, _, _, _, _, _, _, _, _, by omega, by simp, by rw [Hnext.out, Hlj.out, Hsj.out, Hqk.out]; exact Hst9.out.mono (by omega), by rw [Hnext.out, Hsj.out]; exact hsd0, by rw [Hnext.out, Hsj.out]; omega⟩, by simp only [intOf]; omega⟩
      · have Hnext := Lib.hid hnext
        have Hqk := Lib.hid (hqk q4)
        have e1 : decide (0 ≤ X) = true := by simpa using h0
        have hsl0 := hsd0
        have hsl1 := hsd1
        clear hnext hqk
        go_upto_region 18 with fail
        clear hcO hl2 hlb
        obtain ⟨S5, hS5⟩ : ∃ S5, S5 = takeF nx base (pinsOf o true) sj X := ⟨_, rfl⟩
        obtain ⟨R, hRe⟩ : ∃ R, R = pickF nx (pinsOf o true) sj := ⟨_, rfl⟩
        have hops := Hst9.out.ops HL.out Hxo.out
        have HT := Lib.hid (fun wX (hX : Below wr.heap.size wr wX) => takeR_at Hst9.out Hp.out Hf.out hk Hoe.out.symm HN.out hn2 hB hb ⟨hsl0, hsl1⟩ (by omega) X true hX (hops.below hX) (S := S5) (by rw [hS5, Hnx.out]) (R := R) (by rw [hRe, Hnx.out]))
        have HS5 := Lib.hid hS5
        have HR5 := Lib.hid hRe
        have Hops := Lib.hid hops
        clear hS5 hRe hops
        go_cut [10, 11] from 84 to 106 (fun pv rv wx => ∃ (b6 : Nat) (h0 h1 h2 h3 h4 h5 h6 h7 : Int) (xs5 : Option Addr) (n5 cs5 : Nat) (xo5 : Option Addr) (m5 co5 : Nat), pv = .pointer (some ⟨b6, 0, none⟩) ∧ rv = .int .i64 R ∧ TkA w B (N + 8 + i + 1) (some ⟨b, oo, none⟩) n c base k (.slice xs0 T.length cs0) (.slice xo0 O.length co0) o (qT q4 o i lj) S5 b6 h0 h1 h2 h3 h4 h5 h6 h7 (.slice xs5 n5 cs5) (.slice xo5 m5 co5) #[.slice (some ⟨b, oo, none⟩) n c, .int .i64 base, .int .i64 (k : Int), .int .i64 d0, .int .i64 d1, .int .i64 d2, .int .i64 d3, .int .i64 d4, .int .i64 d5, .int .i64 d6, .int .i64 d7, .slice xs2 sj.T.length cs2, .slice xo2 sj.out.length co2, .int .i64 sj.slots, .int .i64 sj.e] wx)
        case first =>
          have hD : Below wr.heap.size wr wr.drew := (Below.refl _ wr).drew
          have hDA : Below wr.heap.size wr ((wr.alloc (.cells #[.slice none 0 0, .int .i64 0, .int .i64 0, .int .i64 0, .int .i64 0, .int .i64 0, .int .i64 0, .int .i64 0, .int .i64 0, .int .i64 0, .int .i64 0, .slice none 0 0, .slice none 0 0, .int .i64 0, .int .i64 0] 86)).drew) := ((Below.refl _ wr).alloc (Nat.le_refl _) _).drew
          have hZ : wr.heap.size < ((wr.alloc (.cells #[.slice none 0 0, .int .i64 0, .int .i64 0, .int .i64 0, .int .i64 0, .int .i64 0, .int .i64 0, .int .i64 0, .int .i64 0, .int .i64 0, .int .i64 0, .slice none 0 0, .slice none 0 0, .int .i64 0, .int .i64 0] 86)).drew).heap.size := by
            show wr.heap.size < (wr.alloc _).heap.size
            simp
          have hZk := heap_alloc_last wr (.cells #[.slice none 0 0, .int .i64 0, .int .i64 0, .int .i64 0, .int .i64 0, .int .i64 0, .int .i64 0, .int .i64 0, .int .i64 0, .int .i64 0, .int .i64 0, .slice none 0 0, .slice none 0 0, .int .i64 0, .int .i64 0] 86)
          have HZ := Lib.hid hZ
          have HZk := Lib.hid hZk
          clear hZ hZk
          have hKp : ∀ w' : World, wr.grownBy w' (Value.slice xo2 sj.out.length co2).ownBlock → (w'.cell? ⟨w.heap.size, 0, none⟩ = some (.slice (some ⟨b, oo, none⟩) n c) ∧ w'.cell? ⟨w.heap.size, 1, none⟩ = some (.int .i64 base) ∧ w'.cell? ⟨w.heap.size, 2, none⟩ = some (.int .i64 (k : Int)) ∧ w'.cell? ⟨w.heap.size, 3, none⟩ = some (.int .i64 d0) ∧ w'.cell? ⟨w.heap.size, 4, none⟩ = some (.int .i64 d1) ∧ w'.cell? ⟨w.heap.size, 5, none⟩ = some (.int .i64 d2) ∧ w'.cell? ⟨w.heap.size, 6, none⟩ = some (.int .i64 d3) ∧ w'.cell? ⟨w.heap.size, 7, none⟩ = some (.int .i64 d4) ∧ w'.cell? ⟨w.heap.size, 8, none⟩ = some (.int .i64 d5) ∧ w'.cell? ⟨w.heap.size, 9, none⟩ = some (.int .i64 d6) ∧ w'.cell? ⟨w.heap.size, 10, none⟩ = some (.int .i64 d7) ∧ w'.cell? ⟨w.heap.size, 11, none⟩ = some (.slice xs2 sj.T.length cs2) ∧ w'.cell? ⟨w.heap.size, 12, none⟩ = some (.slice xo2 sj.out.length co2) ∧ w'.cell? ⟨w.heap.size, 13, none⟩ = some (.int .i64 sj.slots) ∧ w'.cell? ⟨w.heap.size, 14, none⟩ = some (.int .i64 sj.e)) ∧ w'.cell? ⟨b2, 1 + i, none⟩ = some (.int .i64 X) := fun w' hg => by
            obtain ⟨l2, k2⟩ := Hst9.out.kO' Hb2.out
            have q2 := Hst9.out.o2.blk hg (by have := Hb2.out; omega) (by have := Hb2.out; omega) k2
            have q5 := Hst9.out.o2.blk hg (Nat.le_refl _) (by omega) Hst9.out.k5
            refine ⟨blockA_cells q5, ?_⟩
            have := blkO_to q2 i hlt'
            rw [HXe.out] at this
            exact this
          have Kp := Lib.hid hKp
          have hA := blockA_cells Hst9.out.k5
          have hlb := lt_of_block Hst9.out.k5
          have hlo := (Hst9.out.kO' Hb2.out).1
          have hoX := (hKp _ (below_grown (Below.refl _ wr))).2
          clear hKp
          go_region_held3 (fun w' => (w'.cell? ⟨w.heap.size, 0, none⟩ = some (.slice (some ⟨b, oo, none⟩) n c) ∧ w'.cell? ⟨w.heap.size, 1, none⟩ = some (.int .i64 base) ∧ w'.cell? ⟨w.heap.size, 2, none⟩ = some (.int .i64 (k : Int)) ∧ w'.cell? ⟨w.heap.size, 3, none⟩ = some (.int .i64 d0) ∧ w'.cell? ⟨w.heap.size, 4, none⟩ = some (.int .i64 d1) ∧ w'.cell? ⟨w.heap.size, 5, none⟩ = some (.int .i64 d2) ∧ w'.cell? ⟨w.heap.size, 6, none⟩ = some (.int .i64 d3) ∧ w'.cell? ⟨w.heap.size, 7, none⟩ = some (.int .i64 d4) ∧ w'.cell? ⟨w.heap.size, 8, none⟩ = some (.int .i64 d5) ∧ w'.cell? ⟨w.heap.size, 9, none⟩ = some (.int .i64 d6) ∧ w'.cell? ⟨w.heap.size, 10, none⟩ = some (.int .i64 d7) ∧ w'.cell? ⟨w.heap.size, 11, none⟩ = some (.slice xs2 sj.T.length cs2) ∧ w'.cell? ⟨w.heap.size, 12, none⟩ = some (.slice xo2 sj.out.length co2) ∧ w'.cell? ⟨w.heap.size, 13, none⟩ = some (.int .i64 sj.slots) ∧ w'.cell? ⟨w.heap.size, 14, none⟩ = some (.int .i64 sj.e)) ∧ w'.cell? ⟨b2, 1 + i, none⟩ = some (.int .i64 X))
            (first
              | ((with_reducible refine Kp.out (World.setCell _ _ _) ?_); (first
                  | with_reducible exact grown_row hgW2.out (putA_all Hb6.out _ _ _ _ _ _ _ _ _ _ _ _ _ _ _ _ _).2 (some_le (Nat.le_refl _))
                  | with_reducible exact grown_row (grown_then hgW1.out ((Below.refl _ _).alloc (Nat.le_refl _) _)) (putA_all (heap_alloc_last _ _) _ _ _ _ _ _ _ _ _ _ _ _ _ _ _ _ _).2 (some_le hgW1.out.size)))
              | ((with_reducible refine Kp.out (World.alloc _ _) ?_); (with_reducible exact grown_then hgW1.out ((Below.refl _ _).alloc (Nat.le_refl _) _)))
              | ((with_reducible refine Kp.out (World.drew _) ?_); (first | with_reducible exact below_grown hD | with_reducible exact below_grown hDA))
              | with_reducible exact Kp.out _ hgW1.out
              | with_reducible exact Kp.out _ hgW2.out)
            (first
              | (go_at_call 63; (with_reducible refine (HT.out _ hD).mono ?_); rintro e w5 ⟨h0, h1, h2, h3, h4, h5, h6, h7, xs5, n5, cs5, xo5, m5, co5, rfl, hG5, hr5, hg5, e15, e25⟩; have hgW1 := Lib.hid (grown_row (below_grown hD) hg5 (fun j e => .inl e.symm)); have Hpk := Lib.hid (And.intro hG5 (And.intro hr5 (And.intro hg5 (And.intro e15 e25)))); clear hG5 hr5 hg5 e15 e25)
              | (go_at_call 63; (with_reducible refine (HT.out _ hDA).mono ?_); rintro e w5 ⟨h0, h1, h2, h3, h4, h5, h6, h7, xs5, n5, cs5, xo5, m5, co5, rfl, hG5, hr5, hg5, e15, e25⟩; have hgW2 := Lib.hid (grown_row (below_grown hDA) hg5 (fun j e => .inl e.symm)); have hb6 := (hg5.block wr.heap.size HZ.out (fun e => by have := (Hst9.out.rows.ro.lt _ e.symm).2; omega)).trans HZk.out; obtain ⟨q0, q1, q2, q3, q4, q5, q6, q7, q8, q9, q10, q11, q12, q13, q14⟩ := blockA_cells hb6; have qf := frozen_box hb6; have Hb6 := Lib.hid hb6; clear hb6; have Hpk := Lib.hid (And.intro hG5 (And.intro hr5 (And.intro hg5 (And.intro e15 e25)))); clear hG5 hr5 hg5 e15 e25))
          · obtain ⟨hG5, hr5, hg5, e15, e25⟩ := Hpk.out
            have hsz5 : wr.heap.size ≤ w5.heap.size := hgW1.out.size
            have Htk := Lib.hid (Hst9.out.taken hG5 (hr5.below ((Below.refl _ w5).alloc (Nat.le_refl _) (.cells #[.slice (some ⟨b, oo, none⟩) n c, .int .i64 base, .int .i64 (k : Int), .int .i64 h0, .int .i64 h1, .int .i64 h2, .int .i64 h3, .int .i64 h4, .int .i64 h5, .int .i64 h6, .int .i64 h7, .slice xs5 n5 cs5, .slice xo5 m5 co5, .int .i64 S5.slots, .int .i64 S5.e] 86))) (grown_then hgW1.out ((Below.refl _ w5).alloc (Nat.le_refl _) _)) (show AtR wr _ _ from e15) (show AtR wr _ _ from e25) (heap_alloc_last w5 (.cells #[.slice (some ⟨b, oo, none⟩) n c, .int .i64 base, .int .i64 (k : Int), .int .i64 h0, .int .i64 h1, .int .i64 h2, .int .i64 h3, .int .i64 h4, .int .i64 h5, .int .i64 h6, .int .i64 h7, .slice xs5 n5 cs5, .slice xo5 m5 co5, .int .i64 S5.slots, .int .i64 S5.e] 86)))
            clear hgW1 hr5 hg5 e15 e25 hG5 Hpk
            go_wp2_with fail
            go_meet
            refine ⟨w5.heap.size, h0, h1, h2, h3, h4, h5, h6, h7, xs5, n5, cs5, xo5, m5, co5, by with_reducible rfl, by with_reducible rfl, ?_⟩
            with_reducible exact Htk.out
          · obtain ⟨hG5, hr5, hg5, e15, e25⟩ := Hpk.out
            have Htk := Lib.hid (Hst9.out.boxed hDA hG5 hr5 hg5 e15 e25 (Below.refl _ w5) Hb6.out (Nat.le_refl _) (fun v hv => by
              have q1 := HZ.out
              rcases hv with rfl | rfl
              · refine off_of fun j e => ?_
                rcases e15 with e2 | e2 | ⟨g, e2, hg⟩
                · have := (Hst9.out.rows.rt.lt j (e2 ▸ e)).2; omega
                · rw [e2] at e; cases e
                · rw [e2] at e; injection e with e; omega
              · refine off_of fun j e => ?_
                rcases e25 with e2 | e2 | ⟨g, e2, hg⟩
                · have := (Hst9.out.rows.ro.lt j (e2 ▸ e)).2; omega
                · rw [e2] at e; cases e
                · rw [e2] at e; injection e with e; omega))
            clear hgW2 hr5 hg5 e15 e25 hG5 Hpk Hb6 q0 q1 q2 q3 q4 q5 q6 q7 q8 q9 q10 q11 q12 q13 q14 qf
            go_wp2_with fail
            go_meet
            refine ⟨wr.heap.size, h0, h1, h2, h3, h4, h5, h6, h7, xs5, n5, cs5, xo5, m5, co5, by with_reducible rfl, by with_reducible rfl, ?_⟩
            with_reducible exact Htk.out
        case rest =>
          · skip -- S3r
            obtain ⟨b6, h0, h1, h2, h3, h4, h5, h6, h7, xs5, n5, cs5, xo5, m5, co5, rfl, rfl, htk⟩ := hcut
            have hsls := takeF_slots (nx := nx) (base := base) (pins := pinsOf o true) (s := sj) (v := X)
            have hsle := takeF_slots_le nx base (pinsOf o true) sj X
            have hsT := Hst9.out.rows.tn
            have hnext := Hnext.out
            have hqk := Hqk.out
            rw [← HS5.out, ← HR5.out] at hnext
            rw [← HR5.out] at hqk
            rw [← HS5.out] at hsls hsle
            have hback := htk.back
            obtain ⟨z0, z1, z2, z3, z4, z5, z6, z7, z8, z9, z10, z11, z12, z13, z14⟩ := blockA_cells htk.kb
            have hl6 := lt_of_block htk.kb
            have Htk := Lib.hid htk
            have Hback := Lib.hid hback
            have Hnx5 := Lib.hid hnext
            have Hqk5 := Lib.hid hqk
            clear hnext hqk htk hback
            go_upto_region 20 with (refine wpList_store_row rfl 86 (.tmp 1) (.tmp 102) (by rfl) w.heap.size #[.slice (some ⟨b, oo, none⟩) n c, .int .i64 base, .int .i64 (k : Int), .int .i64 h0, .int .i64 h1, .int .i64 h2, .int .i64 h3, .int .i64 h4, .int .i64 h5, .int .i64 h6, .int .i64 h7, .slice xs5 n5 cs5, .slice xo5 m5 co5, .int .i64 S5.slots, .int .i64 S5.e] (by rfl) (by rfl) 86 _ Htk.out.k5 sizeA rfl (by simp [Value.oneCell']) ?_)
            generalize World.setRow wc _ _ = wk at Hback ⊢
            clear z0 z1 z2 z3 z4 z5 z6 z7 z8 z9 z10 z11 z12 z13 z14 hl6
            obtain ⟨hl3, hkN⟩ := Hback.out.kN' Hb3.out
            have hcN := blkO_to hkN i hlt'
            have fN := frozen_box hkN (1 + i)
            have hfin := Hback.out.setQ (1 + i) (.int .i64 R) Hqk5.out
            rw [show w.heap.size + 3 = b3 from Hb3.out.symm] at hfin
            have Hfin := Lib.hid hfin
            clear hkN hfin
            go_wp2_with fail
            first | exact ⟨⟨i + 1, _, _, _, _, _, _, _, _, _, _, by omega, by simp, by rw [Hnx5.out]; exact Hfin.out, by rw [Hnx5.out]; show 0 ≤ S5.slots; omega, by rw [Hnx5.out]; show S5.slots ≤ _; omega⟩, by simp only [intOf]; omega⟩ | exact ⟨by (repeat apply Exists.intro); exact ⟨⟨i + 1, _, _, _, _, _, _, _, _, _, _, by omega, by simp, by rw [Hnx5.out]; exact Hfin.out, by rw [Hnx5.out]; show 0 ≤ S5.slots; omega, by rw [Hnx5.out]; show S5.slots ≤ _; omega⟩, rfl⟩, by simp [intOf]; omega⟩
    · have hi2' : i = 2 := by omega
      subst hi2'
      go_wp2_with fail
      exact HX.out _ _ _ _ _ _ _ _ _ _ _ _ _ _ _ _ _ _ _ _ _ _ _ _ _ _ _ _ _ _ _ _ _ _ _ _ _ _ _ _ _ _ _ _ _ _ _ _ _ _ _ _ _ _ _ _ _ _ _ _ _ _ _ _ _ _ _ _ _ _ _ _ _ _ _ _ _ _ _ _ _ _ _ _ _ _ _ _ _ _ _ _ _ _ _ _ _ _ _ _ _ _ _ _ _ _ _ _ _ _ _ _ _ _ _ _ _ _ _ _ _ _ _ _ _ _ _ _ _ _ _ _ _ _ _ _ _ _ _ _ _ _ _ _ _ _ _ _ _ _ _ _ _ _ _ _ _ _ _ _ _ _ _ _ _ _ _ _ _ _ _ _ _ _ _ _ _ _ _ _ _ hst hsd0 hsd1

end Go.Proofs.YtmkencdkglbpbaaDoor
