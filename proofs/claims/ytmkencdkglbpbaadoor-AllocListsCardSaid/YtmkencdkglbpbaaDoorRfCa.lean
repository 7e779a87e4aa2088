/- The document's step, its first loop. -/
import Derived.Test.YtmkencdkglbpbaaDoorRfU
import Derived.Deep.RegionHeld3
import Derived.StillTailTactics
set_option maxRecDepth 100000
set_option linter.unusedVariables false
namespace Go.Proofs.YtmkencdkglbpbaaDoor
open Go.RowKit Go.Maps

/-- The bodies of a code's loops, in the order of the text. -/
def loopsOf : Code → List Code
  | .loop c => c :: loopsOf c
  | .seq a b => loopsOf a ++ loopsOf b
  | .block _ c => loopsOf c
  | .scope c => loopsOf c
  | .cond _ a b => loopsOf a ++ loopsOf b
  | _ => []
noncomputable def loopBody (i : Nat) : Code := ((Tryd.f37.body.map loopsOf).getD []).getD i .skip

set_option maxHeartbeats 8000000 in
theorem loop1_any (b oo n c : Nat) (L : List Op8) (base : Int) (xs0 : Option Addr) (cs0 : Nat) (xo0 : Option Addr) (co0 : Nat) (T : List Int) (O : List Op8) (B N k : Nat) (S0 : List Int) (w : World) (s0 : AS) (o : Op8) (nx : Int → Int) (b2 b3 : Nat) (HL : Hid (OpsSl w (some ⟨b, oo, none⟩) L)) (HN : Hid (L.length = n)) (hn2 : n ≤ 1000) (hk : k < L.length) (hB : B ≤ w.heap.size) (HI : Hid (RunI L (L.take k) base S0 s0)) (HO : Hid (OpIn S0 o)) (hb : 0 ≤ base ∧ base ≤ 1020) (hN : N + 20 ≤ 10000) (Hxo : Hid (∀ b1 o1, (some ⟨b, oo, none⟩ : Option Addr) = some ⟨b1, o1, none⟩ → some b1 ≠ (Value.slice xo0 O.length co0).ownBlock)) (Hp0 : Hid (s0.pos = k)) (Hoe : Hid (o = L[k])) (Hnx : Hid (nx = fun y => nextF n k (lastF L 0 y))) (Hb2 : Hid (b2 = w.heap.size + 2)) (Hb3 : Hid (b3 = w.heap.size + 3)) (g0 g1 g2 g3 g4 g5 g6 g7 : Int) (w4 : World) (HS0 : Hid (StA w B (N) (some ⟨b, oo, none⟩) n c base k (.slice xs0 T.length cs0) (.slice xo0 O.length co0) o o s0 g0 g1 g2 g3 g4 g5 g6 g7 (.slice xs0 T.length cs0) (.slice xo0 O.length co0) w4)) (Hm0 : Hid (0 ≤ s0.slots ∧ s0.slots ≤ N)) (Qx : Exit → Act → World → Prop) (fr0 fr6 fr7 fr8 fr9 fr10 fr11 fr12 fr13 fr14 fr15 fr16 fr17 fr18 fr19 fr20 fr21 fr22 fr23 fr24 fr25 fr26 fr27 fr28 fr29 fr30 fr31 fr32 fr33 fr34 fr35 fr36 fr37 fr38 fr39 fr40 fr41 fr42 fr43 fr44 fr45 fr46 fr47 fr48 fr49 fr50 fr51 fr52 fr53 fr54 fr55 fr56 fr57 fr58 fr59 fr60 fr61 fr62 fr63 fr64 fr65 fr66 fr67 fr68 fr69 fr70 fr71 fr72 fr73 fr74 fr75 fr76 fr77 fr78 fr79 fr80 fr81 fr82 fr83 fr84 fr85 fr86 fr87 fr88 fr89 fr90 fr91 fr92 fr93 fr94 fr95 fr96 fr97 fr98 fr99 fr100 fr101 fr102 fr103 fr104 fr105 fr106 fr107 fr108 fr109 fr110 fr111 fr112 fr113 fr114 fr115 fr116 fr117 fr118 fr119 fr120 fr121 fr122 fr123 fr124 fr125 fr126 fr127 fr128 fr129 fr130 fr131 fr132 fr133 fr134 fr135 fr136 fr137 fr138 fr139 fr140 fr141 fr142 fr143 fr144 fr145 fr146 fr147 fr148 fr149 fr150 fr151 fr152 fr153 fr154 fr155 fr156 fr157 fr158 fr159 fr160 fr161 fr162 fr163 fr164 fr165 fr166 fr167 fr168 fr169 fr170 fr171 fr172 fr173 fr174 : Value)
    (hexit : ∀ (fx0 fx6 fx7 fx8 fx9 fx10 fx11 fx12 fx13 fx14 fx15 fx16 fx17 fx18 fx19 fx20 fx21 fx22 fx23 fx24 fx25 fx26 fx27 fx28 fx29 fx30 fx31 fx32 fx33 fx34 fx35 fx36 fx37 fx38 fx39 fx40 fx41 fx42 fx43 fx44 fx45 fx46 fx47 fx48 fx49 fx50 fx51 fx52 fx53 fx54 fx55 fx56 fx57 fx58 fx59 fx60 fx61 fx62 fx63 fx64 fx65 fx66 fx67 fx68 fx69 fx70 fx71 fx72 fx73 fx74 fx75 fx76 fx77 fx78 fx79 fx80 fx81 fx82 fx83 fx84 fx85 fx86 fx87 fx88 fx89 fx90 fx91 fx92 fx93 fx94 fx95 fx96 fx97 fx98 fx99 fx100 fx101 fx102 fx103 fx104 fx105 fx106 fx107 fx108 fx109 fx110 fx111 fx112 fx113 fx114 fx115 fx116 fx117 fx118 fx119 fx120 fx121 fx122 fx123 fx124 fx125 fx126 fx127 fx128 fx129 fx130 fx131 fx132 fx133 fx134 fx135 fx136 fx137 fx138 fx139 fx140 fx141 fx142 fx143 fx144 fx145 fx146 fx147 fx148 fx149 fx150 fx151 fx152 fx153 fx154 fx155 fx156 fx157 fx158 fx159 fx160 fx161 fx162 fx163 fx164 fx165 fx166 fx167 fx168 fx169 fx170 fx171 fx172 fx173 fx174 : Value) (wr : World) (a0 a1 a2 a3 a4 a5 a6 a7 : Int) (vs1 vo1 : Value), StA w B (N + 2 * 4) (some ⟨b, oo, none⟩) n c base k (.slice xs0 T.length cs0) (.slice xo0 O.length co0) o o (readS nx base o s0 4) a0 a1 a2 a3 a4 a5 a6 a7 vs1 vo1 wr → 0 ≤ (readS nx base o s0 4).slots → (readS nx base o s0 4).slots ≤ (N + 2 * 4 : Nat) → Qx (.exit 0) ⟨List.toArray (fx0 :: .pointer (some ⟨w.heap.size, 0, none⟩) :: .pointer (some ⟨w.heap.size + 1, 0, none⟩) :: .pointer (some ⟨b2, 0, none⟩) :: .pointer (some ⟨b3, 0, none⟩) :: .int .i64 ((4 : Nat) : Int) :: fx6 :: fx7 :: fx8 :: fx9 :: fx10 :: fx11 :: fx12 :: fx13 :: fx14 :: fx15 :: fx16 :: fx17 :: fx18 :: fx19 :: fx20 :: fx21 :: fx22 :: fx23 :: fx24 :: fx25 :: fx26 :: fx27 :: fx28 :: fx29 :: fx30 :: fx31 :: fx32 :: fx33 :: fx34 :: fx35 :: fx36 :: fx37 :: fx38 :: fx39 :: fx40 :: fx41 :: fx42 :: fx43 :: fx44 :: fx45 :: fx46 :: fx47 :: fx48 :: fx49 :: fx50 :: fx51 :: fx52 :: fx53 :: fx54 :: fx55 :: fx56 :: fx57 :: fx58 :: fx59 :: fx60 :: fx61 :: fx62 :: fx63 :: fx64 :: fx65 :: fx66 :: fx67 :: fx68 :: fx69 :: fx70 :: fx71 :: fx72 :: fx73 :: fx74 :: fx75 :: fx76 :: fx77 :: fx78 :: fx79 :: fx80 :: fx81 :: fx82 :: fx83 :: fx84 :: fx85 :: fx86 :: fx87 :: fx88 :: fx89 :: fx90 :: fx91 :: fx92 :: fx93 :: fx94 :: fx95 :: fx96 :: fx97 :: fx98 :: fx99 :: fx100 :: fx101 :: fx102 :: fx103 :: fx104 :: fx105 :: fx106 :: fx107 :: fx108 :: fx109 :: fx110 :: fx111 :: fx112 :: fx113 :: fx114 :: fx115 :: fx116 :: fx117 :: fx118 :: fx119 :: fx120 :: fx121 :: fx122 :: fx123 :: fx124 :: fx125 :: fx126 :: fx127 :: fx128 :: fx129 :: fx130 :: fx131 :: fx132 :: fx133 :: fx134 :: fx135 :: fx136 :: fx137 :: fx138 :: fx139 :: fx140 :: fx141 :: fx142 :: fx143 :: fx144 :: fx145 :: fx146 :: fx147 :: fx148 :: fx149 :: fx150 :: fx151 :: fx152 :: fx153 :: fx154 :: fx155 :: fx156 :: fx157 :: fx158 :: fx159 :: fx160 :: fx161 :: fx162 :: fx163 :: fx164 :: fx165 :: fx166 :: fx167 :: fx168 :: fx169 :: fx170 :: fx171 :: fx172 :: fx173 :: fx174 :: []), []⟩ wr) :
    Code.wp Tryd.prog (Code.loop (loopBody 0)) Qx ⟨List.toArray (fr0 :: .pointer (some ⟨w.heap.size, 0, none⟩) :: .pointer (some ⟨w.heap.size + 1, 0, none⟩) :: .pointer (some ⟨b2, 0, none⟩) :: .pointer (some ⟨b3, 0, none⟩) :: .int .i64 0 :: fr6 :: fr7 :: fr8 :: fr9 :: fr10 :: fr11 :: fr12 :: fr13 :: fr14 :: fr15 :: fr16 :: fr17 :: fr18 :: fr19 :: fr20 :: fr21 :: fr22 :: fr23 :: fr24 :: fr25 :: fr26 :: fr27 :: fr28 :: fr29 :: fr30 :: fr31 :: fr32 :: fr33 :: fr34 :: fr35 :: fr36 :: fr37 :: fr38 :: fr39 :: fr40 :: fr41 :: fr42 :: fr43 :: fr44 :: fr45 :: fr46 :: fr47 :: fr48 :: fr49 :: fr50 :: fr51 :: fr52 :: fr53 :: fr54 :: fr55 :: fr56 :: fr57 :: fr58 :: fr59 :: fr60 :: fr61 :: fr62 :: fr63 :: fr64 :: fr65 :: fr66 :: fr67 :: fr68 :: fr69 :: fr70 :: fr71 :: fr72 :: fr73 :: fr74 :: fr75 :: fr76 :: fr77 :: fr78 :: fr79 :: fr80 :: fr81 :: fr82 :: fr83 :: fr84 :: fr85 :: fr86 :: fr87 :: fr88 :: fr89 :: fr90 :: fr91 :: fr92 :: fr93 :: fr94 :: fr95 :: fr96 :: fr97 :: fr98 :: fr99 :: fr100 :: fr101 :: fr102 :: fr103 :: fr104 :: fr105 :: fr106 :: fr107 :: fr108 :: fr109 :: fr110 :: fr111 :: fr112 :: fr113 :: fr114 :: fr115 :: fr116 :: fr117 :: fr118 :: fr119 :: fr120 :: fr121 :: fr122 :: fr123 :: fr124 :: fr125 :: fr126 :: fr127 :: fr128 :: fr129 :: fr130 :: fr131 :: fr132 :: fr133 :: fr134 :: fr135 :: fr136 :: fr137 :: fr138 :: fr139 :: fr140 :: fr141 :: fr142 :: fr143 :: fr144 :: fr145 :: fr146 :: fr147 :: fr148 :: fr149 :: fr150 :: fr151 :: fr152 :: fr153 :: fr154 :: fr155 :: fr156 :: fr157 :: fr158 :: fr159 :: fr160 :: fr161 :: fr162 :: fr163 :: fr164 :: fr165 :: fr166 :: fr167 :: fr168 :: fr169 :: fr170 :: fr171 :: fr172 :: fr173 :: fr174 :: []), []⟩ w4 := by
  conv => arg 2; arg 1; whnf
  have HX := Lib.hid hexit
  clear hexit
  have hnow : ∀ v ∈ regsOf [o.f0, o.f1, o.f2, o.f3], nextF L.length s0.pos (lastF L 0 v) < L.length := fun v hv => by
    have hlast : ∀ v, ∀ i ∈ lastF L 0 v, i < (L.length : Int) := fun v i hi => by have := lastF_lt L 0 v i hi; omega
    refine (nextF_lt (hlast v)).2 ⟨k, ?_, by rw [Hp0.out]; omega⟩
    have := lastF_mem L 0 v k hk (by rw [← Hoe.out]; exact hv)
    simpa using this
  have hrd : ∀ j (hj : j < [o.f0, o.f1, o.f2, o.f3].length), _ := fun j hj => readS_at (nx := nx) (base := base) HI.out.fine HI.out.inv HO.out hnow j hj
  rw [Hp0.out] at hrd
  have HRd := Lib.hid hrd
  clear hrd hnow
  go_loopw [5] (fun iv wr => ∃ (j : Nat) (a0 a1 a2 a3 a4 a5 a6 a7 : Int) (vs1 vo1 : Value), j ≤ 4 ∧ iv = .int .i64 j ∧ StA w B (N + 2 * j) (some ⟨b, oo, none⟩) n c base k (.slice xs0 T.length cs0) (.slice xo0 O.length co0) o o (readS nx base o s0 j) a0 a1 a2 a3 a4 a5 a6 a7 vs1 vo1 wr ∧ 0 ≤ (readS nx base o s0 j).slots ∧ (readS nx base o s0 j).slots ≤ (N + 2 * j : Nat)) (fun iv _ => 4 - (intOf iv).toNat)
  case atStart => exact ⟨0, _, _, _, _, _, _, _, _, _, _, by omega, rfl, HS0.out, Hm0.out.1, Hm0.out.2⟩
  case round =>
    obtain ⟨j, a0, a1, a2, a3, a4, a5, a6, a7, vs1, vo1, hj, rfl, hst, hsl0, hsl1⟩ := hrel
    by_cases hlt : j < 4
    · skip -- S1
      have hlt' : j < [o.f0, o.f1, o.f2, o.f3].length := hlt
      obtain ⟨hf, hp, hcase⟩ := HRd.out j hlt'
      obtain ⟨hl2, hkO⟩ := hst.kO' Hb2.out
      have hcO := blkO_from hkO j hlt'
      obtain ⟨X, hXe⟩ : ∃ X, [o.f0, o.f1, o.f2, o.f3][j]'hlt' = X := ⟨_, rfl⟩
      rw [hXe] at hcO hcase
      have HXe := Lib.hid hXe
      clear hXe
      generalize readS nx base o s0 j = sj at hst hsl0 hsl1 hf hp hcase
      obtain ⟨xs1, cs1, rfl, hcs1⟩ := own_slice hst.rows.rt
      obtain ⟨xo1, co1, rfl, hco1⟩ := own_slice hst.rows.ro
      have wj : IntKind.i64.wrap ((j : Int) + 1) = (j : Int) + 1 := IntWalk.i64_in _ (by omega)
      have hlb := lt_of_block hst.k5
      have Kx : ∀ y : BW wr, y.val.cell? ⟨b2, 3 + j, none⟩ = some (.int .i64 X) := fun y => (y.prop.cell (p := ⟨b2, 3 + j, none⟩) hl2).trans hcO
      have Hst := Lib.hid hst
      have Hf := Lib.hid hf
      have Hp := Lib.hid hp
      have hjI : (j : Int) < 4 := by omega
      clear hst hkO hf hp
      rcases hcase with ⟨hX, hnext⟩ | ⟨h0, h1, hJ, hnext⟩ | ⟨h0, h1, hJ, hTJ, hnext⟩
      · skip -- S1a
        have Hnext := Lib.hid hnext
        clear hnext
        subst hX
        go_wp2_with fail
        refine wp_region_bw (by kernel_rfl) (by kernel_rfl) ?_
        repeat (with_reducible refine wpQuiet_step (fun K hK => ?_); go_simp; first | (with_reducible refine hK _ ?_; clear hK K) | (rw [if_neg (by first | decide | simp [undef] | nofun)]; with_reducible refine hK _ ?_; clear hK K))
        with_reducible refine wpQuiet_nil ?_
        intro w9 hw9
        have hbz : Below wr.heap.size wr w9 := by obtain ⟨y, rfl⟩ := hw9; exact y.prop
        clear hw9
        have Hbz := Lib.hid hbz
        clear Kx hbz hcO
        go_wp2_with fail
        exact ⟨⟨j + 1, _, _, _, _, _, _, _, _, _, _, by omega, by simp, by rw [Hnext.out]; exact (Hst.out.below Hbz.out).mono (by omega), by rw [Hnext.out]; exact hsl0, by rw [Hnext.out]; omega⟩, by simp only [intOf]; omega⟩
      · skip -- S1b
        have Hnext := Lib.hid hnext
        have e1 : decide (0 ≤ X) = true := by simpa using h0
        have hwh := fun y : BW wr => Calls.same_below (whereG_at Hst.out X y.prop)
        generalize idxV sj.G X 0 = J at hwh hJ
        have HQ := Lib.hid hwh
        have e2 : decide (J < 0) = false := by simp; omega
        clear hnext hwh
        go_wp2_with fail
        refine wp_region_bw (by kernel_rfl) (by kernel_rfl) ?_
        repeat (with_reducible refine wpQuiet_step (fun K hK => ?_); go_simp; first | (with_reducible refine hK _ ?_; clear hK K) | (rw [if_neg (by first | decide | simp [undef] | nofun)]; with_reducible refine hK _ ?_; clear hK K) | (apply Exists.intro; refine ⟨fun _ => ?_, hK _ ?_⟩; (with_reducible exact Calls.bw_of (HQ.out _)); clear hK K))
        with_reducible refine wpQuiet_nil ?_
        intro w9 hw9
        have hbz : Below wr.heap.size wr w9 := by obtain ⟨y, rfl⟩ := hw9; exact y.prop
        clear hw9
        have Hbz := Lib.hid hbz
        clear Kx hbz hcO HQ
        go_wp2_with fail
        exact ⟨⟨j + 1, _, _, _, _, _, _, _, _, _, _, by omega, by simp, by rw [Hnext.out]; exact (Hst.out.below Hbz.out).mono (by omega), by rw [Hnext.out]; exact hsl0, by rw [Hnext.out]; omega⟩, by simp only [intOf]; omega⟩
      · have Hnext := Lib.hid hnext
        have e1 : decide (0 ≤ X) = true := by simpa using h0
        have hwh := fun y : BW wr => Calls.same_below (whereG_at Hst.out X y.prop)
        have hJ' := hJ
        generalize idxV sj.G X 0 = J at hwh hJ'
        have HQ := Lib.hid hwh
        have e2 : decide (J < 0) = true := by simpa using hJ'
        have HTJ := Lib.hid hTJ
        have HJ := Lib.hid hJ
        clear hnext hwh hJ hTJ
        go_wp2_with fail
        refine wp_region_bw (by kernel_rfl) (by kernel_rfl) ?_
        repeat (with_reducible refine wpQuiet_step (fun K hK => ?_); go_simp; first | (with_reducible refine hK _ ?_; clear hK K) | (rw [if_neg (by first | decide | simp [undef] | nofun)]; with_reducible refine hK _ ?_; clear hK K) | (apply Exists.intro; refine ⟨fun _ => ?_, hK _ ?_⟩; (with_reducible exact Calls.bw_of (HQ.out _)); clear hK K))
        with_reducible refine wpQuiet_nil ?_
        intro w9 hw9
        have hbz : Below wr.heap.size wr w9 := by obtain ⟨y, rfl⟩ := hw9; exact y.prop
        clear hw9
        have Hst9 := Lib.hid (Hst.out.below hbz)
        clear Kx hbz hcO HQ Hst hlb hl2
        go_upto_region 7 with fail
        obtain ⟨S5, hS5⟩ : ∃ S5, S5 = takeF nx base (pinsOf o false) sj X := ⟨_, rfl⟩
        obtain ⟨R, hRe⟩ : ∃ R, R = pickF nx (pinsOf o false) sj := ⟨_, rfl⟩
        have hops := Hst9.out.ops HL.out Hxo.out
        have HT := Lib.hid (fun wX (hX : Below w9.heap.size w9 wX) => takeR_at Hst9.out Hp.out Hf.out hk Hoe.out.symm HN.out hn2 hB hb ⟨hsl0, hsl1⟩ (by omega) X false hX (hops.below hX) (S := S5) (by rw [hS5, Hnx.out]) (R := R) (by rw [hRe, Hnx.out]))
        have HS5 := Lib.hid hS5
        have HR5 := Lib.hid hRe
        have Hops := Lib.hid hops
        clear hS5 hRe hops
        go_cut [6, 7] from 23 to 64 (fun pv rv wx => ∃ (b6 : Nat) (h0 h1 h2 h3 h4 h5 h6 h7 : Int) (xs5 : Option Addr) (n5 cs5 : Nat) (xo5 : Option Addr) (m5 co5 : Nat), pv = .pointer (some ⟨b6, 0, none⟩) ∧ rv = .int .i64 R ∧ TkA w B (N + 2 * j + 1) (some ⟨b, oo, none⟩) n c base k (.slice xs0 T.length cs0) (.slice xo0 O.length co0) o o S5 b6 h0 h1 h2 h3 h4 h5 h6 h7 (.slice xs5 n5 cs5) (.slice xo5 m5 co5) #[.slice (some ⟨b, oo, none⟩) n c, .int .i64 base, .int .i64 (k : Int), .int .i64 a0, .int .i64 a1, .int .i64 a2, .int .i64 a3, .int .i64 a4, .int .i64 a5, .int .i64 a6, .int .i64 a7, .slice xs1 sj.T.length cs1, .slice xo1 sj.out.length co1, .int .i64 sj.slots, .int .i64 sj.e] wx)
        case first =>
          have hD : Below w9.heap.size w9 w9.drew := (Below.refl _ w9).drew
          have hDA : Below w9.heap.size w9 ((w9.alloc (.cells #[.slice none 0 0, .int .i64 0, .int .i64 0, .int .i64 0, .int .i64 0, .int .i64 0, .int .i64 0, .int .i64 0, .int .i64 0, .int .i64 0, .int .i64 0, .slice none 0 0, .slice none 0 0, .int .i64 0, .int .i64 0] 86)).drew) := ((Below.refl _ w9).alloc (Nat.le_refl _) _).drew
          have hZ : w9.heap.size < ((w9.alloc (.cells #[.slice none 0 0, .int .i64 0, .int .i64 0, .int .i64 0, .int .i64 0, .int .i64 0, .int .i64 0, .int .i64 0, .int .i64 0, .int .i64 0, .int .i64 0, .slice none 0 0, .slice none 0 0, .int .i64 0, .int .i64 0] 86)).drew).heap.size := by
            show w9.heap.size < (w9.alloc _).heap.size
            simp
          have hZk := heap_alloc_last w9 (.cells #[.slice none 0 0, .int .i64 0, .int .i64 0, .int .i64 0, .int .i64 0, .int .i64 0, .int .i64 0, .int .i64 0, .int .i64 0, .int .i64 0, .int .i64 0, .slice none 0 0, .slice none 0 0, .int .i64 0, .int .i64 0] 86)
          have HZ := Lib.hid hZ
          have HZk := Lib.hid hZk
          clear hZ hZk
          have hKp : ∀ w' : World, w9.grownBy w' (Value.slice xo1 sj.out.length co1).ownBlock → (w'.cell? ⟨w.heap.size, 0, none⟩ = some (.slice (some ⟨b, oo, none⟩) n c) ∧ w'.cell? ⟨w.heap.size, 1, none⟩ = some (.int .i64 base) ∧ w'.cell? ⟨w.heap.size, 2, none⟩ = some (.int .i64 (k : Int)) ∧ w'.cell? ⟨w.heap.size, 3, none⟩ = some (.int .i64 a0) ∧ w'.cell? ⟨w.heap.size, 4, none⟩ = some (.int .i64 a1) ∧ w'.cell? ⟨w.heap.size, 5, none⟩ = some (.int .i64 a2) ∧ w'.cell? ⟨w.heap.size, 6, none⟩ = some (.int .i64 a3) ∧ w'.cell? ⟨w.heap.size, 7, none⟩ = some (.int .i64 a4) ∧ w'.cell? ⟨w.heap.size, 8, none⟩ = some (.int .i64 a5) ∧ w'.cell? ⟨w.heap.size, 9, none⟩ = some (.int .i64 a6) ∧ w'.cell? ⟨w.heap.size, 10, none⟩ = some (.int .i64 a7) ∧ w'.cell? ⟨w.heap.size, 11, none⟩ = some (.slice xs1 sj.T.length cs1) ∧ w'.cell? ⟨w.heap.size, 12, none⟩ = some (.slice xo1 sj.out.length co1) ∧ w'.cell? ⟨w.heap.size, 13, none⟩ = some (.int .i64 sj.slots) ∧ w'.cell? ⟨w.heap.size, 14, none⟩ = some (.int .i64 sj.e)) ∧ w'.cell? ⟨b2, 3 + j, none⟩ = some (.int .i64 X) := fun w' hg => by
            obtain ⟨l2, k2⟩ := Hst9.out.kO' Hb2.out
            have q2 := Hst9.out.o2.blk hg (by have := Hb2.out; omega) (by have := Hb2.out; omega) k2
            have q5 := Hst9.out.o2.blk hg (Nat.le_refl _) (by omega) Hst9.out.k5
            refine ⟨blockA_cells q5, ?_⟩
            have := blkO_from q2 j hlt'
            rw [HXe.out] at this
            exact this
          have Kp := Lib.hid hKp
          have hA := blockA_cells Hst9.out.k5
          have hlb := lt_of_block Hst9.out.k5
          have hlo := (Hst9.out.kO' Hb2.out).1
          have hoX := (hKp _ (below_grown (Below.refl _ w9))).2
          clear hKp
          go_region_held3 (fun w' => (w'.cell? ⟨w.heap.size, 0, none⟩ = some (.slice (some ⟨b, oo, none⟩) n c) ∧ w'.cell? ⟨w.heap.size, 1, none⟩ = some (.int .i64 base) ∧ w'.cell? ⟨w.heap.size, 2, none⟩ = some (.int .i64 (k : Int)) ∧ w'.cell? ⟨w.heap.size, 3, none⟩ = some (.int .i64 a0) ∧ w'.cell? ⟨w.heap.size, 4, none⟩ = some (.int .i64 a1) ∧ w'.cell? ⟨w.heap.size, 5, none⟩ = some (.int .i64 a2) ∧ w'.cell? ⟨w.heap.size, 6, none⟩ = some (.int .i64 a3) ∧ w'.cell? ⟨w.heap.size, 7, none⟩ = some (.int .i64 a4) ∧ w'.cell? ⟨w.heap.size, 8, none⟩ = some (.int .i64 a5) ∧ w'.cell? ⟨w.heap.size, 9, none⟩ = some (.int .i64 a6) ∧ w'.cell? ⟨w.heap.size, 10, none⟩ = some (.int .i64 a7) ∧ w'.cell? ⟨w.heap.size, 11, none⟩ = some (.slice xs1 sj.T.length cs1) ∧ w'.cell? ⟨w.heap.size, 12, none⟩ = some (.slice xo1 sj.out.length co1) ∧ w'.cell? ⟨w.heap.size, 13, none⟩ = some (.int .i64 sj.slots) ∧ w'.cell? ⟨w.heap.size, 14, none⟩ = some (.int .i64 sj.e)) ∧ w'.cell? ⟨b2, 3 + j, none⟩ = some (.int .i64 X))
            (first
              | ((with_reducible refine Kp.out (World.setCell _ _ _) ?_); (first
                  | with_reducible exact grown_row hgW2.out (putA_all Hb6.out _ _ _ _ _ _ _ _ _ _ _ _ _ _ _ _ _).2 (some_le (Nat.le_refl _))
                  | with_reducible exact grown_row (grown_then hgW1.out ((Below.refl _ _).alloc (Nat.le_refl _) _)) (putA_all (heap_alloc_last _ _) _ _ _ _ _ _ _ _ _ _ _ _ _ _ _ _ _).2 (some_le hgW1.out.size)))
              | ((with_reducible refine Kp.out (World.alloc _ _) ?_); (with_reducible exact grown_then hgW1.out ((Below.refl _ _).alloc (Nat.le_refl _) _)))
              | ((with_reducible refine Kp.out (World.drew _) ?_); (first | with_reducible exact below_grown hD | with_reducible exact below_grown hDA))
              | with_reducible exact Kp.out _ hgW1.out
              | with_reducible exact Kp.out _ hgW2.out)
            (first
              | (go_at_call 63; (with_reducible refine (HT.out _ hD).mono ?_); rintro e w5 ⟨h0, h1, h2, h3, h4, h5, h6, h7, xs5, n5, cs5, xo5, m5, co5, rfl, hG5, hr5, hg5, e15, e25⟩; have hgW1 := Lib.hid (grown_row (below_grown hD) hg5 (fun j e => .inl e.symm)); have Hpk := Lib.hid (And.intro hG5 (And.intro hr5 (And.intro hg5 (And.intro e15 e25)))); clear hG5 hr5 hg5 e15 e25)
              | (go_at_call 63; (with_reducible refine (HT.out _ hDA).mono ?_); rintro e w5 ⟨h0, h1, h2, h3, h4, h5, h6, h7, xs5, n5, cs5, xo5, m5, co5, rfl, hG5, hr5, hg5, e15, e25⟩; have hgW2 := Lib.hid (grown_row (below_grown hDA) hg5 (fun j e => .inl e.symm)); have hb6 := (hg5.block w9.heap.size HZ.out (fun e => by have := (Hst9.out.rows.ro.lt _ e.symm).2; omega)).trans HZk.out; obtain ⟨q0, q1, q2, q3, q4, q5, q6, q7, q8, q9, q10, q11, q12, q13, q14⟩ := blockA_cells hb6; have qf := frozen_box hb6; have Hb6 := Lib.hid hb6; clear hb6; have Hpk := Lib.hid (And.intro hG5 (And.intro hr5 (And.intro hg5 (And.intro e15 e25)))); clear hG5 hr5 hg5 e15 e25))
          · obtain ⟨hG5, hr5, hg5, e15, e25⟩ := Hpk.out
            have hsz5 : w9.heap.size ≤ w5.heap.size := hgW1.out.size
            have Htk := Lib.hid (Hst9.out.taken hG5 (hr5.below ((Below.refl _ w5).alloc (Nat.le_refl _) (.cells #[.slice (some ⟨b, oo, none⟩) n c, .int .i64 base, .int .i64 (k : Int), .int .i64 h0, .int .i64 h1, .int .i64 h2, .int .i64 h3, .int .i64 h4, .int .i64 h5, .int .i64 h6, .int .i64 h7, .slice xs5 n5 cs5, .slice xo5 m5 co5, .int .i64 S5.slots, .int .i64 S5.e] 86))) (grown_then hgW1.out ((Below.refl _ w5).alloc (Nat.le_refl _) _)) (show AtR w9 _ _ from e15) (show AtR w9 _ _ from e25) (heap_alloc_last w5 (.cells #[.slice (some ⟨b, oo, none⟩) n c, .int .i64 base, .int .i64 (k : Int), .int .i64 h0, .int .i64 h1, .int .i64 h2, .int .i64 h3, .int .i64 h4, .int .i64 h5, .int .i64 h6, .int .i64 h7, .slice xs5 n5 cs5, .slice xo5 m5 co5, .int .i64 S5.slots, .int .i64 S5.e] 86)))
            clear hgW1 hr5 hg5 e15 e25 hG5 Hpk
            go_wp2_with fail
            go_meet
            refine ⟨w5.heap.size, h0, h1, h2, h3, h4, h5, h6, h7, xs5, n5, cs5, xo5, m5, co5, by with_reducible rfl, by with_reducible rfl, ?_⟩
            with_reducible exact Htk.out
          · obtain ⟨hG5, hr5, hg5, e15, e25⟩ := Hpk.out
            have Htk := Lib.hid (Hst9.out.boxed hDA hG5 hr5 hg5 e15 e25 (Below.refl _ w5) Hb6.out (Nat.le_refl _) (fun v hv => by
              have q1 := HZ.out
              rcases hv with rfl | rfl
              · refine off_of fun j e => ?_
                rcases e15 with e2 | e2 | ⟨g, e2, hg⟩
                · have := (Hst9.out.rows.rt.lt j (e2 ▸ e)).2; omega
                · rw [e2] at e; cases e
                · rw [e2] at e; injection e with e; omega
              · refine off_of fun j e => ?_
                rcases e25 with e2 | e2 | ⟨g, e2, hg⟩
                · have := (Hst9.out.rows.ro.lt j (e2 ▸ e)).2; omega
                · rw [e2] at e; cases e
                · rw [e2] at e; injection e with e; omega))
            clear hgW2 hr5 hg5 e15 e25 hG5 Hpk Hb6 q0 q1 q2 q3 q4 q5 q6 q7 q8 q9 q10 q11 q12 q13 q14 qf
            go_wp2_with fail
            go_meet
            refine ⟨w9.heap.size, h0, h1, h2, h3, h4, h5, h6, h7, xs5, n5, cs5, xo5, m5, co5, by with_reducible rfl, by with_reducible rfl, ?_⟩
            with_reducible exact Htk.out
        case rest =>
          · skip -- S1r
            obtain ⟨b6, h0, h1, h2, h3, h4, h5, h6, h7, xs5, n5, cs5, xo5, m5, co5, rfl, rfl, htk⟩ := hcut
            have hsls := takeF_slots (nx := nx) (base := base) (pins := pinsOf o false) (s := sj) (v := X)
            have hsle := takeF_slots_le nx base (pinsOf o false) sj X
            have hsT := Hst9.out.rows.tn
            have hnext := Hnext.out
            have hTJ := HTJ.out
            rw [← HS5.out, ← HR5.out] at hnext
            rw [← HS5.out] at hTJ hsls hsle
            have hJb := idxV_bd S5.T X 0
            have hTN := htk.rows.tn
            have hON := htk.rows.on
            have htd := (htk.below ((Below.refl _ wc).drew)).mono (show N + 2 * j + 1 ≤ N + 2 * (j + 1) by omega)
            go_upto_region 8 with fail
            refine wp_region_still_tail 13 (by kernel_rfl) (by kernel_rfl) ?_
            change wpStill _ _ (World.drew wc) (fun a' => wpList _ _ _ _ a' (World.drew wc)) _ _
            generalize World.drew wc = wd at htd ⊢
            simp only [List.take_succ_cons, List.take_zero, List.drop_succ_cons, List.drop_zero]
            have hwt := whereR_any xs5 n5 cs5 S5.T X wd (htd.rows.lsl) htd.rows.len.symm (by have := htd.rows.len; omega)
            obtain ⟨JT, hJT⟩ : ∃ JT, JT = idxV S5.T X 0 := ⟨_, rfl⟩
            rw [← hJT] at hwt hTJ hJb hnext
            have w4 : IntKind.i64.wrap (4 * JT) = 4 * JT := IntWalk.i64_in _ (by omega)
            have w5' : IntKind.i64.wrap (base + 4 * JT) = base + 4 * JT := IntWalk.i64_in _ (by omega)
            obtain ⟨z0, z1, z2, z3, z4, z5, z6, z7, z8, z9, z10, z11, z12, z13, z14⟩ := blockA_cells htd.kb
            have k2 := htd.kO
            rw [show w.heap.size + 2 = b2 from Hb2.out.symm] at k2
            have hlo := lt_of_block k2
            have hl6 := lt_of_block htd.kb
            have hl1 := lt_of_block htd.k5
            have hcX := blkO_from k2 j hlt'
            rw [HXe.out] at hcX
            have HWT := Lib.hid hwt
            have Htd := Lib.hid htd
            have Hnx5 := Lib.hid hnext
            clear hJT hwt htd hnext htk k2
            repeat (first | still_step | still_call (HWT.out))
            refine wpStill_nil ?_
            go_wp2_with fail
            refine (putR_any (some ⟨b, oo, none⟩) n c base k h0 h1 h2 h3 h4 h5 h6 h7 S5.slots S5.e (.slice xs5 n5 cs5) (.slice xo5 m5 co5) 2 (base + 4 * JT) R (-1) S5.out B _ Htd.out.rows.ro (by have := Htd.out.gr.size; omega) (by omega) (by omega) ⟨_, _, _, rfl⟩).mono ?_
            rintro e w5 ⟨vo2, rfl, hro5, hg5, hat5⟩
            obtain ⟨xo2, co2, rfl, hco2⟩ := own_slice hro5
            obtain ⟨k5, hsp5⟩ := Htd.out.put hro5 hg5 hat5 (by rw [List.length_append]; simp only [List.length_singleton]; omega)
            have HSp5 := Lib.hid hsp5
            have hl5 := lt_of_block k5
            generalize hlen : (S5.out ++ [(⟨2, R, -1, -1, -1, -1, -1, base + 4 * JT⟩ : Op8)]).length = lo at HSp5 ⊢
            clear hlen hro5 hg5 hat5 hsp5 z0 z1 z2 z3 z4 z5 z6 z7 z8 z9 z10 z11 z12 z13 z14 hcX
            go_wp2_with (refine wpList_store_row rfl 86 (.tmp 1) (.tmp 64) (by rfl) w.heap.size #[.slice (some ⟨b, oo, none⟩) n c, .int .i64 base, .int .i64 (k : Int), .int .i64 h0, .int .i64 h1, .int .i64 h2, .int .i64 h3, .int .i64 h4, .int .i64 h5, .int .i64 h6, .int .i64 h7, .slice xs5 n5 cs5, .slice xo2 lo co2, .int .i64 S5.slots, .int .i64 S5.e] (by rfl) (by rfl) 86 _ k5 sizeA rfl (by simp [Value.oneCell']) ?_)
            exact ⟨⟨j + 1, _, _, _, _, _, _, _, _, _, _, by omega, by simp, by rw [Hnx5.out]; exact HSp5.out, by rw [Hnx5.out]; show 0 ≤ S5.slots; omega, by rw [Hnx5.out]; show S5.slots ≤ _; omega⟩, by simp only [intOf]; omega⟩
    · have hj4 : j = 4 := by omega
      subst hj4
      go_wp2_with fail
      exact HX.out _ _ _ _ _ _ _ _ _ _ _ _ _ _ _ _ _ _ _ _ _ _ _ _ _ _ _ _ _ _ _ _ _ _ _ _ _ _ _ _ _ _ _ _ _ _ _ _ _ _ _ _ _ _ _ _ _ _ _ _ _ _ _ _ _ _ _ _ _ _ _ _ _ _ _ _ _ _ _ _ _ _ _ _ _ _ _ _ _ _ _ _ _ _ _ _ _ _ _ _ _ _ _ _ _ _ _ _ _ _ _ _ _ _ _ _ _ _ _ _ _ _ _ _ _ _ _ _ _ _ _ _ _ _ _ _ _ _ _ _ _ _ _ _ _ _ _ _ _ _ _ _ _ _ _ _ _ _ _ _ _ _ _ _ _ _ _ _ _ _ _ _ _ _ _ _ _ _ _ _ _ hst hsl0 hsl1

end Go.Proofs.YtmkencdkglbpbaaDoor
