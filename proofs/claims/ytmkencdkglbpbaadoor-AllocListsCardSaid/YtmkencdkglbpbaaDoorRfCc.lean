/- The document's step, its fifth loop. -/
import Derived.Test.YtmkencdkglbpbaaDoorRfCb
import Derived.Deep.RegionHeld3
import Derived.StillTailTactics
set_option maxRecDepth 100000
set_option linter.unusedVariables false
namespace Go.Proofs.YtmkencdkglbpbaaDoor
open Go.RowKit Go.Maps

set_option maxHeartbeats 8000000 in
theorem loop5_any (b oo n c : Nat) (L : List Op8) (base : Int) (xs0 : Option Addr) (cs0 : Nat) (xo0 : Option Addr) (co0 : Nat) (T : List Int) (O : List Op8) (B N k : Nat) (S0 : List Int) (w : World) (s0 : AS) (o : Op8) (nx : Int → Int) (b2 b3 : Nat) (HL : Hid (OpsSl w (some ⟨b, oo, none⟩) L)) (HN : Hid (L.length = n)) (hn2 : n ≤ 1000) (hk : k < L.length) (hB : B ≤ w.heap.size) (HI : Hid (RunI L (L.take k) base S0 s0)) (HO : Hid (OpIn S0 o)) (hb : 0 ≤ base ∧ base ≤ 1020) (hN : N + 20 ≤ 10000) (Hxo : Hid (∀ b1 o1, (some ⟨b, oo, none⟩ : Option Addr) = some ⟨b1, o1, none⟩ → some b1 ≠ (Value.slice xo0 O.length co0).ownBlock)) (Hp0 : Hid (s0.pos = k)) (Hoe : Hid (o = L[k])) (Hnx : Hid (nx = fun y => nextF n k (lastF L 0 y))) (Hb2 : Hid (b2 = w.heap.size + 2)) (Hb3 : Hid (b3 = w.heap.size + 3)) (s2 : AS) (q6 : Op8) (O6 : List Op8) (f nx1 : Int → Int) (u0 u1 u2 u3 u4 u5 u6 u7 : Int) (xs2 sx : Option Addr) (cs2 sc Bz : Nat) (w8 : World) (Hst8 : Hid (StA w B (N + 12) (some ⟨b, oo, none⟩) n c base ((k : Int) + 1) (.slice xs0 T.length cs0) (.slice xo0 O.length co0) o q6 { s2 with out := O6, G := s2.G.map f } u0 u1 u2 u3 u4 u5 u6 u7 (.slice xs2 s2.T.length cs2) (.slice sx O6.length sc) w8)) (Hf2 : Hid (Fine s2)) (Hfe : Hid (f = frV nx1 n)) (Hnx1 : Hid (nx1 = fun y => nextF n ((k : Int) + 1) (lastF L 0 y))) (hk1 : k + 1 ≤ n) (hBz4 : w.heap.size + 4 ≤ Bz) (hBzB : B ≤ Bz) (Hzs : Hid (∀ j, (Value.slice xs2 s2.T.length cs2).ownBlock = some j → j < Bz)) (Hzo : Hid (∀ j, (Value.slice sx O6.length sc).ownBlock = some j → j < Bz)) (hTN : s2.T.length ≤ N + 12) (hBzl : Bz ≤ w8.heap.size) (Qx : Exit → Act → World → Prop) (fr0 fr5 fr6 fr7 fr8 fr9 fr10 fr11 fr12 fr15 fr16 fr17 fr18 fr19 fr20 fr21 fr22 fr23 fr24 fr25 fr26 fr27 fr28 fr29 fr30 fr31 fr32 fr33 fr34 fr35 fr36 fr37 fr38 fr39 fr40 fr41 fr42 fr43 fr44 fr45 fr46 fr47 fr48 fr49 fr50 fr51 fr52 fr53 fr54 fr55 fr56 fr57 fr58 fr59 fr60 fr61 fr62 fr63 fr64 fr65 fr66 fr67 fr68 fr69 fr70 fr71 fr72 fr73 fr74 fr75 fr76 fr77 fr78 fr79 fr80 fr81 fr82 fr83 fr84 fr85 fr86 fr87 fr88 fr89 fr90 fr91 fr92 fr93 fr94 fr95 fr96 fr97 fr98 fr99 fr100 fr101 fr102 fr103 fr104 fr105 fr106 fr107 fr108 fr109 fr110 fr111 fr112 fr113 fr114 fr115 fr116 fr117 fr118 fr119 fr120 fr121 fr122 fr123 fr124 fr125 fr126 fr127 fr128 fr129 fr130 fr131 fr132 fr133 fr134 fr135 fr136 fr137 fr138 fr139 fr140 fr141 fr142 fr143 fr144 fr145 fr146 fr147 fr148 fr149 fr150 fr151 fr152 fr153 fr154 fr155 fr156 fr157 fr158 fr159 fr160 fr161 fr162 fr163 fr164 fr165 fr166 fr167 fr168 fr169 fr170 fr171 fr172 fr173 fr174 : Value)
    (hexit : ∀ (fx0 fx5 fx6 fx7 fx8 fx9 fx10 fx11 fx12 fx15 fx16 fx17 fx18 fx19 fx20 fx21 fx22 fx23 fx24 fx25 fx26 fx27 fx28 fx29 fx30 fx31 fx32 fx33 fx34 fx35 fx36 fx37 fx38 fx39 fx40 fx41 fx42 fx43 fx44 fx45 fx46 fx47 fx48 fx49 fx50 fx51 fx52 fx53 fx54 fx55 fx56 fx57 fx58 fx59 fx60 fx61 fx62 fx63 fx64 fx65 fx66 fx67 fx68 fx69 fx70 fx71 fx72 fx73 fx74 fx75 fx76 fx77 fx78 fx79 fx80 fx81 fx82 fx83 fx84 fx85 fx86 fx87 fx88 fx89 fx90 fx91 fx92 fx93 fx94 fx95 fx96 fx97 fx98 fx99 fx100 fx101 fx102 fx103 fx104 fx105 fx106 fx107 fx108 fx109 fx110 fx111 fx112 fx113 fx114 fx115 fx116 fx117 fx118 fx119 fx120 fx121 fx122 fx123 fx124 fx125 fx126 fx127 fx128 fx129 fx130 fx131 fx132 fx133 fx134 fx135 fx136 fx137 fx138 fx139 fx140 fx141 fx142 fx143 fx144 fx145 fx146 fx147 fx148 fx149 fx150 fx151 fx152 fx153 fx154 fx155 fx156 fx157 fx158 fx159 fx160 fx161 fx162 fx163 fx164 fx165 fx166 fx167 fx168 fx169 fx170 fx171 fx172 fx173 fx174 : Value) (wr : World) (xl : Option Addr) (cl : Nat), StA w B (N + 12) (some ⟨b, oo, none⟩) n c base ((k : Int) + 1) (.slice xs0 T.length cs0) (.slice xo0 O.length co0) o q6 { s2 with out := O6, G := s2.G.map f } u0 u1 u2 u3 u4 u5 u6 u7 (.slice xs2 s2.T.length cs2) (.slice sx O6.length sc) wr → wr.ownsRow Bz 3 1 (.slice xl s2.T.length cl) s2.T.length (iCells (s2.T.map f)) → Bz ≤ wr.heap.size → Qx (.exit 8) ⟨List.toArray (fx0 :: .pointer (some ⟨w.heap.size, 0, none⟩) :: .pointer (some ⟨w.heap.size + 1, 0, none⟩) :: .pointer (some ⟨b2, 0, none⟩) :: .pointer (some ⟨b3, 0, none⟩) :: fx5 :: fx6 :: fx7 :: fx8 :: fx9 :: fx10 :: fx11 :: fx12 :: .slice xl s2.T.length cl :: .int .i64 (s2.T.length : Int) :: fx15 :: fx16 :: fx17 :: fx18 :: fx19 :: fx20 :: fx21 :: fx22 :: fx23 :: fx24 :: fx25 :: fx26 :: fx27 :: fx28 :: fx29 :: fx30 :: fx31 :: fx32 :: fx33 :: fx34 :: fx35 :: fx36 :: fx37 :: fx38 :: fx39 :: fx40 :: fx41 :: fx42 :: fx43 :: fx44 :: fx45 :: fx46 :: fx47 :: fx48 :: fx49 :: fx50 :: fx51 :: fx52 :: fx53 :: fx54 :: fx55 :: fx56 :: fx57 :: fx58 :: fx59 :: fx60 :: fx61 :: fx62 :: fx63 :: fx64 :: fx65 :: fx66 :: fx67 :: fx68 :: fx69 :: fx70 :: fx71 :: fx72 :: fx73 :: fx74 :: fx75 :: fx76 :: fx77 :: fx78 :: fx79 :: fx80 :: fx81 :: fx82 :: fx83 :: fx84 :: fx85 :: fx86 :: fx87 :: fx88 :: fx89 :: fx90 :: fx91 :: fx92 :: fx93 :: fx94 :: fx95 :: fx96 :: fx97 :: fx98 :: fx99 :: fx100 :: fx101 :: fx102 :: fx103 :: fx104 :: fx105 :: fx106 :: fx107 :: fx108 :: fx109 :: fx110 :: fx111 :: fx112 :: fx113 :: fx114 :: fx115 :: fx116 :: fx117 :: fx118 :: fx119 :: fx120 :: fx121 :: fx122 :: fx123 :: fx124 :: fx125 :: fx126 :: fx127 :: fx128 :: fx129 :: fx130 :: fx131 :: fx132 :: fx133 :: fx134 :: fx135 :: fx136 :: fx137 :: fx138 :: fx139 :: fx140 :: fx141 :: fx142 :: fx143 :: fx144 :: fx145 :: fx146 :: fx147 :: fx148 :: fx149 :: fx150 :: fx151 :: fx152 :: fx153 :: fx154 :: fx155 :: fx156 :: fx157 :: fx158 :: fx159 :: fx160 :: fx161 :: fx162 :: fx163 :: fx164 :: fx165 :: fx166 :: fx167 :: fx168 :: fx169 :: fx170 :: fx171 :: fx172 :: fx173 :: fx174 :: []), []⟩ wr) :
    Code.wp Tryd.prog (Code.loop (loopBody 4)) Qx ⟨List.toArray (fr0 :: .pointer (some ⟨w.heap.size, 0, none⟩) :: .pointer (some ⟨w.heap.size + 1, 0, none⟩) :: .pointer (some ⟨b2, 0, none⟩) :: .pointer (some ⟨b3, 0, none⟩) :: fr5 :: fr6 :: fr7 :: fr8 :: fr9 :: fr10 :: fr11 :: fr12 :: .slice none 0 0 :: .int .i64 0 :: fr15 :: fr16 :: fr17 :: fr18 :: fr19 :: fr20 :: fr21 :: fr22 :: fr23 :: fr24 :: fr25 :: fr26 :: fr27 :: fr28 :: fr29 :: fr30 :: fr31 :: fr32 :: fr33 :: fr34 :: fr35 :: fr36 :: fr37 :: fr38 :: fr39 :: fr40 :: fr41 :: fr42 :: fr43 :: fr44 :: fr45 :: fr46 :: fr47 :: fr48 :: fr49 :: fr50 :: fr51 :: fr52 :: fr53 :: fr54 :: fr55 :: fr56 :: fr57 :: fr58 :: fr59 :: fr60 :: fr61 :: fr62 :: fr63 :: fr64 :: fr65 :: fr66 :: fr67 :: fr68 :: fr69 :: fr70 :: fr71 :: fr72 :: fr73 :: fr74 :: fr75 :: fr76 :: fr77 :: fr78 :: fr79 :: fr80 :: fr81 :: fr82 :: fr83 :: fr84 :: fr85 :: fr86 :: fr87 :: fr88 :: fr89 :: fr90 :: fr91 :: fr92 :: fr93 :: fr94 :: fr95 :: fr96 :: fr97 :: fr98 :: fr99 :: fr100 :: fr101 :: fr102 :: fr103 :: fr104 :: fr105 :: fr106 :: fr107 :: fr108 :: fr109 :: fr110 :: fr111 :: fr112 :: fr113 :: fr114 :: fr115 :: fr116 :: fr117 :: fr118 :: fr119 :: fr120 :: fr121 :: fr122 :: fr123 :: fr124 :: fr125 :: fr126 :: fr127 :: fr128 :: fr129 :: fr130 :: fr131 :: fr132 :: fr133 :: fr134 :: fr135 :: fr136 :: fr137 :: fr138 :: fr139 :: fr140 :: fr141 :: fr142 :: fr143 :: fr144 :: fr145 :: fr146 :: fr147 :: fr148 :: fr149 :: fr150 :: fr151 :: fr152 :: fr153 :: fr154 :: fr155 :: fr156 :: fr157 :: fr158 :: fr159 :: fr160 :: fr161 :: fr162 :: fr163 :: fr164 :: fr165 :: fr166 :: fr167 :: fr168 :: fr169 :: fr170 :: fr171 :: fr172 :: fr173 :: fr174 :: []), []⟩ w8 := by
  conv => arg 2; arg 1; whnf
  have HX := Lib.hid hexit
  clear hexit
  obtain ⟨i0, hi, hz0, hz1, hz2⟩ := info_parts Tryd.infoInt
  go_loopw [13, 14] (fun lv iv wz => ∃ (i : Nat) (xl : Option Addr) (cl : Nat), i ≤ s2.T.length ∧ iv = .int .i64 i ∧ lv = .slice xl i cl ∧ StA w B (N + 12) (some ⟨b, oo, none⟩) n c base ((k : Int) + 1) (.slice xs0 T.length cs0) (.slice xo0 O.length co0) o q6 { s2 with out := O6, G := s2.G.map f } u0 u1 u2 u3 u4 u5 u6 u7 (.slice xs2 s2.T.length cs2) (.slice sx O6.length sc) wz ∧ wz.ownsRow Bz 3 1 (.slice xl i cl) i (iCells ((s2.T.take i).map f)) ∧ Bz ≤ wz.heap.size) (fun _ iv _ => s2.T.length - (intOf iv).toNat)
  case atStart => exact ⟨0, none, 0, Nat.zero_le _, rfl, rfl, Hst8.out, World.ownsRow_nil _ _ _ _, hBzl⟩
  case round =>
    obtain ⟨i, xl, cl, hiT, rfl, rfl, hst, hown, hBl⟩ := hrel
    have hlb := lt_of_block hst.k5
    obtain ⟨z0, z1, z2, z3, z4, z5, z6, z7, z8, z9, z10, z11, z12, z13, z14⟩ := blockA_cells hst.k5
    have Hst9 := Lib.hid hst
    have Hown := Lib.hid hown
    by_cases hlt5 : i < s2.T.length
    · skip -- S5
      have hlI : (i : Int) < (s2.T.length : Int) := by omega
      obtain ⟨xs', cs', he, _, hl, hg⟩ := own_LSl hst.rows.rt rfl
      injection he with he1 he2 he3
      subst he1
      subst he3
      rcases hl with h0 | ⟨g, rfl, hI⟩
      · have h0 : s2.T = [] := h0
        rw [h0] at hlt5; simp at hlt5
      have hgl := hI.1
      have cT := hI.2 i hlt5
      rw [Nat.zero_add] at cT
      have hvb := Hf2.out.tb _ (List.getElem_mem hlt5)
      have hst' : s2.T.take (i + 1) = s2.T.take i ++ [s2.T[i]] := List.take_succ_eq_append_getElem hlt5
      replace cT : wr.cell? ⟨g, i, none⟩ = some (.int .i64 (s2.T[i]'hlt5)) := cT
      generalize s2.T[i]'hlt5 = v at cT hvb hst'
      have hfv : f v = if v ≠ -1 ∧ nx1 v = n then -1 else v := by rw [Hfe.out]; rfl
      have wi : IntKind.i64.wrap ((i : Int) + 1) = (i : Int) + 1 := IntWalk.i64_in _ (by omega)
      have hops := hst.ops HL.out Hxo.out
      have Kp := Lib.hid (fun (y : BW wr) => blockA_cells ((y.prop.block _ hlb).trans hst.k5))
      have Htk := Lib.hid hst'
      clear hst hown hI hg hst'
      go_upto_region 33 with fail
      clear cT hgl z0 z1 z2 z3 z4 z5 z6 z7 z8 z9 z10 z11 z12 z13 z14
      by_cases hv : v = -1
      · have hfm : f v = v := by rw [hfv, hv]; simp
        have Hfm := Lib.hid hfm
        clear hfv hfm hops
        subst hv
        refine wp_region_bw (by kernel_rfl) (by kernel_rfl) ?_
        repeat (with_reducible refine wpQuiet_step (fun K hK => ?_); go_simp; first | (with_reducible refine hK _ ?_; clear hK K) | (rw [if_neg (by first | decide | simp [undef] | nofun)]; with_reducible refine hK _ ?_; clear hK K))
        with_reducible refine wpQuiet_nil ?_
        intro w9 hw9
        have hbz : Below wr.heap.size wr w9 := by obtain ⟨y, rfl⟩ := hw9; exact y.prop
        clear hw9
        have Hbz := Lib.hid hbz
        clear hbz
        have hbc := Hbz.out
        have hownc := ownsRow_below Hown.out hbc
        have hstc := Hst9.out.below hbc
        have hszc := hbc.size
        have Hownc := Lib.hid hownc
        have Hstc := Lib.hid hstc
        clear hownc hstc hbc
        go_wp2_with (at_builtin; refine wpList_append_own_at _ rfl (.tmp 168) (.tmp 170) 41 rfl Bz 3 i0 (.int .i64 0) 1 8 Tryd.underlying41 hi hz0 hz1 hz2 rfl (by decide) _ _ _ rfl (Hownc.out.alloc _) ⟨w9.heap.size, 0, none⟩ 1 1 [.int .i64 (-1)] rfl rfl (i_new _ _ (-1) rfl) (i_one _) (by unfold maxLen; omega) (by omega) (by simp; omega) ?_)
        intro v' w5 hown9 hgrow9 _ hat9
        obtain ⟨sl, cl9, rfl, hsc9⟩ := own_slice hown9
        have gg : w9.grownBy w5 (Value.slice xl i cl).ownBlock := grown_trans (World.grownBy_alloc w9 _ _) hgrow9
        have hfar : ∀ j, (Value.slice xl i cl).ownBlock = some j → Bz ≤ j := fun j e => (Hownc.out.lt j e).1
        have hst10 := Hstc.out.grow gg (by
          cases h1 : (Value.slice (some ⟨g, 0, none⟩) s2.T.length cs2).ownBlock with
          | none => exact .inl rfl
          | some j => exact .inr (fun e => by have := hfar j e.symm; have := Hzs.out j h1; omega)) (by
          cases h1 : (Value.slice sx O6.length sc).ownBlock with
          | none => exact .inl rfl
          | some j => exact .inr (fun e => by have := hfar j e.symm; have := Hzo.out j h1; omega)) (fun j e => by have := hfar j e; omega)
        have hsz9 := gg.size
        have hBl9 : Bz ≤ w5.heap.size := by omega
        have Hst10 := Lib.hid hst10
        have Hown9 := Lib.hid hown9
        clear hown9 hgrow9 hat9 gg hfar hst10
        go_wp2_with fail
        first | exact ⟨⟨i + 1, sl, cl9, by omega, by simp, rfl, Hst10.out, by rw [Htk.out, List.map_append, List.map_singleton, Hfm.out, iCells, List.map_append]; first | exact Hown9.out | (rw [List.map_take]; exact Hown9.out), hBl9⟩, by simp only [intOf]; omega⟩ | exact ⟨by (repeat apply Exists.intro); exact ⟨⟨i + 1, sl, cl9, by omega, by simp, rfl, Hst10.out, by rw [Htk.out, List.map_append, List.map_singleton, Hfm.out, iCells, List.map_append]; first | exact Hown9.out | (rw [List.map_take]; exact Hown9.out), hBl9⟩, rfl⟩, by simp [intOf]; omega⟩
      · have hv0 : 0 ≤ v := by omega
        have e1 : decide (0 ≤ v) = true := by simpa using hv0
        have hq := fun (y : BW wr) => nextR_any (some ⟨b, oo, none⟩) n c L base ((k : Int) + 1) u0 u1 u2 u3 u4 u5 u6 u7 s2.slots s2.e (some ⟨g, 0, none⟩) sx s2.T.length cs2 O6.length sc v (k + 1) y.val (hops.below y.prop) HN.out hn2 hv hk1
        have e3 : nextF n ((k + 1 : Nat) : Int) (lastF L 0 v) = nx1 v := by rw [Hnx1.out]; push_cast; rfl
        simp only [e3] at hq
        rw [show (((k + 1 : Nat) : Int)) = (k : Int) + 1 from by push_cast; rfl] at hq
        have Kx := fun y : BW wr => Kp.out y
        generalize nx1 v = NV at hq hfv
        have HQ := Lib.hid hq
        clear hq e3 hops
        by_cases hNV : NV = n
        · have hfm : f v = -1 := by rw [hfv, if_pos ⟨hv, hNV⟩]
          have Hfm := Lib.hid hfm
          have e2 : (NV == (n : Int)) = true := by simpa using hNV
          clear hfv hfm hNV hv
          refine wp_region_bw (by kernel_rfl) (by kernel_rfl) ?_
          repeat (with_reducible refine wpQuiet_step (fun K hK => ?_); go_simp; first | (with_reducible refine hK _ ?_; clear hK K) | (rw [if_neg (by first | decide | simp [undef] | nofun)]; with_reducible refine hK _ ?_; clear hK K) | (apply Exists.intro; refine ⟨fun _ => ?_, hK _ ?_⟩; (with_reducible exact Calls.bw_of (HQ.out _)); clear hK K))
          with_reducible refine wpQuiet_nil ?_
          intro w9 hw9
          have hbz : Below wr.heap.size wr w9 := by obtain ⟨y, rfl⟩ := hw9; exact y.prop
          clear hw9
          have Hbz := Lib.hid hbz
          clear Kx hbz HQ
          have hbc := Hbz.out
          have hownc := ownsRow_below Hown.out hbc
          have hstc := Hst9.out.below hbc
          have hszc := hbc.size
          have Hownc := Lib.hid hownc
          have Hstc := Lib.hid hstc
          clear hownc hstc hbc
          go_wp2_with (at_builtin; refine wpList_append_own_at _ rfl (.tmp 168) (.tmp 170) 41 rfl Bz 3 i0 (.int .i64 0) 1 8 Tryd.underlying41 hi hz0 hz1 hz2 rfl (by decide) _ _ _ rfl (Hownc.out.alloc _) ⟨w9.heap.size, 0, none⟩ 1 1 [.int .i64 (-1)] rfl rfl (i_new _ _ (-1) rfl) (i_one _) (by unfold maxLen; omega) (by omega) (by simp; omega) ?_)
          intro v' w5 hown9 hgrow9 _ hat9
          obtain ⟨sl, cl9, rfl, hsc9⟩ := own_slice hown9
          have gg : w9.grownBy w5 (Value.slice xl i cl).ownBlock := grown_trans (World.grownBy_alloc w9 _ _) hgrow9
          have hfar : ∀ j, (Value.slice xl i cl).ownBlock = some j → Bz ≤ j := fun j e => (Hownc.out.lt j e).1
          have hst10 := Hstc.out.grow gg (by
            cases h1 : (Value.slice (some ⟨g, 0, none⟩) s2.T.length cs2).ownBlock with
            | none => exact .inl rfl
            | some j => exact .inr (fun e => by have := hfar j e.symm; have := Hzs.out j h1; omega)) (by
            cases h1 : (Value.slice sx O6.length sc).ownBlock with
            | none => exact .inl rfl
            | some j => exact .inr (fun e => by have := hfar j e.symm; have := Hzo.out j h1; omega)) (fun j e => by have := hfar j e; omega)
          have hsz9 := gg.size
          have hBl9 : Bz ≤ w5.heap.size := by omega
          have Hst10 := Lib.hid hst10
          have Hown9 := Lib.hid hown9
          clear hown9 hgrow9 hat9 gg hfar hst10
          go_wp2_with fail
          first | exact ⟨⟨i + 1, sl, cl9, by omega, by simp, rfl, Hst10.out, by rw [Htk.out, List.map_append, List.map_singleton, Hfm.out, iCells, List.map_append]; first | exact Hown9.out | (rw [List.map_take]; exact Hown9.out), hBl9⟩, by simp only [intOf]; omega⟩ | exact ⟨by (repeat apply Exists.intro); exact ⟨⟨i + 1, sl, cl9, by omega, by simp, rfl, Hst10.out, by rw [Htk.out, List.map_append, List.map_singleton, Hfm.out, iCells, List.map_append]; first | exact Hown9.out | (rw [List.map_take]; exact Hown9.out), hBl9⟩, rfl⟩, by simp [intOf]; omega⟩
        · have hfm : f v = v := by rw [hfv, if_neg (fun h => hNV h.2)]
          have Hfm := Lib.hid hfm
          have e2 : (NV == (n : Int)) = false := by simpa using hNV
          clear hfv hfm hNV hv
          refine wp_region_bw (by kernel_rfl) (by kernel_rfl) ?_
          repeat (with_reducible refine wpQuiet_step (fun K hK => ?_); go_simp; first | (with_reducible refine hK _ ?_; clear hK K) | (rw [if_neg (by first | decide | simp [undef] | nofun)]; with_reducible refine hK _ ?_; clear hK K) | (apply Exists.intro; refine ⟨fun _ => ?_, hK _ ?_⟩; (with_reducible exact Calls.bw_of (HQ.out _)); clear hK K))
          with_reducible refine wpQuiet_nil ?_
          intro w9 hw9
          have hbz : Below wr.heap.size wr w9 := by obtain ⟨y, rfl⟩ := hw9; exact y.prop
          clear hw9
          have Hbz := Lib.hid hbz
          clear Kx hbz HQ
          have hbc := Hbz.out
          have hownc := ownsRow_below Hown.out hbc
          have hstc := Hst9.out.below hbc
          have hszc := hbc.size
          have Hownc := Lib.hid hownc
          have Hstc := Lib.hid hstc
          clear hownc hstc hbc
          go_wp2_with (at_builtin; refine wpList_append_own_at _ rfl (.tmp 168) (.tmp 170) 41 rfl Bz 3 i0 (.int .i64 0) 1 8 Tryd.underlying41 hi hz0 hz1 hz2 rfl (by decide) _ _ _ rfl (Hownc.out.alloc _) ⟨w9.heap.size, 0, none⟩ 1 1 [.int .i64 v] rfl rfl (i_new _ _ v rfl) (i_one _) (by unfold maxLen; omega) (by omega) (by simp; omega) ?_)
          intro v' w5 hown9 hgrow9 _ hat9
          obtain ⟨sl, cl9, rfl, hsc9⟩ := own_slice hown9
          have gg : w9.grownBy w5 (Value.slice xl i cl).ownBlock := grown_trans (World.grownBy_alloc w9 _ _) hgrow9
          have hfar : ∀ j, (Value.slice xl i cl).ownBlock = some j → Bz ≤ j := fun j e => (Hownc.out.lt j e).1
          have hst10 := Hstc.out.grow gg (by
            cases h1 : (Value.slice (some ⟨g, 0, none⟩) s2.T.length cs2).ownBlock with
            | none => exact .inl rfl
            | some j => exact .inr (fun e => by have := hfar j e.symm; have := Hzs.out j h1; omega)) (by
            cases h1 : (Value.slice sx O6.length sc).ownBlock with
            | none => exact .inl rfl
            | some j => exact .inr (fun e => by have := hfar j e.symm; have := Hzo.out j h1; omega)) (fun j e => by have := hfar j e; omega)
          have hsz9 := gg.size
          have hBl9 : Bz ≤ w5.heap.size := by omega
          have Hst10 := Lib.hid hst10
          have Hown9 := Lib.hid hown9
          clear hown9 hgrow9 hat9 gg hfar hst10
          go_wp2_with fail
          first | exact ⟨⟨i + 1, sl, cl9, by omega, by simp, rfl, Hst10.out, by rw [Htk.out, List.map_append, List.map_singleton, Hfm.out, iCells, List.map_append]; first | exact Hown9.out | (rw [List.map_take]; exact Hown9.out), hBl9⟩, by simp only [intOf]; omega⟩ | exact ⟨by (repeat apply Exists.intro); exact ⟨⟨i + 1, sl, cl9, by omega, by simp, rfl, Hst10.out, by rw [Htk.out, List.map_append, List.map_singleton, Hfm.out, iCells, List.map_append]; first | exact Hown9.out | (rw [List.map_take]; exact Hown9.out), hBl9⟩, rfl⟩, by simp [intOf]; omega⟩
    · have hiT' : i = s2.T.length := by omega
      subst hiT'
      rw [List.take_length] at hown
      go_wp2_with fail
      exact HX.out _ _ _ _ _ _ _ _ _ _ _ _ _ _ _ _ _ _ _ _ _ _ _ _ _ _ _ _ _ _ _ _ _ _ _ _ _ _ _ _ _ _ _ _ _ _ _ _ _ _ _ _ _ _ _ _ _ _ _ _ _ _ _ _ _ _ _ _ _ _ _ _ _ _ _ _ _ _ _ _ _ _ _ _ _ _ _ _ _ _ _ _ _ _ _ _ _ _ _ _ _ _ _ _ _ _ _ _ _ _ _ _ _ _ _ _ _ _ _ _ _ _ _ _ _ _ _ _ _ _ _ _ _ _ _ _ _ _ _ _ _ _ _ _ _ _ _ _ _ _ _ _ _ _ _ _ _ _ _ _ _ _ _ _ _ _ _ _ _ _ _ _ hst hown hBl

end Go.Proofs.YtmkencdkglbpbaaDoor
