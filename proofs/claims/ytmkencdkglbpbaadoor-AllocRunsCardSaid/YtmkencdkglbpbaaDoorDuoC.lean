/- AllocRuns: the walk. -/
import Derived.Test.YtmkencdkglbpbaaDoorDuoB
import Derived.Deep.QuietTactic
import Derived.Deep.DeepCutAuto
set_option maxRecDepth 100000
set_option linter.unusedVariables false
namespace Go.Proofs.YtmkencdkglbpbaaDoor
open Go.RowKit

/-- Words of nought as they are made. -/
def zeroU (q : Nat) : Array Value := madeCells (Value.int .u32 0).cells q
theorem zeroU_get (q j : Nat) (h : j < q) : (zeroU q)[j]? = some (.int .u32 0) := by
  have h1 : (madeCells #[Value.int .u32 0] q).toList[j]? = some (.int .u32 0) := by
    rw [toList_madeCells_one, List.getElem?_replicate, if_pos h]
  show (madeCells #[Value.int .u32 0] q)[j]? = _
  rw [← Array.getElem?_toList]
  exact h1
theorem run_zeroU (q : Nat) (hq : q ≤ 100000) (w : World) : (Instr.makeSlice 45 (.int .i64 q) (.int .i64 q)).run Tryd.prog w = .ok (.slice (some ⟨w.heap.size, 0, none⟩) q q) (w.alloc (.cells (zeroU q) 35)) := by
  obtain ⟨i0, hi, hz0, hz1, hz2⟩ := info_parts Tryd.infoU32
  have := run_make (P := Tryd.prog) w 45 35 i0 (.int .u32 0) Tryd.underlying45 hi hz0 .i64 .i64 q q (by omega) (by omega) (by rw [hz2]; omega) (by omega)
  simp only [Int.toNat_natCast, Nat.mul_one] at this
  rw [this, hz1, Nat.mul_one]
  rfl
attribute [irreducible] zeroU
theorem run_max3 {P : Program} (w : World) (ts : Array TypeId) (t : TypeId) (x y z : Int) : (Builtin.max_ ts t #[.int .i64 x, .int .i64 y, .int .i64 z]).run P w = .ok (.int .i64 (max (max x y) z)) w := by
  have e : ∀ a b : Int, (if b > a then b else a) = max a b := fun a b => by
    rw [Int.max_def]
    split <;> split <;> omega
  simp [Builtin.max_, Builtin.max2, e]
attribute [local go_sem] run_max3
/-- A state over words of nought. -/
theorem StAt.made {W : World} {rb q mb : Nat} {fv : Value} {rg B : Nat} {S : Int} {m : Nat → Int} (hz : W.heap[rb]? = some (.cells (zeroU q) 35 (0, 0))) (hM : IsMem W B mb fv rg [] m) (n1 : rg ≠ rb) (n3 : rb ≠ mb) (n4 : fv.ownBlock ≠ some rb) (hq : q ≤ 2000) (hS : 0 ≤ S ∧ S < 4294967296) :
    StAt (W.alloc (.cells #[.slice (some ⟨rb, 0, none⟩) q q, .int .u32 S, .pointer (some ⟨mb, 0, none⟩)] 59)) W.heap.size rb q mb fv rg B S (List.replicate q 0) m := by
  have hb := (Below.refl _ W).alloc (Nat.le_refl _) (.cells #[.slice (some ⟨rb, 0, none⟩) q q, .int .u32 S, .pointer (some ⟨mb, 0, none⟩)] 59)
  have hl := lt_of_block hz
  have hk := (hb.block rb hl).trans hz
  have hrs := hM.hrs
  refine ⟨{ blk := by rw [List.length_replicate]; exact heap_alloc_new W _, row := fun i hi => ?_, free := fun i => (blk_cells hk i).2, rlt := lt_of_block hk, ne := by omega, cap := by simp, small := by simpa using hq, bytes := fun x hx => by have := List.eq_of_mem_replicate hx; omega, sbd := hS }, hM.below hb, n1, by omega, n3, n4⟩
  rw [List.length_replicate] at hi
  rw [(blk_cells hk i).1, zeroU_get q i hi, List.getElem_replicate]

theorem IsMem.lower {w : World} {B B' b : Nat} {fv : Value} {rg : Nat} {F : List Int} {m : Nat → Int} (h : IsMem w B b fv rg F m) (hB : B' ≤ B) : IsMem w B' b fv rg F m :=
  { h with hb := Nat.le_trans hB h.hb, hr := Nat.le_trans hB h.hr, flash := ownsRow_base h.flash hB }
/-- The eight registers made ahead of the copy. -/
theorem eight_first {w7 wc : World} {mb' : Nat} {fv' : Value} {rg' : Nat} {S : Int} {mm : Nat → Int} (hS : 0 ≤ S ∧ S < 4294967296) (hM : IsMem wc (w7.drew.alloc (.cells (zeroU 8) 35)).heap.size mb' fv' rg' [] mm) (hb : Below (w7.drew.alloc (.cells (zeroU 8) 35)).heap.size (w7.drew.alloc (.cells (zeroU 8) 35)) wc) :
    StAt (wc.alloc (.cells #[.slice (some ⟨w7.heap.size, 0, none⟩) 8 8, .int .u32 S, .pointer (some ⟨mb', 0, none⟩)] 59)) wc.heap.size w7.heap.size 8 mb' fv' rg' w7.heap.size S (List.replicate 8 0) mm ∧ Below w7.heap.size w7 (wc.alloc (.cells #[.slice (some ⟨w7.heap.size, 0, none⟩) 8 8, .int .u32 S, .pointer (some ⟨mb', 0, none⟩)] 59)) ∧ w7.heap.size ≤ wc.heap.size := by
  have hsz : (w7.drew.alloc (.cells (zeroU 8) 35)).heap.size = w7.heap.size + 1 := by simp
  have h7 : (w7.drew.alloc (.cells (zeroU 8) 35)).heap[w7.heap.size]? = some (.cells (zeroU 8) 35 (0, 0)) := heap_alloc_new w7.drew _
  have hba : Below w7.heap.size w7 (w7.drew.alloc (.cells (zeroU 8) 35)) := (Below.refl _ w7).drew.alloc (Nat.le_refl _) _
  generalize w7.drew.alloc _ = wa at hM hb hsz h7 hba
  have hz := (hb.block w7.heap.size (by omega)).trans h7
  have h1 := hb.size
  have h2 := hM.hr
  have h3 := hM.hb
  refine ⟨StAt.made hz (hM.lower (by omega)) (by omega) (by omega) (fun e => by have := (hM.flash.lt _ e).1; omega) (by omega) hS, (hba.trans (hb.mono (by omega))).alloc (by omega) _, by omega⟩
/-- The eight registers made behind the copy. -/
theorem eight_last {w7 wc : World} {mb' : Nat} {fv' : Value} {rg' : Nat} {S : Int} {mm : Nat → Int} (hS : 0 ≤ S ∧ S < 4294967296) (hM : IsMem wc w7.drew.heap.size mb' fv' rg' [] mm) (hb : Below w7.drew.heap.size w7.drew wc) :
    StAt ((wc.alloc (.cells (zeroU 8) 35)).alloc (.cells #[.slice (some ⟨wc.heap.size, 0, none⟩) 8 8, .int .u32 S, .pointer (some ⟨mb', 0, none⟩)] 59)) (wc.heap.size + 1) wc.heap.size 8 mb' fv' rg' w7.heap.size S (List.replicate 8 0) mm ∧ Below w7.heap.size w7 ((wc.alloc (.cells (zeroU 8) 35)).alloc (.cells #[.slice (some ⟨wc.heap.size, 0, none⟩) 8 8, .int .u32 S, .pointer (some ⟨mb', 0, none⟩)] 59)) ∧ w7.heap.size ≤ wc.heap.size := by
  have h1 : w7.heap.size ≤ wc.heap.size := hb.size
  have h2 : w7.heap.size ≤ rg' := hM.hr
  have h3 : w7.heap.size ≤ mb' := hM.hb
  have h4 := hM.hrs
  have h5 := hM.lt
  have hba : Below w7.heap.size w7 wc := (Below.refl _ w7).drew.trans hb
  have hM7 : IsMem wc w7.heap.size mb' fv' rg' [] mm := hM
  have hst := StAt.made (W := wc.alloc (.cells (zeroU 8) 35)) (S := S) (heap_alloc_new wc _) (hM7.below ((Below.refl _ wc).alloc (Nat.le_refl _) _)) (by omega) (by omega) (fun e => by have := (hM7.flash.lt _ e).2; omega) (by omega) hS
  rw [World.size_alloc] at hst
  exact ⟨hst, (hba.alloc h1 _).alloc (by rw [World.size_alloc]; omega) _, h1⟩

set_option maxHeartbeats 16000000 in
theorem allocRuns_walk (x : Option Addr) (n cc : Nat) (L : List Op8) (a S : Int) (y : Option Addr) (p yc : Nat) (W : List Int) (w : World) (hS : HasRows w) (hL : OpsSl w x L) (hn : L.length = n) (hnc : n ≤ cc) (hN : ∀ o ∈ L, 0 ≤ o.N ∧ o.N < 4294967296) (hSb : 0 ≤ S ∧ S < 4294967296) (hU : USl w y W) (hp : W.length = p) (hpc : p ≤ yc) (hbW : ∀ v ∈ W, 0 ≤ v ∧ v < 4294967296) :
    Calls Tryd.prog 10 #[.slice x n cc, .int .i64 a, .int .u32 S, .slice y p yc] w fun e w' => e = .returned (.bool true) ∧ Below w.heap.size w w' := by
  have HA := Lib.hid (anchor17_any w hS)
  have HS := Lib.hid hS
  have HL := Lib.hid hL
  have HN := Lib.hid hn
  have HNN := Lib.hid hN
  have HU := Lib.hid hU
  have HP := Lib.hid hp
  have HbW := Lib.hid hbW
  obtain ⟨hS0, hS1⟩ := hSb
  clear hS hL hn hN hU hp hbW
  by_cases h60 : n > 60
  · go_enter Tryd.func10, Tryd.ntmps10
    go_wp2_with fail
    refine HA.out.mono ?_
    rintro e w1 ⟨rfl, hb1⟩
    have H1 := Lib.hid hb1
    clear hb1
    go_wp2_with fail
    go_ret
    exact ⟨rfl, H1.out⟩
  by_cases h40 : p > 40
  · go_enter Tryd.func10, Tryd.ntmps10
    go_wp2_with fail
    refine HA.out.mono ?_
    rintro e w1 ⟨rfl, hb1⟩
    have H1 := Lib.hid hb1
    clear hb1
    go_wp2_with fail
    go_ret
    exact ⟨rfl, H1.out⟩
  obtain ⟨V, hV⟩ : ∃ V, V = allocF L a := ⟨_, rfl⟩
  have HCV : Hid (∀ (wq : World), HasRows wq → OpsSl wq x L → Calls Tryd.prog 12 #[.slice x n cc, .int .i64 a] wq fun e w' => ∃ vo, e = .returned (.tuple #[.agg #[vo, .int .i64 V.2.1], .int .i64 V.2.2]) ∧ w'.ownsRow wq.heap.size 37 8 vo V.1.length (outC V.1) ∧ Below wq.heap.size wq w') := by
    rw [hV]; exact fun wq h1 h2 => alloc_any x n cc L a wq h1 h2 HN.out (by omega) hnc HNN.out
  have HLaw : Hid (V.2.2 = 0 → ∃ Z : Nat, V.2.1 = Z ∧ Took L a V.1 Z) := by
    rw [hV]
    exact fun h => allocF_took h HNN.out
  clear hV
  obtain ⟨O, sl, ea⟩ := V
  go_enter Tryd.func10, Tryd.ntmps10
  go_wp2_with fail
  refine HA.out.mono ?_
  rintro e w1 ⟨rfl, hb1⟩
  have H1 := Lib.hid hb1
  clear hb1 HA
  go_wp2_with fail
  refine (HCV.out w1 (HS.out.below H1.out) (HL.out.below H1.out)).mono ?_
  rintro e w2 ⟨vo, rfl, hown, hb2⟩
  obtain ⟨xo, co, rfl, hcO, hO2, hg2, hm2⟩ := outs_ops hown
  have H2 := Lib.hid (H1.out.trans (hb2.mono H1.out.size))
  have hbA := (Below.refl _ w2).alloc (Nat.le_refl _) (.cells #[.slice xo O.length co, .int .i64 sl] 25)
  have hx3 := heap_alloc_new w2 (.cells #[.slice xo O.length co, .int .i64 sl] 25)
  have HO2 := Lib.hid hO2
  have HG2 := Lib.hid hg2
  have hmm : O.length ≤ 9223372036854775807 := by unfold maxLen at hm2; exact hm2
  clear hown hb2 hO2 hg2 hm2 HCV
  simp only at hx3 hbA HLaw ⊢
  by_cases hea : ea = 0
  · subst hea
    obtain ⟨Z, rfl, hT⟩ := HLaw.out rfl
    have HT := Lib.hid hT
    have HX3 := Lib.hid hx3
    clear HLaw hT hx3
    by_cases hal : S % 4 = 0
    · have e4 : (S % 4 != 0) = false := by simpa using hal
      by_cases hlo : S < 536870912
      · have e5 : decide (S < 536870912) = true := by simpa using hlo
        go_wp2_with fail
        go_ret
        exact ⟨rfl, H2.out.trans (hbA.mono H2.out.size)⟩
      · have e5 : decide (S < 536870912) = false := by simpa using hlo
        by_cases hhi : 536932352 < S
        · have e6 : decide (536932352 < S) = true := by simpa using hhi
          go_wp2_with fail
          go_ret
          exact ⟨rfl, H2.out.trans (hbA.mono H2.out.size)⟩
        · have e6 : decide (536932352 < S) = false := by simpa using hhi
          have H3 := Lib.hid (H2.out.trans (hbA.mono H2.out.size))
          go_wp2_with fail
          generalize w2.alloc _ = w3 at hbA HX3 H3 ⊢
          have HO3 := Lib.hid (HO2.out.below hbA)
          have HG3 : Hid (∀ g o, xo = some ⟨g, o, none⟩ → g < w3.heap.size) := Lib.hid fun g o e => Nat.lt_of_lt_of_le (HG2.out g o e).1 hbA.size
          clear hbA HO2 HG2
          obtain ⟨xb, hxb⟩ : ∃ xb, xb = w2.heap.size := ⟨_, rfl⟩
          rw [← hxb] at HX3 ⊢
          have HS3 := Lib.hid (HS.out.below H3.out)
          clear hxb
          refine (new_any none 0 0 [] w3 ⟨rfl, by simp, .inl rfl⟩ (by omega) (fun _ => ⟨rfl, rfl⟩)).mono ?_
          rintro e w4 ⟨mb, fv, rg, rfl, hM, hb4⟩
          have HM4 := Lib.hid hM
          have HB4 := Lib.hid hb4
          clear hM hb4 e4 e5 e6
          go_wp2_with fail
          go_loopw [76] (fun i wa => ∃ (k : Nat) (mm : Nat → Int), k ≤ p ∧ i = .int .i64 k ∧ IsMem wa w3.heap.size mb fv rg [] mm ∧ Below w3.heap.size w3 wa) (fun i _ => p - (intOf i).toNat)
          case atStart => exact ⟨0, _, Nat.zero_le _, rfl, HM4.out, HB4.out⟩
          case round =>
            obtain ⟨k, mm, hk, rfl, hM, hB⟩ := hrel
            have HM := Lib.hid hM
            have HB := Lib.hid hB
            clear hM hB
            by_cases hlt : k < p
            · have hlt' : k < W.length := by rw [HP.out]; exact hlt
              obtain ⟨b, o, rfl, hbl, hc⟩ := (HU.out.below (H3.out.trans (HB.out.mono H3.out.size))).resolve_left (by have := HP.out; omega)
              have hw0 := hc k hlt'
              have hwb := HbW.out _ (List.getElem_mem hlt')
              generalize W[k]'hlt' = X at hw0 hwb
              have HWB := Lib.hid hwb
              have hSk : 0 ≤ S + 4 * (k : Int) ∧ S + 4 * (k : Int) < 4294967296 := by omega
              have HSk := Lib.hid hSk
              have wq : IntKind.i64.wrap ((k : Int) + 1) = (k : Int) + 1 := IntWalk.i64_in _ (by omega)
              have wq1 : IntKind.i64.wrap (4 * (k : Int)) = 4 * (k : Int) := IntWalk.i64_in _ (by omega)
              have wq2 : IntKind.u32.wrap (4 * (k : Int)) = 4 * (k : Int) := by rw [IntKind.wrap_u32]; omega
              have wq3 : IntKind.u32.wrap (S + 4 * (k : Int)) = S + 4 * (k : Int) := by rw [IntKind.wrap_u32]; omega
              clear hc hwb hSk
              go_wp2_with fail
              refine (store_any HM.out (S + 4 * (k : Int)) HSk.out.1 HSk.out.2 X HWB.out.1 HWB.out.2).mono ?_
              rintro e wb ⟨rfl, hst⟩
              have HM2 := Lib.hid hst.1
              have HB2 := Lib.hid (below_stored HB.out hst HB.out.size)
              clear hst hw0
              go_wp2_with fail
              exact ⟨⟨k + 1, _, by omega, by simp, HM2.out, HB2.out⟩, by simp only [intOf]; omega⟩
            · go_wp2_with fail
              generalize wr = w5 at HM HB ⊢
              go_loopw [15, 92] (fun r i wa => ∃ k : Nat, k ≤ n ∧ r = .int .i64 (maxTo (L.take k) 0) ∧ i = .int .i64 k ∧ Below w5.heap.size w5 wa) (fun _ i _ => n - (intOf i).toNat)
              case atStart => exact ⟨0, Nat.zero_le _, rfl, rfl, Below.refl _ _⟩
              case round =>
                obtain ⟨k2, hk2, rfl, rfl, hB2⟩ := hrel
                have HB2 := Lib.hid hB2
                clear hB2
                have HB0 := Lib.hid (H3.out.trans ((HB.out.trans (HB2.out.mono HB.out.size)).mono H3.out.size))
                by_cases hlt2 : k2 < n
                · have hlt' : k2 < L.length := by rw [HN.out]; exact hlt2
                  obtain ⟨ob, oo, rfl, hob, hc⟩ := (HL.out.below HB0.out).resolve_left (by have := HN.out; omega)
                  obtain ⟨c0, c1, c2, c3, c4, c5, c6, c7⟩ := hc k2 hlt'
                  have hmt := maxTo_take hlt' 0
                  have htos := HT.out.tos _ (List.getElem_mem hlt')
                  have hmb : maxTo (L.take k2) 0 ≤ 65536 := maxTo_le _ _ (by omega) fun o ho => by have := HT.out.tos o (List.mem_of_mem_take ho); omega
                  have hmb0 := maxTo_ge (L.take k2) 0
                  generalize L[k2]'hlt' = q at c0 c1 c2 c3 c4 c5 c6 c7 hmt htos
                  obtain ⟨⟨t0a, t0b⟩, t1a, t1b⟩ := htos
                  generalize maxTo (L.take k2) 0 = r at hmt hmb hmb0 ⊢
                  have Hmt := Lib.hid hmt
                  have wq : IntKind.i64.wrap ((k2 : Int) + 1) = (k2 : Int) + 1 := IntWalk.i64_in _ (by omega)
                  have wq1 : IntKind.i64.wrap (q.t0 + 1) = q.t0 + 1 := IntWalk.i64_in _ (by omega)
                  have wq2 : IntKind.i64.wrap (q.t1 + 1) = q.t1 + 1 := IntWalk.i64_in _ (by omega)
                  have hbA := (Below.refl _ wr).alloc (Nat.le_refl _) (.cells #[.int .i64 q.K, .int .i64 q.t0, .int .i64 q.t1, .int .i64 q.f0, .int .i64 q.f1, .int .i64 q.f2, .int .i64 q.f3, .int .u32 q.N] 37)
                  have HBA := Lib.hid (HB2.out.trans (hbA.mono HB2.out.size))
                  have n1 : ob ≠ wr.heap.size := by omega
                  clear hc hmt hbA
                  go_wp2_with fail
                  exact ⟨⟨k2 + 1, by omega, by rw [Hmt.out]; congr 1; omega, by simp, HBA.out⟩, by simp only [intOf]; omega⟩
                · have hmx : maxTo (L.take k2) 0 = maxTo L 0 := by rw [show k2 = L.length by rw [HN.out]; omega, List.take_length]
                  have hM0 := maxTo_ge L 0
                  obtain ⟨q, hq⟩ : ∃ q : Nat, maxTo L 0 = q := ⟨(maxTo L 0).toNat, by omega⟩
                  have HQ := Lib.hid hq
                  rw [hmx, hq]
                  clear hmx hq hM0
                  have HM5 := Lib.hid (HM.out.below (HB2.out.mono (Nat.le_refl _)))
                  have HB5 := Lib.hid (HB.out.trans (HB2.out.mono HB.out.size))
                  generalize wr = w6 at HM5 HB5 HB0 ⊢
                  clear HB2 HM HB
                  by_cases hbig : 2000 < q
                  · have e7 : decide ((2000 : Int) < (q : Int)) = true := by simp; omega
                    go_wp2_with fail
                    go_ret
                    exact ⟨rfl, HB0.out⟩
                  · have e7 : decide ((2000 : Int) < (q : Int)) = false := by simp; omega
                    have hrun := run_zeroU q (by omega)
                    have hz6 := heap_alloc_new w6 (.cells (zeroU q) 35)
                    have hb6 := (Below.refl _ w6).alloc (Nat.le_refl _) (.cells (zeroU q) 35)
                    have hrs6 := HM5.out.hrs
                    have hlt6 := HM5.out.lt
                    have hst := StAt.made (W := w6.alloc (.cells (zeroU q) 35)) (mb := mb) (S := S) hz6 (HM5.out.below hb6) (by omega) (by omega) (fun e => by have := (HM5.out.flash.lt _ e).2; omega) (by omega) ⟨hS0, hS1⟩
                    rw [World.size_alloc] at hst
                    have hbs := (Below.refl _ (w6.alloc (.cells (zeroU q) 35))).alloc (Nat.le_refl _) (.cells #[.slice (some ⟨w6.heap.size, 0, none⟩) q q, .int .u32 S, .pointer (some ⟨mb, 0, none⟩)] 59)
                    have hbs6 : Below w6.heap.size w6 _ := hb6.trans (hbs.mono hb6.size)
                    have HST := Lib.hid hst
                    have HBS := Lib.hid hbs6
                    have hfg : ∀ g, fv.ownBlock = some g → g < w6.heap.size := fun g e => (HM5.out.flash.lt g e).2
                    have HFG := Lib.hid hfg
                    clear hst hb6 hbs hbs6 hz6 hfg
                    go_upto_region 25 with fail
                    generalize World.alloc _ _ = w7 at HST HBS ⊢
                    go_cut [19] (fun v wx => ∃ (sb' rb' mb' : Nat) (fv' : Value) (rg' : Nat), v = .pointer (some ⟨sb', 0, none⟩) ∧ StAt wx sb' rb' 8 mb' fv' rg' w7.heap.size S (List.replicate 8 0) mm ∧ Below w7.heap.size w7 wx ∧ w7.heap.size ≤ sb' ∧ w7.heap.size ≤ rb')
                    case first =>
                      have hrun8 : ∀ w : World, (Instr.makeSlice 45 (.int .i64 8) (.int .i64 8)).run Tryd.prog w = .ok (.slice (some ⟨w.heap.size, 0, none⟩) 8 8) (w.alloc (.cells (zeroU 8) 35)) := run_zeroU 8 (by omega)
                      clear hrun
                      go_region_held3 (fun w' => True) (trivial)
                        (first
                          | (go_at_call 32; refine (copy_any (HST.out.mem.below (Below.refl _ w7).drew)).mono ?_; rintro e wc ⟨mb', fv', rg', rfl, hM', hb'⟩; have HMC := Lib.hid hM'; have HBC := Lib.hid hb'; clear hM' hb')
                          | (go_at_call 32; refine (copy_any (HST.out.mem.below ((Below.refl _ w7).drew.alloc (Nat.le_refl _) _))).mono ?_; rintro e wc ⟨mb', fv', rg', rfl, hM', hb'⟩; have HMC := Lib.hid hM'; have HBC := Lib.hid hb'; clear hM' hb'))
                      · obtain ⟨q1, q2, q3⟩ := eight_first ⟨hS0, hS1⟩ HMC.out HBC.out
                        go_wp2_with fail
                        go_meet
                        exact ⟨_, _, _, _, _, rfl, q1, q2, q3, Nat.le_refl _⟩
                      · obtain ⟨q1, q2, q3⟩ := eight_last ⟨hS0, hS1⟩ HMC.out HBC.out
                        go_wp2_with fail
                        go_meet
                        exact ⟨_, _, _, _, _, rfl, q1, q2, by omega, q3⟩
                    case rest =>
                      obtain ⟨sb', rb', mb', fv', rg', rfl, hst8, hb8, hB1, hB2⟩ := hcut
                      have hb3c : Below w3.heap.size w3 wc := HB5.out.trans ((HBS.out.trans (hb8.mono HBS.out.size)).mono HB5.out.size)
                      have hD : Duo w wc (w6.heap.size + 1) w6.heap.size q mb fv rg w3.heap.size S (List.replicate q 0) mm sb' rb' 8 mb' fv' rg' w7.heap.size (List.replicate 8 0) mm xb xo co O Z := by
                        have g1 := lt_of_block HST.out.reg.blk
                        have g2 := HST.out.reg.rlt
                        have g3 := HBS.out.size
                        have g4 := lt_of_block HX3.out
                        exact {
                          s := HST.out.below hb8
                          t := hst8
                          x := (hb3c.block _ g4).trans HX3.out
                          ops := HO3.out.below hb3c
                          bel := H3.out.trans (hb3c.mono H3.out.size)
                          lo := ⟨H3.out.size, g4, HB5.out.size, HG3.out⟩
                          xs := ⟨g1, g2, by omega, by omega, fun g e => by have := HFG.out g e; omega⟩
                          xt := ⟨hB1, hB2⟩ }
                      have HD := Lib.hid hD
                      have hab := HT.out.b0
                      have hab1 := HT.out.b1
                      have hab4 := HT.out.b4
                      have hlow := HT.out.low
                      obtain ⟨z, hz⟩ : ∃ z : Nat, S + a = 536870912 + 4 * (z : Int) := ⟨((S + a - 536870912) / 4).toNat, by omega⟩
                      obtain ⟨fr, hfr⟩ : ∃ fr, fr = S + a := ⟨_, rfl⟩
                      have hF : 0 ≤ fr ∧ fr < 4294967296 := by omega
                      have hFz : fr = 536870912 + 4 * (z : Int) := by omega
                      have hZ : Z ≤ 256 := by omega
                      have HF := Lib.hid hF
                      have HFz := Lib.hid hFz
                      have Hz := Lib.hid hz
                      have wa1 : IntKind.u32.wrap a = a := by rw [IntKind.wrap_u32]; omega
                      have wa2 : IntKind.u32.wrap (S + a) = fr := by rw [IntKind.wrap_u32]; omega
                      have hrg : ∀ o ∈ L, ∀ x ∈ regsOf [o.f0, o.f1, o.f2, o.f3] ++ regsOf [o.t0, o.t1], x < (((List.replicate q (0 : Int)).length : Nat) : Int) := fun o ho x hx => by
                        have := HT.out.reg o ho x hx
                        rw [HQ.out] at this
                        rw [List.length_replicate]; exact this
                      have HRG := Lib.hid hrg
                      have HOK := Lib.hid HT.out.lok
                      clear hD hrg hz hF hst8 hb8 hb3c hB1 hB2 HST HBS HX3 HO3 hrs6 hlt6 hrun e7
                      go_wp2_with fail
                      try rw [← hfr]
                      refine loop3_any w x n cc L (w6.heap.size + 1) w6.heap.size q mb fv rg w3.heap.size S (List.replicate q 0) mm sb' rb' 8 mb' fv' rg' w7.heap.size (List.replicate 8 0) mm xb xo co O Z z fr (runM S L (List.replicate q 0) mm) wc HD HL HN (by omega) HOK HRG hZ HF HFz (Lib.hid rfl) _ _ _ _ _ _ _ _ _ _ _ _ _ _ _ _ _ _ _ _ _ _ _ _ _ _ _ _ _ _ _ _ _ _ _ _ _ _ _ _ _ _ _ _ _ _ _ _ _ _ _ _ _ _ _ _ _ _ _ _ _ _ _ _ _ _ _ _ _ _ _ _ _ _ _ _ _ _ _ _ _ _ _ _ _ _ _ _ _ _ _ _ _ _ _ _ _ _ _ _ _ _ _ _ _ _ _ _ _ _ _ _ _ _ _ _ _ _ _ _ _ _ _ _ _ _ _ _ _ _ _ _ _ _ _ _ _ _ _ _ _ _ _ _ _ _ _ _ _ _ _ _ _ _ _ _ _ _ _ _ _ _ _ _ _ _ _ _ _ _ _ _ _ _ _ _ _ _ _ _ _ _ _ _ _ _ _ _ _ _ _ _ _ _ _ _ _ _ ?hexit ?hret
                      case hret =>
                        intro fx1 fx3 fx4 fx5 fx6 fx7 fx10 fx11 fx12 fx13 fx14 fx15 fx16 fx17 fx21 fx22 fx23 fx24 fx25 fx26 fx27 fx28 fx29 fx30 fx31 fx32 fx33 fx34 fx35 fx36 fx37 fx38 fx39 fx40 fx41 fx42 fx43 fx44 fx45 fx46 fx47 fx48 fx49 fx50 fx51 fx52 fx53 fx54 fx55 fx56 fx57 fx58 fx59 fx60 fx61 fx62 fx63 fx64 fx65 fx66 fx67 fx68 fx69 fx70 fx71 fx72 fx73 fx74 fx75 fx76 fx77 fx78 fx79 fx80 fx81 fx82 fx83 fx84 fx85 fx86 fx87 fx88 fx89 fx90 fx91 fx92 fx93 fx94 fx95 fx96 fx97 fx98 fx99 fx100 fx101 fx102 fx103 fx104 fx105 fx106 fx107 fx108 fx109 fx110 fx111 fx112 fx113 fx114 fx115 fx116 fx117 fx118 fx119 fx120 fx121 fx122 fx123 fx124 fx125 fx126 fx127 fx128 fx129 fx130 fx131 fx132 fx133 fx134 fx135 fx136 fx137 fx138 fx139 fx140 fx141 fx142 fx143 fx144 fx145 fx146 fx147 fx148 fx149 fx150 fx151 fx152 fx153 fx154 fx155 fx156 fx157 fx158 fx159 fx160 fx161 fx162 fx163 fx164 fx165 fx166 fx167 fx168 fx169 fx170 fx171 fx172 fx173 fx174 fx175 fx176 fx177 fx178 fx179 fx180 fx181 fx182 fx183 fx184 fx185 fx186 fx187 fx188 fx189 fx190 fx191 fx192 fx193 fx194 fx195 fx196 fx197 fx198 fx199 fx200 fx201 fx202 fx203 fx204 fx205 fx206 fx207 wr hbr
                        have HBr := Lib.hid hbr
                        clear hbr
                        go_ret
                        exact ⟨rfl, HBr.out⟩
                      case hexit =>
                        intro fx1 fx3 fx4 fx5 fx6 fx7 fx8 fx10 fx11 fx12 fx13 fx14 fx15 fx16 fx17 fx23 fx24 fx25 fx26 fx27 fx28 fx29 fx30 fx31 fx32 fx33 fx34 fx35 fx36 fx37 fx38 fx39 fx40 fx41 fx42 fx43 fx44 fx45 fx46 fx47 fx48 fx49 fx50 fx51 fx52 fx53 fx54 fx55 fx56 fx57 fx58 fx59 fx60 fx61 fx62 fx63 fx64 fx65 fx66 fx67 fx68 fx69 fx70 fx71 fx72 fx73 fx74 fx75 fx76 fx77 fx78 fx79 fx80 fx81 fx82 fx83 fx84 fx85 fx86 fx87 fx88 fx89 fx90 fx91 fx92 fx93 fx94 fx95 fx96 fx97 fx98 fx99 fx100 fx101 fx102 fx103 fx104 fx105 fx106 fx107 fx108 fx109 fx110 fx111 fx112 fx113 fx114 fx115 fx116 fx117 fx118 fx119 fx120 fx121 fx122 fx123 fx124 fx125 fx126 fx127 fx128 fx129 fx130 fx131 fx132 fx133 fx134 fx135 fx136 fx137 fx138 fx139 fx140 fx141 fx142 fx143 fx144 fx145 fx146 fx147 fx148 fx149 fx150 fx151 fx152 fx153 fx154 fx155 fx156 fx157 fx158 fx159 fx160 fx161 fx162 fx163 fx164 fx165 fx166 fx167 fx168 fx169 fx170 fx171 fx172 fx173 fx174 fx175 fx176 fx177 fx178 fx179 fx180 fx181 fx182 fx183 fx184 fx185 fx186 fx187 fx188 fx189 fx190 fx191 fx192 fx193 fx194 fx195 fx196 fx197 fx198 fx199 fx200 fx201 fx202 fx203 fx204 fx205 fx206 fx207 wr e1 e2 R1 m1 hD hV hNT
                        obtain ⟨R8', m8', hr8, hout⟩ := HT.out.runs S (List.replicate q 0) mm z ⟨hlo, by omega, hal⟩ (fun x hx => List.eq_of_mem_replicate hx) (by rw [HQ.out]; simp) Hz.out hNT
                        rw [← hV] at hr8 hout
                        simp only at hr8 hout
                        have hrun := run_any sb' rb' 8 mb' fv' rg' w7.heap.size S (List.replicate 8 0) mm xo O.length co O wr hD.t hD.ops rfl (by have := HT.out.len; have := HN.out; omega) HT.out.ok (fun b o e => by
                          have h1 := hD.lo.2.2.2 b o e
                          have h2 := hD.xs
                          have h3 := hD.xt
                          have h4 := hD.t.mem.hr
                          have h5 := hD.lo
                          omega) hcO
                        rw [show List.replicate 8 (0 : Int) = [0, 0, 0, 0, 0, 0, 0, 0] from rfl, hr8] at hrun
                        dsimp only at hrun
                        have HRUN := Lib.hid hrun
                        have HD2 := Lib.hid hD
                        have Hout := Lib.hid hout
                        have z0 := (blk_cells hD.x 0).1
                        simp only [List.getElem?_toArray, List.getElem?_cons_zero, List.getElem?_cons_succ] at z0
                        clear hrun hD hV hNT hr8 hout
                        go_wp2_with fail
                        refine HRUN.out.mono ?_
                        rintro e wk ⟨rfl, hst3, hk3⟩
                        have HDk := Lib.hid (HD2.out.ran hst3 hk3)
                        clear hst3 hk3 HRUN z0 HD2
                        go_wp2_with fail
                        go_loopw [165] (fun i wr => ∃ j : Nat, j ≤ 1024 ∧ i = .int .i64 j ∧ Below wk.heap.size wk wr) (fun i _ => 1024 - (intOf i).toNat)
                        case atStart => exact ⟨0, Nat.zero_le _, rfl, Below.refl _ _⟩
                        case round =>
                          obtain ⟨j, hj, rfl, hBj⟩ := hrel
                          have HBj := Lib.hid hBj
                          have HDr := Lib.hid (HDk.out.below hBj)
                          clear hBj
                          by_cases hlt3 : j < 1024
                          · have z1 := (blk_cells HDr.out.x 1).1
                            have s2 := (blk_cells HDr.out.s.reg.blk 2).1
                            have t2 := (blk_cells HDr.out.t.reg.blk 2).1
                            simp only [List.getElem?_toArray, List.getElem?_cons_zero, List.getElem?_cons_succ] at z1 s2 t2
                            obtain ⟨A, hA⟩ : ∃ A, A = S + 4 * (j : Int) := ⟨_, rfl⟩
                            have hA0 : 0 ≤ A := by omega
                            have hA1 : A < 4294967296 := by omega
                            have hload : ¬ (fr ≤ A ∧ A - fr < 4 * (Z : Int)) → loadV [] m1 A = (m1 ((A - 536870912) / 4).toNat, 0) ∧ loadV [] m8' A = (m1 ((A - 536870912) / 4).toNat, 0) := by
                              intro hc
                              have h8 := Hout.out ((A - 536870912) / 4).toNat (by have := HFz.out; omega)
                              unfold loadV
                              rw [if_neg (by omega), if_pos (by omega), if_neg (by omega), if_pos (by omega), h8]
                              exact ⟨rfl, rfl⟩
                            have wq : IntKind.i64.wrap ((j : Int) + 1) = (j : Int) + 1 := IntWalk.i64_in _ (by omega)
                            have wq1 : IntKind.i64.wrap (4 * (j : Int)) = 4 * (j : Int) := IntWalk.i64_in _ (by omega)
                            have wq2 : IntKind.u32.wrap (4 * (j : Int)) = 4 * (j : Int) := by rw [IntKind.wrap_u32]; omega
                            have wq3 : IntKind.u32.wrap (S + 4 * (j : Int)) = A := by rw [IntKind.wrap_u32]; omega
                            have wz1 : IntKind.i64.wrap (4 * (Z : Int)) = 4 * (Z : Int) := IntWalk.i64_in _ (by omega)
                            have wz2 : IntKind.u32.wrap (4 * (Z : Int)) = 4 * (Z : Int) := by rw [IntKind.wrap_u32]; omega
                            by_cases hge : fr ≤ A
                            · have g1 : decide (fr ≤ A) = true := by simpa using hge
                              have ws : IntKind.u32.wrap (A - fr) = A - fr := by rw [IntKind.wrap_u32]; have := HF.out; omega
                              by_cases hin : A - fr < 4 * (Z : Int)
                              · have g2 : decide (A - fr < 4 * (Z : Int)) = true := by simpa using hin
                                clear hload
                                subst hA
                                go_wp2_with fail
                                exact ⟨⟨j + 1, by omega, by simp, HBj.out⟩, by simp only [intOf]; omega⟩
                              · have g2 : decide (A - fr < 4 * (Z : Int)) = false := by simpa using hin
                                have hl := hload (by intro hc; omega)
                                have Hl1 := Lib.hid hl.1
                                have Hl2 := Lib.hid hl.2
                                clear hl hload
                                subst hA
                                go_wp2_with fail
                                refine (load_any HDr.out.s.mem (S + 4 * (j : Int)) hA0 hA1).mono ?_
                                rintro e w9 ⟨rfl, rfl⟩
                                rw [Hl1.out]
                                go_wp2_with fail
                                refine (load_any HDr.out.t.mem (S + 4 * (j : Int)) hA0 hA1).mono ?_
                                rintro e w9 ⟨rfl, rfl⟩
                                rw [Hl2.out]
                                go_wp2_with fail
                                exact ⟨⟨j + 1, by omega, by simp, HBj.out⟩, by simp only [intOf]; omega⟩
                            · have g1 : decide (fr ≤ A) = false := by simpa using hge
                              have hl := hload (by intro hc; omega)
                              have Hl1 := Lib.hid hl.1
                              have Hl2 := Lib.hid hl.2
                              clear hl hload
                              subst hA
                              go_wp2_with fail
                              refine (load_any HDr.out.s.mem (S + 4 * (j : Int)) hA0 hA1).mono ?_
                              rintro e w9 ⟨rfl, rfl⟩
                              rw [Hl1.out]
                              go_wp2_with fail
                              refine (load_any HDr.out.t.mem (S + 4 * (j : Int)) hA0 hA1).mono ?_
                              rintro e w9 ⟨rfl, rfl⟩
                              rw [Hl2.out]
                              go_wp2_with fail
                              exact ⟨⟨j + 1, by omega, by simp, HBj.out⟩, by simp only [intOf]; omega⟩
                          · go_wp2_with fail
                            go_ret
                            exact ⟨rfl, HDr.out.bel⟩
    · have e4 : (S % 4 != 0) = true := by simpa using hal
      go_wp2_with fail
      go_ret
      exact ⟨rfl, H2.out.trans (hbA.mono H2.out.size)⟩
  · have e0 : (ea != 0) = true := by simpa using hea
    go_wp2_with fail
    go_ret
    exact ⟨rfl, H2.out.trans (hbA.mono H2.out.size)⟩
end Go.Proofs.YtmkencdkglbpbaaDoor
