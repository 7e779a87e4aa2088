/- vop.Right: a list of operations. -/
import Derived.Test.YtmkencdkglbpbaaDoorOps8
import Derived.Maps.OwnOps
import Derived.Maps.Views
set_option maxRecDepth 100000
set_option linter.unusedVariables false
namespace Go.Proofs.YtmkencdkglbpbaaDoor
open Go.RowKit Go.Maps

theorem law3 : Keyed Tryd.prog 3 := int_keyed Tryd.underlying3
theorem zero3 (w : World) : (zeroValue 3).run Tryd.prog w = .ok (.int .i64 0) w := by kernel_rfl

/-- Registers are set: once each. -/
def setsV : List Int → List Int → Option (List Int)
  | set, [] => some set
  | set, t :: ts => if set.contains t then none else setsV (set ++ [t]) ts
/-- May a list be? -/
def listV : List Int → List Op8 → Bool
  | _, [] => true
  | set, o :: l => rightV o.K o.t0 o.t1 o.f0 o.f1 o.f2 o.f3 o.N && ((regsOf [o.f0, o.f1, o.f2, o.f3]).all (fun x => set.contains x) && match setsV set (regsOf [o.t0, o.t1]) with
    | none => false
    | some set' => listV set' l)

/-- A map says which registers are set. -/
def MapSays (D : DataW Unit) (set : List Int) : Prop := IsMap D ∧ ∀ v : Int, D.atKey (.int .i64 v) (.lit (.int .i64 0)) = .lit (.int .i64 (if set.contains v then 1 else 0))
theorem mapSays_nil : MapSays (.map []) [] := ⟨⟨[], rfl⟩, fun v => rfl⟩
theorem MapSays.put {D : DataW Unit} {set : List Int} (h : MapSays D set) (t : Int) : MapSays (D.put (.int .i64 t) (.lit (.int .i64 1))) (set ++ [t]) := by
  obtain ⟨h1, h2⟩ := h
  refine ⟨?_, fun v => ?_⟩
  · obtain ⟨es, rfl⟩ := h1; exact ⟨_, rfl⟩
  · by_cases hv : v = t
    · subst hv
      rw [atKey_put_same h1 (by trivial)]
      simp
    · rw [atKey_put_other (by intro e; injection e with _ e; exact hv e), h2 v]
      have : (set ++ [t]).contains v = set.contains v := by simp [hv]
      rw [this]

theorem Tryd.opOk_regs {o : Op8} (h : rightV o.K o.t0 o.t1 o.f0 o.f1 o.f2 o.f3 o.N = true) : (∀ x ∈ regsOf [o.f0, o.f1, o.f2, o.f3], 0 ≤ x ∧ x ≤ 65535) ∧ (∀ x ∈ regsOf [o.t0, o.t1], 0 ≤ x ∧ x ≤ 65535) := by
  obtain ⟨k, _, h⟩ := rightOp_of h
  have a0 := (okAt_iff _ _ _).1 h.pf0
  have a1 := (okAt_iff _ _ _).1 h.pf1
  have a2 := (okAt_iff _ _ _).1 h.pf2
  have a3 := (okAt_iff _ _ _).1 h.pf3
  have b0 := (okAt_iff _ _ _).1 h.pt0
  have b1 := (okAt_iff _ _ _).1 h.pt1
  refine ⟨fun x hx => ?_, fun x hx => ?_⟩
  · simp only [regsOf, List.mem_filter, List.mem_cons, List.not_mem_nil, or_false, bne_iff_ne] at hx
    obtain ⟨hx, hne⟩ := hx
    rcases hx with rfl | rfl | rfl | rfl <;> omega
  · simp only [regsOf, List.mem_filter, List.mem_cons, List.not_mem_nil, or_false, bne_iff_ne] at hx
    obtain ⟨hx, hne⟩ := hx
    rcases hx with rfl | rfl <;> omega

theorem ownsMap_below {w w' : World} {b n : Nat} {D : DataW Unit} (h : w.ownsMap Tryd.prog 3 (plainElem Tryd.prog 3) b n D) (hb : Below w.heap.size w w') : w'.ownsMap Tryd.prog 3 (plainElem Tryd.prog 3) b n D :=
  h.kept (row := none) ⟨hb.os, hb.tape, hb.output, hb.size, fun k hk _ => hb.block k hk⟩ (by simp)

set_option maxHeartbeats 8000000 in
theorem right_list (x : Option Addr) (n c : Nat) (L : List Op8) (w : World) (hS : HasRows w) (hL : OpsSl w x L) (hn : L.length = n) (hl : n ≤ 100) (hnc : n ≤ c) (hN : ∀ o ∈ L, 0 ≤ o.N ∧ o.N < 4294967296) :
    Calls Tryd.prog 28 #[.slice x n c] w fun e w' => e = .returned (.bool (listV [] L)) ∧ Below w.heap.size w w' := by
  have hmm := @run_makeMap Tryd.prog
  have HS := Lib.hid hS
  have HL := Lib.hid hL
  have HN := Lib.hid hn
  have HB := Lib.hid hN
  obtain ⟨V, hV⟩ : ∃ V, V = listV [] L := ⟨_, rfl⟩
  rw [← hV]
  have HV := Lib.hid hV
  clear hS hL hn hN hV
  go_enter Tryd.func28, Tryd.ntmps28
  go_wp2_with fail
  go_loopw [13] (fun i wr => ∃ (k : Nat) (set : List Int) (D : DataW Unit) (q : Nat), k ≤ n ∧ i = .int .i64 k ∧ q ≤ 2 * k ∧ wr.ownsMap Tryd.prog 3 (plainElem Tryd.prog 3) w.heap.size q D ∧ MapSays D set ∧ listV set (L.drop k) = V ∧ Below w.heap.size w wr) (fun i _ => n - (intOf i).toNat)
  case atStart => exact ⟨0, [], _, 0, Nat.zero_le _, rfl, Nat.zero_le _, World.ownsMap_made _ _ _ _, mapSays_nil, HV.out.symm, (Below.refl _ _).alloc (Nat.le_refl _) _⟩
  case round =>
    obtain ⟨k, set, D, q, hk, rfl, hq, hown, hms, hv, hb⟩ := hrel
    have HOWN := Lib.hid hown
    have HMS := Lib.hid hms
    have Hv := Lib.hid hv
    have HBr := Lib.hid hb
    have HLr := Lib.hid (HL.out.below hb)
    clear hown hms hv hb
    by_cases hlt : k < n
    · have hlt' : k < L.length := by rw [HN.out]; exact hlt
      obtain ⟨b, o, rfl, hb, hc⟩ := HLr.out.resolve_left (by omega)
      obtain ⟨c0, c1, c2, c3, c4, c5, c6, c7⟩ := hc k hlt'
      have hdrop : L.drop k = L[k] :: L.drop (k + 1) := List.drop_eq_getElem_cons hlt'
      have hbn := HB.out _ (List.getElem_mem hlt')
      generalize L[k]'hlt' = p at c0 c1 c2 c3 c4 c5 c6 c7 hdrop hbn
      have HD := Lib.hid hdrop
      have HBN := Lib.hid hbn
      have wq : IntKind.i64.wrap ((k : Int) + 1) = (k : Int) + 1 := IntWalk.i64_in _ (by omega)
      have hbA := (Below.refl _ wr).alloc (Nat.le_refl _) (.cells #[.int .i64 p.K, .int .i64 p.t0, .int .i64 p.t1, .int .i64 p.f0, .int .i64 p.f1, .int .i64 p.f2, .int .i64 p.f3, .int .u32 p.N] 37)
      have hOA := opAt_new wr p.K p.t0 p.t1 p.f0 p.f1 p.f2 p.f3 p.N
      clear hc hdrop hbn
      have dlt : b ≠ wr.heap.size := by omega
      go_wp2_with fail
      generalize wr.alloc _ = w1 at hbA hOA ⊢
      have HB1 := Lib.hid hbA
      have HO1 := Lib.hid hOA
      clear hbA hOA c0 c1 c2 c3 c4 c5 c6 c7
      refine (right_any p.K p.t0 p.t1 p.f0 p.f1 p.f2 p.f3 p.N HBN.out.1 HBN.out.2 w1 ((HS.out.below HBr.out).below HB1.out)).mono ?_
      rintro e w2 ⟨rfl, hb2⟩
      have HB2 := Lib.hid (HB1.out.trans (hb2.mono HB1.out.size))
      have HO2 := Lib.hid (HO1.out.below hb2)
      clear hb2
      have hv := Hv.out
      rw [HD.out, listV] at hv
      cases hr : rightV p.K p.t0 p.t1 p.f0 p.f1 p.f2 p.f3 p.N
      · rw [hr, Bool.false_and] at hv
        have HVF := Lib.hid hv
        clear hv hr
        go_wp2_with fail
        go_ret
        exact ⟨by rw [← HVF.out]; rfl, HBr.out.trans (HB2.out.mono HBr.out.size)⟩
      rw [hr, Bool.true_and] at hv
      have HV2 := Lib.hid hv
      have HRG := Lib.hid (Tryd.opOk_regs hr)
      clear hv hr
      obtain ⟨c0, c1, c2, c3, c4, c5, c6, c7⟩ := HO2.out.cells
      go_wp2_with fail
      refine (uses_any p.K p.t0 p.t1 p.f0 p.f1 p.f2 p.f3 p.N w2).mono ?_
      rintro e w3 ⟨v3, rfl, hown3, hb3⟩
      obtain ⟨U, hU⟩ : ∃ U, U = regsOf [p.f0, p.f1, p.f2, p.f3] := ⟨_, rfl⟩
      have hlU : (regsOf [p.f0, p.f1, p.f2, p.f3]).length ≤ 4 := by have := List.length_filter_le (fun x : Int => x != -1) [p.f0, p.f1, p.f2, p.f3]; simpa using this
      have hUR := HRG.out.1
      have hv := HV2.out
      rw [← hU] at hown3 hlU hUR hv
      have HVU := Lib.hid hv
      have HUR := Lib.hid hUR
      obtain ⟨x3, c3', rfl, hc3, hf3⟩ := own_form hown3 rfl
      have HF3 := Lib.hid hf3
      have HB3 := Lib.hid (HB2.out.trans (hb3.mono HB2.out.size))
      have HO3 := Lib.hid (HO2.out.below hb3)
      have HOWN3 := Lib.hid (ownsMap_below HOWN.out HB3.out)
      clear hown3 hf3 hb3 hU hUR hv c0 c1 c2 c3 c4 c5 c6 c7
      go_wp2_with fail
      go_loopw [23] (fun i wz => ∃ j : Nat, j ≤ U.length ∧ i = .int .i64 j ∧ wz = w3 ∧ ∀ x ∈ U.take j, set.contains x = true) (fun i _ => U.length - (intOf i).toNat)
      case atStart => exact ⟨0, Nat.zero_le _, rfl, rfl, by simp⟩
      case round =>
        obtain ⟨j, hj, rfl, rfl, hall⟩ := hrel
        have HALL := Lib.hid hall
        clear hall
        by_cases hlj : j < U.length
        · obtain ⟨g, rfl, hg, hg2, hc⟩ := HF3.out (by omega)
          have y0 := hc j hlj
          have hst : U.take (j + 1) = U.take j ++ [U[j]] := List.take_succ_eq_append_getElem hlj
          have hmem := List.getElem_mem hlj
          generalize U[j]'hlj = Y at y0 hst hmem
          have Hst := Lib.hid hst
          have HMem := Lib.hid hmem
          have hyb := HUR.out Y hmem
          have hkey : keyOf Tryd.prog 3 (.int .i64 Y) = some (.int .i64 Y) := keyOf_int_mk Tryd.underlying3 (WalkArith.wf_i64 (by omega))
          have wq' : IntKind.i64.wrap ((j : Int) + 1) = (j : Int) + 1 := IntWalk.i64_in _ (by omega)
          clear hst hc hmem hyb
          cases hcon : set.contains Y
          · have HC0 := Lib.hid hcon
            clear hcon
            go_wp2_with (at_lookup; refine wpList_lookup_own_int _ rfl _ _ 80 rfl 3 3 .i64 law3 Tryd.underlying80 Tryd.underlying3 (zero3 _) w.heap.size q D rfl HOWN3.out _ _ rfl hkey ?_; intro cc hat hwc; obtain rfl : cc = 0 := (by rw [HMS.out.2 Y, HC0.out] at hat; simpa using hat.symm))
            go_ret
            have hv := HVU.out
            rw [List.all_eq_false.2 ⟨Y, HMem.out, by rw [HC0.out]; simp⟩, Bool.false_and] at hv
            exact ⟨by rw [← hv]; rfl, HBr.out.trans (HB3.out.mono HBr.out.size)⟩
          · have HC0 := Lib.hid hcon
            clear hcon
            go_wp2_with (at_lookup; refine wpList_lookup_own_int _ rfl _ _ 80 rfl 3 3 .i64 law3 Tryd.underlying80 Tryd.underlying3 (zero3 _) w.heap.size q D rfl HOWN3.out _ _ rfl hkey ?_; intro cc hat hwc; obtain rfl : cc = 1 := (by rw [HMS.out.2 Y, HC0.out] at hat; simpa using hat.symm))
            refine ⟨⟨j + 1, by omega, by simp, trivial, ?_⟩, by simp only [intOf]; omega⟩
            rw [Hst.out]
            intro x hx
            rcases List.mem_append.1 hx with hx | hx
            · exact HALL.out x hx
            · rw [List.mem_singleton.1 hx]; exact HC0.out
        · have hjq : j = U.length := by omega
          have hall := HALL.out
          rw [hjq, List.take_length] at hall
          have hv := HVU.out
          rw [List.all_eq_true.2 hall, Bool.true_and] at hv
          have HVT := Lib.hid hv
          clear hall hv
          obtain ⟨c0, c1, c2, c3, c4, c5, c6, c7⟩ := HO3.out.cells
          have HT3 := Lib.hid (HBr.out.trans (HB3.out.mono HBr.out.size))
          go_wp2_with fail
          refine (sets_any p.K p.t0 p.t1 p.f0 p.f1 p.f2 p.f3 p.N wr).mono ?_
          rintro e w4 ⟨v4, rfl, hown4, hb4⟩
          obtain ⟨T, hT⟩ : ∃ T, T = regsOf [p.t0, p.t1] := ⟨_, rfl⟩
          have hlT : (regsOf [p.t0, p.t1]).length ≤ 2 := by have := List.length_filter_le (fun x : Int => x != -1) [p.t0, p.t1]; simpa using this
          have hTR := HRG.out.2
          have hv := HVT.out
          rw [← hT] at hown4 hlT hTR hv
          have HVS := Lib.hid hv
          have HTR := Lib.hid hTR
          obtain ⟨x4, c4', rfl, hc4, hf4⟩ := own_form hown4 rfl
          have HF4 := Lib.hid hf4
          have HT4 := Lib.hid (HT3.out.trans (hb4.mono HT3.out.size))
          have hmlt := HOWN3.out.lt
          have HOWN4 := Lib.hid (ownsMap_below HOWN3.out hb4)
          clear hown4 hf4 hb4 hT hTR hv c0 c1 c2 c3 c4 c5 c6 c7
          go_wp2_with fail
          go_loopw [35] (fun i wz => ∃ (j : Nat) (set' : List Int) (D' : DataW Unit) (q' : Nat), j ≤ T.length ∧ i = .int .i64 j ∧ q' ≤ q + j ∧ wz.ownsMap Tryd.prog 3 (plainElem Tryd.prog 3) w.heap.size q' D' ∧ MapSays D' set' ∧ (match setsV set' (T.drop j) with | none => false | some s => listV s (L.drop (k + 1))) = V ∧ w4.grownBy wz (some w.heap.size)) (fun i _ => T.length - (intOf i).toNat)
          case atStart => exact ⟨0, set, D, q, Nat.zero_le _, rfl, Nat.le_refl _, HOWN4.out, HMS.out, HVS.out, ⟨rfl, rfl, rfl, Nat.le_refl _, fun _ _ _ => rfl⟩⟩
          case round =>
            obtain ⟨l, set', D', q', hl', rfl, hq', hown', hms', hv', hgz⟩ := hrel
            have HOZ := Lib.hid hown'
            have HMZ := Lib.hid hms'
            have HVZ := Lib.hid hv'
            have HGZ := Lib.hid hgz
            clear hown' hms' hv' hgz
            by_cases hll : l < T.length
            · obtain ⟨g, rfl, hg, hg2, hc⟩ := HF4.out (by omega)
              have hgb := HGZ.out.block g hg2 (by intro e; injection e with e; omega)
              have y0 := (World.cell?_of_block (a := ⟨g, l, none⟩) hgb).trans (hc l hll)
              have hdr : T.drop l = T[l] :: T.drop (l + 1) := List.drop_eq_getElem_cons hll
              have hmem := List.getElem_mem hll
              generalize T[l]'hll = Y at y0 hdr hmem
              have hyb := HTR.out Y hmem
              have hkey : keyOf Tryd.prog 3 (.int .i64 Y) = some (.int .i64 Y) := keyOf_int_mk Tryd.underlying3 (WalkArith.wf_i64 (by omega))
              have wq' : IntKind.i64.wrap ((l : Int) + 1) = (l : Int) + 1 := IntWalk.i64_in _ (by omega)
              have hvv := HVZ.out
              rw [hdr, setsV] at hvv
              clear hc hmem hyb hdr hgb
              cases hcon : set'.contains Y
              · rw [hcon] at hvv
                simp only [Bool.false_eq_true, if_false] at hvv
                have HVN := Lib.hid hvv
                have HC0 := Lib.hid hcon
                clear hcon hvv
                go_wp2_with (first
              | (at_lookup; refine wpList_lookup_own_int _ rfl _ _ 80 rfl 3 3 .i64 law3 Tryd.underlying80 Tryd.underlying3 (zero3 _) w.heap.size (q' + 1) _ rfl hownu _ _ rfl hkey ?_; intro cc hat hwc; obtain rfl : cc = 1 := (by rw [atKey_put_same HMZ.out.1 (by trivial)] at hat; simpa using hat.symm))
              | (at_lookup; refine wpList_lookup_own_int _ rfl _ _ 80 rfl 3 3 .i64 law3 Tryd.underlying80 Tryd.underlying3 (zero3 _) w.heap.size q' D' rfl HOZ.out _ _ rfl hkey ?_; intro cc hat hwc; obtain rfl : cc = 0 := (by rw [HMZ.out.2 Y, HC0.out] at hat; simpa using hat.symm))
              | (at_mapUpdate; refine wpList_mapUpdate_own _ rfl _ _ _ 80 rfl 3 3 law3 Tryd.underlying80 _ w.heap.size q' D' rfl HOZ.out (by unfold maxLen; omega) _ (.int .i64 1) _ rfl rfl hkey (.lit (.int .i64 1)) [] (plainElem_int Tryd.underlying3 (by decide)) ?_; intro wu hownu hgrowu))
                refine ⟨⟨l + 1, set' ++ [Y], _, q' + 1, by omega, by simp, by omega, hownu, HMZ.out.put Y, HVN.out, ?_⟩, by simp only [intOf]; omega⟩
                exact grown_trans HGZ.out hgrowu
              · rw [hcon] at hvv
                simp only [if_true] at hvv
                have HVN := Lib.hid hvv
                have HC0 := Lib.hid hcon
                clear hcon hvv
                go_wp2_with (first
              | (at_lookup; refine wpList_lookup_own_int _ rfl _ _ 80 rfl 3 3 .i64 law3 Tryd.underlying80 Tryd.underlying3 (zero3 _) w.heap.size (q' + 1) _ rfl hownu _ _ rfl hkey ?_; intro cc hat hwc; obtain rfl : cc = 2 := (by rw [atKey_put_same HMZ.out.1 (by trivial)] at hat; simpa using hat.symm))
              | (at_lookup; refine wpList_lookup_own_int _ rfl _ _ 80 rfl 3 3 .i64 law3 Tryd.underlying80 Tryd.underlying3 (zero3 _) w.heap.size q' D' rfl HOZ.out _ _ rfl hkey ?_; intro cc hat hwc; obtain rfl : cc = 1 := (by rw [HMZ.out.2 Y, HC0.out] at hat; simpa using hat.symm))
              | (at_mapUpdate; refine wpList_mapUpdate_own _ rfl _ _ _ 80 rfl 3 3 law3 Tryd.underlying80 _ w.heap.size q' D' rfl HOZ.out (by unfold maxLen; omega) _ (.int .i64 2) _ rfl rfl hkey (.lit (.int .i64 2)) [] (plainElem_int Tryd.underlying3 (by decide)) ?_; intro wu hownu hgrowu))
                go_ret
                refine ⟨by rw [← HVN.out]; rfl, ?_⟩
                exact HT4.out.grown (grown_trans HGZ.out hgrowu) HT4.out.size (fun b e => by injection e with e; omega)
            · have hlq : l = T.length := by omega
              have hv := HVZ.out
              rw [hlq, List.drop_length, setsV] at hv
              have HVE := Lib.hid hv
              clear hv
              go_wp2_with fail
              refine ⟨⟨k + 1, set', D', q', by omega, by simp, by omega, HOZ.out, HMZ.out, HVE.out, ?_⟩, by simp only [intOf]; omega⟩
              exact HT4.out.grown HGZ.out HT4.out.size (fun b e => by injection e with e; omega)
    · have hkn : k = n := by omega
      have hv := Hv.out
      rw [hkn, ← HN.out, List.drop_length, listV] at hv
      have HVV := Lib.hid hv
      clear hv
      go_wp2_with fail
      go_ret
      exact ⟨by rw [← HVV.out]; rfl, HBr.out⟩
end Go.Proofs.YtmkencdkglbpbaaDoor
