/- alloc: spill, the walk. -/
import Derived.Test.YtmkencdkglbpbaaDoorAlE
import Derived.Deep.DeepCutAuto
import Derived.Deep.RegionLaw
set_option maxRecDepth 100000
set_option linter.unusedVariables false
namespace Go.Proofs.YtmkencdkglbpbaaDoor
open Go.RowKit Go.Maps

/-- The allocator's books, whole. -/
def AlX (c : AC) (w : World) (Pn : List Int) (N : Nat) (s : AS) : Prop := ∃ vp vt vo q D, AlIn c w vp vt vo Pn q D N s ∧ SlotSays D s.T

theorem taken_index {c : AC} {w : World} {vp vt vo : Value} {Pn : List Int} {q : Nat} {D : DataW Unit} {N : Nat} {s : AS} (h : AlIn c w vp vt vo Pn q D N s) (v : Int) :
    Calls Tryd.prog 74 #[vt, .int .i64 v] w fun e w' => e = .returned (.int .i64 (idxV s.T v 0)) ∧ w' = w := by
  obtain ⟨x, cc, rfl, hcc, hL, _⟩ := h.taken
  exact index_sl x s.T.length cc s.T v w hL rfl (by have := h.tn; have := h.n; omega)

theorem idxV_ge : ∀ (T : List Int) (u : Int) (k : Nat), idxV T u k = -1 ∨ (k : Int) ≤ idxV T u k
  | [], _, _ => .inl rfl
  | x :: T, u, k => by
    rw [idxV]
    split
    · exact .inr (Int.le_refl _)
    · rcases idxV_ge T u (k + 1) with h | h
      · exact .inl h
      · exact .inr (by push_cast at h; omega)
theorem idxV_at : ∀ (T : List Int) (u : Int) (k i : Nat) (hi : i < T.length), idxV T u k = (k : Int) + i → T[i] = u
  | x :: T, u, k, i, hi, h => by
    rw [idxV] at h
    split at h
    · rename_i e
      have : i = 0 := by omega
      subst this
      exact e.symm
    · have hb := idxV_bd T u (k + 1)
      match i, hi with
      | 0, hi => push_cast at hb; have := idxV_ge T u (k + 1); omega
      | i + 1, hi =>
        have := idxV_at T u (k + 1) i (by simpa using hi) (by rw [h]; push_cast; omega)
        simpa using this
set_option maxHeartbeats 4000000 in
theorem spill_any {c : AC} (H : ACok c) {w : World} {Pn : List Int} {N : Nat} {s : AS} (h : AlX c w Pn N s) (hN : N + 2 ≤ 10000) (v : Int) (hv : 0 ≤ v ∧ v ≤ 65535) :
    Calls Tryd.prog 70 #[.pointer (some ⟨c.ab, 0, none⟩), .int .i64 v] w fun e w' => (∃ r, e = .returned (.int .i64 r)) ∧ AlX c w' Pn (N + 2) (spillF c.base s v) := by
  obtain ⟨i0, hi, hz0, hz1, hz2⟩ := info_parts Tryd.infoInt
  obtain ⟨vp, vt, vo, q, D, h, hS⟩ := h
  obtain ⟨S1, hS1⟩ : ∃ S1, S1 = spillF c.base s v := ⟨_, rfl⟩
  rw [← hS1]
  obtain ⟨c0, c1, c2, c3, c12, c13, c14, c15, c16, c17⟩ := h.cells
  have hkey : keyOf Tryd.prog 3 (.int .i64 v) = some (.int .i64 v) := keyOf_int_mk Tryd.underlying3 (WalkArith.wf_i64 (by omega))
  have hls := h.lt
  have HI := Lib.hid (taken_index h (-1))
  have hhas := (hS.2 v hv.1 hv.2).1
  have HM := Lib.hid h.map
  have HA := Lib.hid h
  have HH := Lib.hid H
  have HS := Lib.hid hS
  have HS1 := Lib.hid hS1
  clear hS1 h H hS
  cases hcon : s.T.contains v
  · rw [hcon] at hhas
    have HC := Lib.hid hcon
    have hJ := idxV_bd s.T (-1) 0
    obtain ⟨J, HJ'⟩ : ∃ J, J = idxV s.T (-1) 0 := ⟨_, rfl⟩
    rw [← HJ'] at hJ HI
    have HJ := Lib.hid HJ'
    have HJb := Lib.hid hJ
    have hTn := HA.out.tn
    clear HJ' hcon hJ
    obtain ⟨xt, ct, rfl, hct, hLt, hot⟩ := HA.out.taken
    have HLt := Lib.hid hLt
    have HOt := Lib.hid hot
    clear hLt hot
    go_enter Tryd.func70, Tryd.ntmps70
    go_wp2_with (at_lookup; refine wpList_lookup_own_ok_int _ rfl _ _ 80 rfl 3 3 .i64 law3 Tryd.underlying80 Tryd.underlying3 (zero3 _) c.mb q D rfl HM.out _ _ rfl hkey ?_; intro cc hat hwc; rw [hhas])
    refine HI.out.mono ?_
    rintro e w2 ⟨rfl, rfl⟩
    go_upto_if 25 with fail
    obtain ⟨T1, hT1⟩ : ∃ T1, T1 = (if J < 0 then s.T ++ [-1] else s.T) := ⟨_, rfl⟩
    have HT1 := Lib.hid hT1
    obtain ⟨K, hK⟩ : ∃ K : Nat, (K : Int) = (if J < 0 then (s.T.length : Int) else J) := by
      split
      · exact ⟨s.T.length, rfl⟩
      · exact ⟨J.toNat, by omega⟩
    have HK := Lib.hid hK
    clear hK hT1
    go_cut [7] (fun j wx => ∃ vt', j = .int .i64 K ∧ AlIn c wx vp vt' vo Pn q D (N + 1) { s with T := T1 })
    case first =>
      by_cases hlt : J < 0
      · have hk := HK.out
        have ht := HT1.out
        rw [if_pos hlt] at hk ht
        have HK2 := Lib.hid hk
        have HT2 := Lib.hid ht
        clear hk ht
        go_wp2_with (at_builtin; refine wpList_append_own_at _ rfl (.tmp 35) (.tmp 36) 41 rfl c.B 3 i0 (.int .i64 0) 1 8 Tryd.underlying41 hi hz0 hz1 hz2 rfl (by decide) _ _ _ rfl (HA.out.rt.alloc _) ⟨w2.heap.size, 0, none⟩ 1 1 [.int .i64 (-1)] rfl rfl (i_new _ _ (-1) rfl) (i_one _) (by unfold maxLen; omega) (by omega) (by have := HA.out.fr.size; simp; omega) ?_)
        all_goals first | (exfalso; omega) | skip
        intro v' w3 hown3 hgrow3 _ hat3
        obtain ⟨sx, sc, rfl, hsc⟩ := own_slice hown3
        have gg : w2.grownBy w3 (Value.slice xt s.T.length ct).ownBlock := grown_trans (World.grownBy_alloc w2 _ _) hgrow3
        have hab : some c.ab ≠ (Value.slice xt s.T.length ct).ownBlock := fun e => by have := (HA.out.rt.lt _ e.symm).1; have := HH.out.ab; omega
        have f13 : w3.frozen? ⟨c.ab, 13, none⟩ = false := (World.frozen?_of_block (a := ⟨c.ab, 13, none⟩) (gg.block _ hls hab)).trans (HA.out.frozen 13)
        have d13 : w3.cell? ⟨c.ab, 13, none⟩ = some (.slice xt s.T.length ct) := gg.cell c13 hab
        have hfin : AlIn c (w3.setCell ⟨c.ab, 13, none⟩ (.slice sx (s.T.length + 1) sc)) vp (.slice sx (s.T.length + 1) sc) vo Pn q D (N + 1) { s with T := T1 } := by
          rw [HT2.out]
          refine (HA.out.mono (Nat.le_succ N) (by omega)).setT HH.out gg (by rw [List.length_append, iCells, List.map_append]; exact hown3) ?_ ?_ (by simp; omega)
          · rcases hat3 with h | h
            · exact .inl h
            · exact .inr ⟨_, h, by simp⟩
          · intro x hx
            rcases List.mem_append.1 hx with hx | hx
            · exact HA.out.tb x hx
            · simp at hx; omega
        have HF := Lib.hid hfin
        clear hfin hown3 hgrow3 hat3 gg hab
        go_wp2_with fail
        go_meet
        exact ⟨_, by rw [HK2.out], HF.out⟩
      · have hk := HK.out
        have ht := HT1.out
        rw [if_neg hlt] at hk ht
        have HK2 := Lib.hid hk
        have HT2 := Lib.hid ht
        clear hk ht
        go_wp2_with fail
        all_goals first | (exfalso; omega) | skip
        go_meet
        exact ⟨_, by rw [HK2.out], by rw [HT2.out]; exact HA.out.mono (Nat.le_succ N) (by omega)⟩
    case rest =>
      obtain ⟨vt', rfl, hA1⟩ := hcut
      have hKl : K < T1.length := by
        rw [HT1.out]
        have h1 := HK.out
        have h2 := HJb.out
        split at h1 <;> rename_i hc
        · rw [if_pos hc]; simp; omega
        · rw [if_neg hc]; omega
      obtain ⟨d0, d1, d2, d3, d12, d13, d14, d15, d16, d17⟩ := hA1.cells
      have e13 := hA1.frozen 13
      have hT1n : T1.length ≤ N + 1 := hA1.tn
      obtain ⟨x1, cc1, rfl, hcc1, hL1, hx1⟩ := hA1.taken
      rcases hL1 with h0 | ⟨g, rfl, hI⟩
      · have h0 : T1 = [] := h0
        rw [h0] at hKl; simp at hKl
      have hgl := hI.1
      have g0 := hI.2 K hKl
      rw [Nat.zero_add] at g0
      have gf : wc.frozen? ⟨g, K, none⟩ = false := by
        obtain ⟨g', cap, cur, hv, _, hh, _⟩ := hA1.rt.2.resolve_left (fun h => by have := h.1; simp at this)
        injection hv with hv _ _
        injection hv with hv
        injection hv with hv _ _
        subst hv
        simp [World.frozen?, hh]
      have hgB := (hA1.rt.lt g rfl).1
      have hga : c.ab ≠ g := by have := HH.out.ab; omega
      have hgm : c.mb ≠ g := by have := HH.out.mb; omega
      have hA2 := hA1.putT HH.out (g := g) rfl K hKl v ⟨by omega, hv.2⟩
      have hKn : (K : Int) < (T1.length : Int) := by omega
      obtain ⟨v0, st, w4, w5, hE4, hE5, hm5, hg5⟩ := own_entry (P := Tryd.prog) (t := 80) (k := 3) (e := 3) (R := plainElem Tryd.prog 3) (D := D) (n := q) (hA2.map.drew) law3 Tryd.underlying80 (z := .int .i64 0) (fun u => zero3 u) (by have := hA2.qn; have := hA2.n; unfold maxLen; omega) hkey (.int .i64 K) (.lit (.int .i64 K)) [] (plainElem_int Tryd.underlying3 (WalkArith.wf_i64 (by omega)))
      have HA1 := Lib.hid hA1
      have HA2 := Lib.hid hA2
      have HM5 := Lib.hid hm5
      have HG5 := Lib.hid hg5
      clear hA1 c0 c1 c2 c3 c12 c13 c14 c15 c16 c17 hA2 hm5 hg5 hI hx1
      have hfin : ∃ vt' D', AlIn c w5 vp vt' vo Pn (q + 1) D' (N + 1) { s with T := T1.set K v } ∧ SlotSays D' (T1.set K v) := by
        refine ⟨_, _, (HA2.out.below ((Below.refl _ _).drew)).setD HH.out HM5.out HG5.out (by have := HA.out.qn; omega), ?_⟩
        have hs1 : SlotSays D T1 := by
          rw [HT1.out]; split
          · exact HS.out.grow
          · exact HS.out
        have hvm : v ∉ s.T := fun h => by have := HC.out; rw [List.contains_iff_mem.2 h] at this; simp at this
        refine hs1.put v K hKl ?_ ?_ hv.1
        · have h1 := HK.out
          have h2 := HT1.out
          by_cases hJ0 : J < 0
          · rw [if_pos hJ0] at h1 h2
            subst h2
            have : K = s.T.length := by omega
            subst this
            simp
          · rw [if_neg hJ0] at h1 h2
            subst h2
            have hj := HJ.out
            exact idxV_at s.T (-1) 0 K hKl (by rw [← hj]; omega)
        · rw [HT1.out]; split
          · simp [hvm]; omega
          · exact hvm
      have HFin := Lib.hid hfin
      clear hfin
      go_upto_region 8 with fail
      go_cut [7] (fun j wx => j = .int .i64 K ∧ ∃ vt' D', AlIn c wx vp vt' vo Pn (q + 1) D' (N + 1) { s with T := T1.set K v } ∧ SlotSays D' (T1.set K v))
      case first =>
        go_region_law (fail)
        all_goals
          go_wp2_with fail
          go_meet
          exact ⟨rfl, HFin.out⟩
      case rest =>
        obtain ⟨rfl, vt2, D2, hA3, hS3⟩ := hcut
        have hsl : slotOf s = K := by
          have h1 := HK.out
          unfold slotOf
          rw [← HJ.out]
          exact h1.symm
        have hS1v : ∀ X, X = (if c.base + 4 * (K : Int) > 1020 then (160 : Int) else s.e) → S1 = { s with T := T1.set K v, slots := max s.slots ((K : Int) + 1), e := X, out := s.out ++ [⟨3, -1, -1, idxV s.G v 0, -1, -1, -1, c.base + 4 * K⟩] } := by
          intro X hX
          have hT := HT1.out
          rw [HJ.out] at hT
          rw [HS1.out, spillF, HC.out, if_neg (by simp), hsl, hX, ← hT, Int.toNat_natCast]
        have HS1v := Lib.hid hS1v
        have hsb := hA3.sl
        have hbase := HH.out.base
        have hKb : K ≤ 10000 := by omega
        have hmax : 0 ≤ max s.slots ((K : Int) + 1) ∧ max s.slots ((K : Int) + 1) ≤ (N + 1 : Nat) := by
          have : s.slots ≤ (N + 1 : Nat) := hsb.2
          have : 0 ≤ s.slots := hsb.1
          omega
        have hA4 := hA3.setSlots HH.out (max s.slots ((K : Int) + 1)) hmax
        have w1 : IntKind.i64.wrap ((K : Int) + 1) = (K : Int) + 1 := IntWalk.i64_in _ (by omega)
        have w2' : IntKind.i64.wrap (4 * (K : Int)) = 4 * (K : Int) := IntWalk.i64_in _ (by omega)
        have w3 : IntKind.i64.wrap (c.base + 4 * (K : Int)) = c.base + 4 * (K : Int) := IntWalk.i64_in _ (by omega)
        obtain ⟨c0, c1, c2, c3, c12, c13, c14, c15, c16, c17⟩ := hA3.cells
        have f16 := hA3.frozen 16
        have f17 := hA3.frozen 17
        have hlc := hA3.lt
        have HA4 := Lib.hid hA4
        have HS3 := Lib.hid hS3
        have HG := Lib.hid hA3.regs
        have HG8 := Lib.hid hA3.g8
        clear hS1v hsl hmax hA3 hA4 hS3 d0 d1 d2 d3 d12 d13 d14 d15 d16 d17 HFin hE4 hE5
        go_upto_region 9 with fail
        go_cut [7] (fun j wx => j = .int .i64 K ∧ AlIn c wx vp vt2 vo Pn (q + 1) D2 (N + 1) { s with T := T1.set K v, slots := max s.slots ((K : Int) + 1) })
        case first =>
          go_wp2_with fail
          · rename_i hm
            go_meet
            refine ⟨rfl, ?_⟩
            have := HA4.out
            rw [show max s.slots ((K : Int) + 1) = (K : Int) + 1 from by omega] at this ⊢
            exact this
          · rename_i hm
            go_meet
            refine ⟨rfl, ?_⟩
            have := HA4.out
            rw [show max s.slots ((K : Int) + 1) = s.slots from by omega] at this ⊢
            exact this
        case rest =>
          obtain ⟨rfl, hA5⟩ := hcut
          obtain ⟨c0, c1, c2, c3, c12, c13, c14, c15, c16, c17⟩ := hA5.cells
          have f17 := hA5.frozen 17
          have hlc := hA5.lt
          have HA5 := Lib.hid hA5
          clear hA5
          go_upto_if 74 with fail
          obtain ⟨X, hX⟩ : ∃ X, X = (if c.base + 4 * (K : Int) > 1020 then (160 : Int) else s.e) := ⟨_, rfl⟩
          have HS2 := Lib.hid (HS1v.out X hX)
          have HX := Lib.hid hX
          clear hX
          go_cut [7] (fun j wx => j = .int .i64 K ∧ AlIn c wx vp vt2 vo Pn (q + 1) D2 (N + 1) { s with T := T1.set K v, slots := max s.slots ((K : Int) + 1), e := X })
          case first =>
            go_wp2_with fail
            · rename_i hm
              go_meet
              refine ⟨rfl, ?_⟩
              have := HA5.out.setE HH.out 160
              rw [HX.out, if_pos (by omega)]
              exact this
            · rename_i hm
              go_meet
              refine ⟨rfl, ?_⟩
              have := HA5.out
              rw [HX.out, if_neg (by omega)]
              exact this
          case rest =>
            obtain ⟨rfl, hA6⟩ := hcut
            obtain ⟨c0, c1, c2, c3, c12, c13, c14, c15, c16, c17⟩ := hA6.cells
            have hlc := hA6.lt
            have HA6 := Lib.hid hA6
            have HG := Lib.hid hA6.regs
            clear hA6
            go_wp2_with fail
            refine (offset_any c.ab c.base K _ c1 hbase ⟨by omega, by omega⟩).mono ?_
            rintro e wo ⟨rfl, rfl⟩
            go_wp2_with fail
            refine (where_any c.ab s.G v wo HG.out HG8.out).mono ?_
            rintro e wp ⟨rfl, rfl⟩
            go_wp2_with fail
            refine (make_any 3 (c.base + 4 * (K : Int)) none _ 0 0 1 1 [] [idxV s.G v 0] _ (.inl rfl) (.inr ⟨wp.heap.size, rfl, by simp, fun i hi => ?_⟩) rfl rfl (by omega) (by omega) (by simp) (by intro g hg; injection hg with hg; injection hg with hg _ _; subst hg; simp)).mono ?_
            · match i, hi with
              | 0, _ => rw [World.cell?_alloc_at _ _ _ _ rfl]; rfl
            rintro e wq ⟨rfl, hbq⟩
            have hA7 := (HA6.out.below ((Below.refl _ wp).alloc (Nat.le_refl _) (.cells #[.int .i64 (idxV s.G v 0)] 3))).below hbq
            go_wp2_with fail
            refine (add_any HH.out hA7 ⟨3, -1, -1, idxV s.G v 0, -1, -1, -1, c.base + 4 * K⟩ (by omega)).mono ?_
            rintro e wr ⟨rfl, vo', hA8⟩
            have HA8 := Lib.hid hA8
            clear hA7 hA8 hbq
            go_wp2_with fail
            go_ret
            refine ⟨⟨_, rfl⟩, vp, vt2, vo', q + 1, D2, ?_, ?_⟩
            · rw [HS2.out]; exact HA8.out
            · rw [HS2.out]; exact HS3.out
  · go_enter Tryd.func70, Tryd.ntmps70
    have HC := Lib.hid hcon
    rw [hcon] at hhas
    clear hcon
    go_wp2_with (at_lookup; refine wpList_lookup_own_ok_int _ rfl _ _ 80 rfl 3 3 .i64 law3 Tryd.underlying80 Tryd.underlying3 (zero3 _) c.mb q D rfl HM.out _ _ rfl hkey ?_; intro cc hat hwc; rw [hhas])
    go_ret
    refine ⟨⟨_, rfl⟩, vp, vt, vo, q, D, ?_, ?_⟩
    · rw [HS1.out, spillF, if_pos HC.out]; exact HA.out.mono (by omega) hN
    · rw [HS1.out, spillF, if_pos HC.out]; exact HS.out
end Go.Proofs.YtmkencdkglbpbaaDoor
