/- alloc: spill, the walk. -/
import Derived.Test.YtmkencdkglbpbaaDoorAlE
import Derived.Deep.DeepCutAuto
import Derived.Deep.RegionLaw
set_option maxRecDepth 100000
set_option linter.unusedVariables false
namespace Go.Proofs.YtmkencdkglbpbaaDoor
open Go.RowKit Go.Maps

/-- The allocator's books, whole. -/
def AlX (c : AC) (w : World) (Pn : List Int) (N : Nat) (s : AS) : Prop := ∃ vp vt vo q D, AlIn c w vp vt vo Pn q D N s ∧ SlotSays D s.T

theorem taken_index {c : AC} {w : World} {vp vt vo : Value} {Pn : List Int} {q : Nat} {D : DataW Unit} {N : Nat} {s : AS} (h : AlIn c w vp vt vo Pn q D N s) (v : Int) :
    Calls Tryd.prog 74 #[vt, .int .i64 v] w fun e w' => e = .returned (.int .i64 (idxV s.T v 0)) ∧ w' = w := by
  obtain ⟨x, cc, rfl, hcc, hL, _⟩ := h.taken
  exact index_sl x s.T.length cc s.T v w hL rfl (by have := h.tn; have := h.n; omega)

theorem idxV_ge : ∀ (T : List Int) (u : Int) (k : Nat), idxV T u k = -1 ∨ (k : Int) ≤ idxV T u k
  | [], _, _ => .inl rfl
  | x :: T, u, k => by
    rw [idxV]
    split
    · exact .inr (Int.le_refl _)
    · rcases idxV_ge T u (k + 1) with h | h
      · exact .inl h
      · exact .inr (by push_cast at h; omega)
theorem idxV_at : ∀ (T : List Int) (u : Int) (k i : Nat) (hi : i < T.length), idxV T u k = (k : Int) + i → T[i] = u
  | x :: T, u, k, i, hi, h => by
    rw [idxV] at h
    split at h
    · rename_i e
      have : i = 0 := by omega
      subst this
      exact e.symm
    · have hb := idxV_bd T u (k + 1)
      match i, hi with
      | 0, hi => push_cast at hb; have := idxV_ge T u (k + 1); omega
      | i + 1, hi =>
        have := idxV_at T u (k + 1) i (by simpa using hi) (by rw [h]; push_cast; omega)
        simpa using this
set_option maxHeartbeats 4000000 in
theorem spill_any {c : AC} (H : ACok c) {w : World} {Pn : List Int} {N : Nat} {s : AS} (h : AlX c w Pn N s) (hN : N + 2 ≤ 10000) (v : Int) (hv : 0 ≤ v ∧ v ≤ 65535) :
    Calls Tryd.prog 70 #[.pointer (some ⟨c.ab, 0, none⟩), .int .i64 v] w fun e w' => (∃ r, e = .returned (.int .i64 r)) ∧ AlX c w' Pn (N + 2) (spillF c.base s v) := by
  obtain ⟨i0, hi, hz0, hz1, hz2⟩ := info_parts Tryd.infoInt
  obtain ⟨vp, vt, vo, q, D, h, hS⟩ := h
  obtain ⟨S1, hS1⟩ : ∃ S1, S1 = spillF c.base s v := ⟨_, rfl⟩
  rw [← hS1]
  obtain ⟨c0, c1, c2, c3, c12, c13, c14, c15, c16, c17⟩ := h.cells
  have hkey : keyOf Tryd.prog 3 (.int .i64 v) = some (.int .i64 v) := keyOf_int_mk Tryd.underlying3 (WalkArith.wf_i64 (by omega))
  have hls := h.lt
  have HI := Lib.hid (taken_index h (-1))
  have hhas := (hS.2 v hv.1 hv.2).1
  have HM := Lib.hid h.map
  have HA := Lib.hid h
  have HH := Lib.hid H
  have HS := Lib.hid hS
  have HS1 := Lib.hid hS1
  clear hS1 h H hS
  cases hcon : s.T.contains v
  · rw [hcon] at hhas
    have HC := Lib.hid hcon
    have hJ := idxV_bd s.T (-1) 0
    obtain ⟨J, HJ'⟩ : ∃ J, J = idxV s.T (-1) 0 := ⟨_, rfl⟩
    rw [← HJ'] at hJ HI
    have HJ := Lib.hid HJ'
    have HJb := Lib.hid hJ
    have hTn := HA.out.tn
    clear HJ' hcon hJ
    obtain ⟨xt, ct, rfl, hct, hLt, hot⟩ := HA.out.taken
    have HLt := Lib.hid hLt
    have HOt := Lib.hid hot
    clear hLt hot
    go_enter Tryd.func70, Tryd.ntmps70
    go_wp2_with (at_lookup; refine wpList_lookup_own_ok_int _ rfl _ _ 80 rfl 3 3 .i64 law3 Tryd.underlying80 Tryd.underlying3 (zero3 _) c.mb q D rfl HM.out _ _ rfl hkey ?_; intro cc hat hwc; rw [hhas])
    refine HI.out.mono ?_
    rintro e w2 ⟨rfl, rfl⟩
    go_upto_if 25 with fail
    obtain ⟨T1, hT1⟩ : ∃ T1, T1 = (if J < 0 then s.T ++ [-1] else s.T) := ⟨_, rfl⟩
    have HT1 := Lib.hid hT1
    obtain ⟨K, hK⟩ : ∃ K : Nat, (K : Int) = (if J < 0 then (s.T.length : Int) else J) := by
      split
      · exact ⟨s.T.length, rfl⟩
      · exact ⟨J.toNat, by omega⟩
    have HK := Lib.hid hK
    clear hK hT1
    go_cut [7] (fun j wx => ∃ vt', j = .int .i64 K ∧ AlIn c wx vp vt' vo Pn q D (N + 1) { s with T := T1 })
    case first =>
      by_cases hlt : J < 0
      · have hk := HK.out
        have ht := HT1.out
        rw [if_pos hlt] at hk ht
        have HK2 := Lib.hid hk
        have HT2 := Lib.hid ht
        clear hk ht
        go_wp2_with (at_builtin; refine wpList_append_own_at _ rfl (.tmp 35) (.tmp 36) 41 rfl c.B 3 i0 (.int .i64 0) 1 8 Tryd.underlying41 hi hz0 hz1 hz2 rfl (by decide) _ _ _ rfl (HA.out.rt.alloc _) ⟨w2.heap.size, 0, none⟩ 1 1 [.int .i64 (-1)] rfl rfl (i_new _ _ (-1) rfl) (i_one _) (by unfold maxLen; omega) (by omega) (by have := HA.out.fr.size; simp; omega) ?_)
        all_goals first | (exfalso; omega) | skip
        intro v' w3 hown3 hgrow3 _ hat3
        obtain ⟨sx, sc, rfl, hsc⟩ := own_slice hown3
        have gg : w2.grownBy w3 (Value.slice xt s.T.length ct).ownBlock := grown_trans (World.grownBy_alloc w2 _ _) hgrow3
        have hab : some c.ab ≠ (Value.slice xt s.T.length ct).ownBlock := fun e => by have := (HA.out.rt.lt _ e.symm).1; have := HH.out.ab; omega
        have f13 : w3.frozen? ⟨c.ab, 13, none⟩ = false := (World.frozen?_of_block (a := ⟨c.ab, 13, none⟩) (gg.block _ hls hab)).trans (HA.out.frozen 13)
        have d13 : w3.cell? ⟨c.ab, 13, none⟩ = some (.slice xt s.T.length ct) := gg.cell c13 hab
        have hfin : AlIn c (w3.setCell ⟨c.ab, 13, none⟩ (.slice sx (s.T.length + 1) sc)) vp (.slice sx (s.T.length + 1) sc) vo Pn q D (N + 1) { s with T := T1 } := by
          rw [HT2.out]
          refine (HA.out.mono (Nat.le_succ N) (by omega)).setT HH.out gg (by rw [List.length_append, iCells, List.map_append]; exact hown3) ?_ ?_ (by simp; omega)
          · rcases hat3 with h | h
            · exact .inl h
            · exact .inr ⟨_, h, by simp⟩
          · intro x hx
            rcases List.mem_append.1 hx with hx | hx
            · exact HA.out.tb x hx
            · simp at hx; omega
        have HF := Lib.hid hfin
        clear hfin hown3 hgrow3 hat3 gg hab
        go_wp2_with fail
        go_meet
        exact ⟨_, by rw [HK2.out], HF.out⟩
      · have hk := HK.out
        have ht := HT1.out
        rw [if_neg hlt] at hk ht
        have HK2 := Lib.hid hk
        have HT2 := Lib.hid ht
        clear hk ht
        go_wp2_with fail
        all_goals first | (exfalso; omega) | skip
        go_meet
        exact ⟨_, by rw [HK2.out], by rw [HT2.out]; exact HA.out.mono (Nat.le_succ N) (by omega)⟩
    case rest =>
      obtain ⟨vt', rfl, hA1⟩ := hcut
      have hKl : K < T1.length := by
        rw [HT1.out]
        have h1 := HK.out
        have h2 := HJb.out
        split at h1 <;> rename_i hc
        · rw [if_pos hc]; simp; omega
        · rw [if_neg hc]; omega
      obtain ⟨d0, d1, d2, d3, d12, d13, d14, d15, d16, d17⟩ := hA1.cells
      have e13 := hA1.frozen 13
      have hT1n : T1.length ≤ N + 1 := hA1.tn
      obtain ⟨x1, cc1, rfl, hcc1, hL1, hx1⟩ := hA1.taken
      rcases hL1 with h0 | ⟨g, rfl, hI⟩
      · have h0 : T1 = [] := h0
        rw [h0] at hKl; simp at hKl
      have hgl := hI.1
      have g0 := hI.2 K hKl
      rw [Nat.zero_add] at g0
      have gf : wc.frozen? ⟨g, K, none⟩ = false := by
        obtain ⟨g', cap, cur, hv, _, hh, _⟩ := hA1.rt.2.resolve_left (fun h => by have := h.1; simp at this)
        injection hv with hv _ _
        injection hv with hv
        injection hv with hv _ _
        subst hv
        simp [World.frozen?, hh]
      have hgB := (hA1.rt.lt g rfl).1
      have hga : c.ab ≠ g := by have := HH.out.ab; omega
      have hgm : c.mb ≠ g := by have := HH.out.mb; omega
      have hA2 := hA1.putT HH.out (g := g) rfl K hKl v ⟨by omega, hv.2⟩
      have hKn : (K : Int) < (T1.length : Int) := by omega
      obtain ⟨v0, st, w4, w5, hE4, hE5, hm5, hg5⟩ := own_entry (P := Tryd.prog) (t := 80) (k := 3) (e := 3) (R := plainElem Tryd.prog 3) (D := D) (n := q) (hA2.map.drew) law3 Tryd.underlying80 (z := .int .i64 0) (fun u => zero3 u) (by have := hA2.qn; have := hA2.n; unfold maxLen; omega) hkey (.int .i64 K) (.lit (.int .i64 K)) [] (plainElem_int Tryd.underlying3 (WalkArith.wf_i64 (by omega)))
      have HA1 := Lib.hid hA1
      have HA2 := Lib.hid hA2
      have HM5 := Lib.hid hm5
      have HG5 := Lib.hid hg5
      clear hA1 c0 c1 c2 c3 c12 c13 c14 c15 c16 c17 hA2 hm5 hg5 hI hx1
      have hfin : ∃ vt' D', AlIn c w5 vp vt' vo Pn (q + 1) D' (N + 1) { s with T := T1.set K v } ∧ SlotSays D' (T1.set K v) := by
        refine ⟨_, _, (HA2.out.below ((Below.refl _ _).drew)).setD HH.out HM5.out HG5.out (by have := HA.out.qn; omega), ?_⟩
        have hs1 : SlotSays D T1 := by
          rw [HT1.out]; split
          · exact HS.out.grow
          · exact HS.out
        have hvm : v ∉ s.T := fun h => by have := HC.out; rw [List.contains_iff_mem.2 h] at this; simp at this
        refine hs1.put v K hKl ?_ ?_ hv.1
        · have h1 := HK.out
          have h2 := HT1.out
          by_cases hJ0 : J < 0
          · rw [if_pos hJ0] at h1 h2
            subst h2
            have : K = s.T.length := by omega
            subst this
            simp
          · rw [if_neg hJ0] at h1 h2
            subst h2
            have hj := HJ.out
            exact idxV_at s.T (-1) 0 K hKl (by rw [← hj]; omega)
        · rw [HT1.out]; split
          · simp [hvm]; omega
          · exact hvm
      have HFin := Lib.hid hfin
      clear hfin
      go_upto_region 8 with fail
      go_cut [7] (fun j wx => j = .int .i64 K ∧ ∃ vt' D', AlIn c wx vp vt' vo Pn (q + 1) D' (N + 1) { s with T := T1.set K v } ∧ SlotSays D' (T1.set K v))
      case first =>
        go_region_law (fail)
        all_goals
          go_wp2_with fail
          go_meet
          exact ⟨rfl, HFin.out⟩
      case rest =>
        obtain ⟨rfl, vt2, D2, hA3, hS3⟩ := hcut
        have hsl : slotOf s = K := by
          have h1 := HK.out
          unfold slotOf
          rw [← HJ.out]
          exact h1.symm
        have hS1v : ∀ X, X = (if c.base + 4 * (K : Int) > 1020 then (160 : Int) else s.e) → S1 = { s with T := T1.set K v, slots := max s.slots ((K : Int) + 1), e := X, out := s.out ++ [⟨3, -1, -1, idxV s.G v 0, -1, -1, -1, c.base + 4 * K⟩] } := by
          intro X hX
          have hT := HT1.out
          rw [HJ.out] at hT
          rw [HS1.out, spillF, HC.out, if_neg (by simp), hsl, hX, ← hT, Int.toNat_natCast]
        have HS1v := Lib.hid hS1v
        have hsb := hA3.sl
        have hbase := HH.out.base
        have hKb : K ≤ 10000 := by omega
        have hmax : 0 ≤ max s.slots ((K : Int) + 1) ∧ max s.slots ((K : Int) + 1) ≤ (N + 1 : Nat) := by
          have : s.slots ≤ (N + 1 : Nat) := hsb.2
          have : 0 ≤ s.slots := hsb.1
          omega
        have hA4 := hA3.setSlots HH.out (max s.slots ((K : Int) + 1)) hmax
        have w1 : IntKind.i64.wrap ((K : Int) + 1) = (K : Int) + 1 := IntWalk.i64_in _ (by omega)
        have w2' : IntKind.i64.wrap (4 * (K : Int)) = 4 * (K : Int) := IntWalk.i64_in _ (by omega)
        have w3 : IntKind.i64.wrap (c.base + 4 * (K : Int)) = c.base + 4 * (K : Int) := IntWalk.i64_in _ (by omega)
        obtain ⟨c0, c1, c2, c3, c12, c13, c14, c15, c16, c17⟩ := hA3.cells
        have f16 := hA3.frozen 16
        have f17 := hA3.frozen 17
        have hlc := hA3.lt
        have HA4 := Lib.hid hA4
        have HS3 := Lib.hid hS3
        have HG := Lib.hid hA3.regs
        have HG8 := Lib.hid hA3.g8
        clear hS1v hsl hmax hA3 hA4 hS3 d0 d1 d2 d3 d12 d13 d14 d15 d16 d17 HFin hE4 hE5
        go_upto_region 9 with fail
        go_cut [7] (fun j wx => j = .int .i64 K ∧ AlIn c wx vp vt2 vo Pn (q + 1) D2 (N + 1) { s with T := T1.set K v, slots := max s.slots ((K : Int) + 1) })
        case first =>
          go_wp2_with fail
          · rename_i hm
            go_meet
            refine ⟨rfl, ?_⟩
            have := HA4.out
            rw [show max s.slots ((K : Int) + 1) = (K : Int) + 1 from by omega] at this ⊢
            exact this
          · rename_i hm
            go_meet
            refine ⟨rfl, ?_⟩
            have := HA4.out
            rw [show max s.slots ((K : Int) + 1) = s.slots from by omega] at this ⊢
            exact this
        case rest =>
          obtain ⟨rfl, hA5⟩ := hcut
          obtain ⟨c0, c1, c2, c3, c12, c13, c14, c15, c16, c17⟩ := hA5.cells
          have f17 := hA5.frozen 17
          have hlc := hA5.lt
          have HA5 := Lib.hid hA5
          clear hA5
          go_upto_if 74 with fail
          obtain ⟨X, hX⟩ : ∃ X, X = (if c.base + 4 * (K : Int) > 1020 then (160 : Int) else s.e) := ⟨_, rfl⟩
          have HS2 := Lib.hid (HS1v.out X hX)
          have HX := Lib.hid hX
          clear hX
          go_cut [7] (fun j wx => j = .int .i64 K ∧ AlIn c wx vp vt2 vo Pn (q + 1) D2 (N + 1) { s with T := T1.set K v, slots := max s.slots ((K : Int) + 1), e := X })
          case first =>
            go_wp2_with fail
            · rename_i hm
              go_meet
              refine ⟨rfl, ?_⟩
              have := HA5.out.setE HH.out 160
              rw [HX.out, if_pos (by omega)]
              exact this
            · rename_i hm
              go_meet
              refine ⟨rfl, ?_⟩
              have := HA5.out
              rw [HX.out, if_neg (by omega)]
              exact this
          case rest =>
            obtain ⟨rfl, hA6⟩ := hcut
            obtain ⟨c0, c1, c2, c3, c12, c13, c14, c15, c16, c17⟩ := hA6.cells
            have hlc := hA6.lt
            have HA6 := Lib.hid hA6
            have HG := Lib.hid hA6.regs
            clear hA6
            go_wp2_with fail
            refine (offset_any c.ab c.base K _ c1 hbase ⟨by omega, by omega⟩).mono ?_
            rintro e wo ⟨rfl, rfl⟩
            go_wp2_with fail
            refine (where_any c.ab s.G v wo HG.out HG8.out).mono ?_
            rintro e wp ⟨rfl, rfl⟩
            go_wp2_with fail
            refine (make_any 3 (c.base + 4 * (K : Int)) none _ 0 0 1 1 [] [idxV s.G v 0] _ (.inl rfl) (.inr ⟨wp.heap.size, rfl, by simp, fun i hi => ?_⟩) rfl rfl (by omega) (by omega) (by simp) (by intro g hg; injection hg with hg; injection hg with hg _ _; subst hg; simp)).mono ?_
            · match i, hi with
              | 0, _ => rw [World.cell?_alloc_at _ _ _ _ rfl]; rfl
            rintro e wq ⟨rfl, hbq⟩
            have hA7 := (HA6.out.below ((Below.refl _ wp).alloc (Nat.le_refl _) (.cells #[.int .i64 (idxV s.G v 0)] 3))).below hbq
            go_wp2_with fail
            refine (add_any HH.out hA7 ⟨3, -1, -1, idxV s.G v 0, -1, -1, -1, c.base + 4 * K⟩ (by omega)).mono ?_
            rintro e wr ⟨rfl, vo', hA8⟩
            have HA8 := Lib.hid hA8
            clear hA7 hA8 hbq
            go_wp2_with fail
            go_ret
            refine ⟨⟨_, rfl⟩, vp, vt2, vo', q + 1, D2, ?_, ?_⟩
            · rw [HS2.out]; exact HA8.out
            · rw [HS2.out]; exact HS3.out
  · go_enter Tryd.func70, Tryd.ntmps70
    have HC := Lib.hid hcon
    rw [hcon] at hhas
    clear hcon
    go_wp2_with (at_lookup; refine wpList_lookup_own_ok_int _ rfl _ _ 80 rfl 3 3 .i64 law3 Tryd.underlying80 Tryd.underlying3 (zero3 _) c.mb q D rfl HM.out _ _ rfl hkey ?_; intro cc hat hwc; rw [hhas])
    go_ret
    refine ⟨⟨_, rfl⟩, vp, vt, vo, q, D, ?_, ?_⟩
    · rw [HS1.out, spillF, if_pos HC.out]; exact HA.out.mono (by omega) hN
    · rw [HS1.out, spillF, if_pos HC.out]; exact HS.out
end Go.Proofs.YtmkencdkglbpbaaDoor
set_option maxRecDepth 100000
namespace Go.Proofs.YtmkencdkglbpbaaDoor
open Go.RowKit Go.Maps

structure Fine (s : AS) : Prop where
  g8 : s.G.length = 8
  gO : Once s.G
  tO : Once s.T
  gb : ∀ x ∈ s.G, -1 ≤ x ∧ x ≤ 65535
  tb : ∀ x ∈ s.T, -1 ≤ x ∧ x ≤ 65535

theorem Once.set {L : List Int} (h : Once L) (i : Nat) (v : Int) (hv : v = -1 ∨ v ∉ L) : Once (L.set i v) := by
  unfold Once at h ⊢
  rw [List.pairwise_iff_getElem] at h ⊢
  intro a b ha hb hab
  have ha' : a < L.length := by simpa using ha
  have hb' : b < L.length := by simpa using hb
  rw [List.getElem_set, List.getElem_set]
  split <;> split
  · omega
  · rcases hv with hv | hv
    · exact .inl hv
    · exact .inr (fun e => hv (e ▸ List.getElem_mem hb'))
  · rcases hv with hv | hv
    · rcases Classical.em (L[a] = -1) with h1 | h1
      · exact .inl h1
      · exact .inr (fun e => h1 (e.trans hv))
    · exact .inr (fun e => hv (e ▸ List.getElem_mem ha'))
  · exact h a b ha' hb' hab
theorem Once.grow {L : List Int} (h : Once L) : Once (L ++ [-1]) := by
  unfold Once at h ⊢
  rw [List.pairwise_append]
  refine ⟨h, by simp, fun a ha b hb => ?_⟩
  simp only [List.mem_singleton] at hb
  subst hb
  exact Classical.em _

theorem mem_set_bd {L : List Int} {i : Nat} {v : Int} (h : ∀ x ∈ L, -1 ≤ x ∧ x ≤ 65535) (hv : -1 ≤ v ∧ v ≤ 65535) : ∀ x ∈ L.set i v, -1 ≤ x ∧ x ≤ 65535 := by
  intro x hx
  rcases List.mem_or_eq_of_mem_set hx with hx | rfl
  · exact h x hx
  · exact hv

theorem spillF_G (base : Int) (s : AS) (v : Int) : (spillF base s v).G = s.G := by
  unfold spillF; split <;> rfl
theorem spillF_pos (base : Int) (s : AS) (v : Int) : (spillF base s v).pos = s.pos := by
  unfold spillF; split <;> rfl
theorem spillF_fine {base : Int} {s : AS} {v : Int} (h : Fine s) (hv : -1 ≤ v ∧ v ≤ 65535) : Fine (spillF base s v) := by
  unfold spillF
  split
  · exact h
  · rename_i hc
    have hm : v ∉ s.T := fun e => hc (List.contains_iff_mem.2 e)
    refine ⟨h.g8, h.gO, ?_, h.gb, ?_⟩
    · show Once (List.set _ _ _)
      split
      · refine h.tO.grow.set _ v ?_
        rcases Classical.em (v = -1) with e | e
        · exact .inl e
        · exact .inr (by simp [hm, e])
      · exact h.tO.set _ v (.inr hm)
    · show ∀ x ∈ List.set _ _ _, _
      refine mem_set_bd ?_ hv
      split
      · intro x hx
        rcases List.mem_append.1 hx with hx | hx
        · exact h.tb x hx
        · simp at hx; omega
      · exact h.tb
theorem takeF_fine {nx : Int → Int} {base : Int} {pins : List Int} {s : AS} {v : Int} (h : Fine s) (hv : -1 ≤ v ∧ v ≤ 65535) (hn : v ∉ s.G) : Fine (takeF nx base pins s v) := by
  unfold takeF
  have hs : ∀ s1 : AS, s1.G = s.G → Fine s1 → Fine { s1 with G := s1.G.set (pickF nx pins s).toNat v } := fun s1 e h1 =>
    ⟨by simp [h1.g8], h1.gO.set _ v (.inr (e ▸ hn)), h1.tO, mem_set_bd h1.gb hv, h1.tb⟩
  simp only
  split
  · refine hs _ (spillF_G _ _ _) (spillF_fine h ?_)
    rw [List.getD_eq_getElem?_getD]
    rcases hg : s.G[(pickF nx pins s).toNat]? with _ | x
    · simp
    · exact h.gb x (List.mem_of_getElem? hg)
  · exact hs _ rfl h
theorem takeF_pos (nx : Int → Int) (base : Int) (pins : List Int) (s : AS) (v : Int) : (takeF nx base pins s v).pos = s.pos := by
  unfold takeF; simp only; split
  · exact spillF_pos _ _ _
  · rfl

theorem nodup_le : ∀ (A B : List Int), A.Nodup → (∀ x ∈ A, x ∈ B) → A.length ≤ B.length
  | [], B, _, _ => Nat.zero_le _
  | a :: A, B, hn, hs => by
    have h1 := List.nodup_cons.1 hn
    have := nodup_le A (B.erase a) h1.2 (fun x hx => (List.mem_erase_of_ne (fun e : x = a => by subst e; exact h1.1 hx)).2 (hs x (by simp [hx])))
    have hl := List.length_erase_of_mem (hs a (by simp))
    have hp : 0 < B.length := List.length_pos_of_mem (hs a (by simp))
    simp only [List.length_cons]
    omega
theorem victimF_lt (nx : Int → Int) (pins G : List Int) : ∀ (L : List Int) (r : Nat) (best : Int), best < r → victimF nx pins G L r best < r + L.length
  | [], r, best, h => by simpa [victimF] using h
  | v :: L, r, best, h => by
    have i1 := victimF_lt nx pins G L (r + 1) best (by omega)
    have i2 := victimF_lt nx pins G L (r + 1) r (by omega)
    unfold victimF
    simp only [List.length_cons]
    push_cast at i1 i2 ⊢
    split
    · omega
    · split <;> omega
theorem victimF_ge (nx : Int → Int) (pins G : List Int) : ∀ (L : List Int) (r : Nat) (best : Int), -1 ≤ best → -1 ≤ victimF nx pins G L r best ∧ (0 ≤ best ∨ (∃ x ∈ L, x ∉ pins) → 0 ≤ victimF nx pins G L r best)
  | [], r, best, h => by
    unfold victimF
    refine ⟨h, fun h => ?_⟩
    rcases h with h | ⟨x, hx, _⟩
    · exact h
    · simp at hx
  | v :: L, r, best, h => by
    have i1 := victimF_ge nx pins G L (r + 1) best h
    have i2 := victimF_ge nx pins G L (r + 1) r (by omega)
    unfold victimF
    split
    · rename_i hc
      refine ⟨i1.1, fun h => i1.2 ?_⟩
      rcases h with h | ⟨x, hx, hn⟩
      · exact .inl h
      · rcases List.mem_cons.1 hx with rfl | hx
        · exact absurd (List.contains_iff_mem.1 hc) hn
        · exact .inr ⟨x, hx, hn⟩
    · split
      · exact ⟨i2.1, fun _ => i2.2 (.inl (by omega))⟩
      · rename_i hb
        exact ⟨i1.1, fun _ => i1.2 (.inl (by omega))⟩
/-- One is found. -/
theorem pick_ok {nx : Int → Int} {pins : List Int} {s : AS} (h : Fine s) (hp : pins.length ≤ 6) : 0 ≤ pickF nx pins s ∧ pickF nx pins s < 8 := by
  unfold pickF
  split
  · rename_i hf
    have hm : (-1 : Int) ∉ s.G := fun e => by have := (idxV_mem s.G (-1) 0).2 e; omega
    have hlt := victimF_lt nx pins s.G s.G 0 (-1) (by omega)
    rw [h.g8] at hlt
    refine ⟨(victimF_ge nx pins s.G s.G 0 (-1) (by omega)).2 (.inr ?_), by omega⟩
    refine Classical.byContradiction fun hno => ?_
    have hall : ∀ x ∈ s.G, x ∈ pins := fun x hx => Classical.byContradiction fun hn => hno ⟨x, hx, hn⟩
    have hnd : s.G.Nodup := by
      have hO := h.gO
      unfold Once at hO
      unfold List.Nodup
      rw [List.pairwise_iff_getElem] at hO ⊢
      intro i j hi hj hij
      rcases hO i j hi hj hij with e | e
      · exact absurd (e ▸ List.getElem_mem hi) hm
      · exact e
    have := nodup_le _ _ hnd hall
    rw [h.g8] at this
    omega
  · have := idxV_bd s.G (-1) 0
    rw [h.g8] at this
    omega
end Go.Proofs.YtmkencdkglbpbaaDoor
set_option maxRecDepth 100000
set_option linter.unusedVariables false
namespace Go.Proofs.YtmkencdkglbpbaaDoor
open Go.RowKit Go.Maps

theorem AlX.below {c : AC} {w w' : World} {Pn : List Int} {N : Nat} {s : AS} (h : AlX c w Pn N s) (hb : Below w.heap.size w w') : AlX c w' Pn N s := by
  obtain ⟨vp, vt, vo, q, D, h, hS⟩ := h
  exact ⟨vp, vt, vo, q, D, h.below hb, hS⟩
theorem AlX.mono {c : AC} {w : World} {Pn : List Int} {N N' : Nat} {s : AS} (h : AlX c w Pn N s) (hn : N ≤ N') (hn' : N' ≤ 10000) : AlX c w Pn N' s := by
  obtain ⟨vp, vt, vo, q, D, h, hS⟩ := h
  exact ⟨vp, vt, vo, q, D, h.mono hn hn', hS⟩
theorem AlX.setG {c : AC} {w : World} {Pn : List Int} {N : Nat} {s : AS} (h : AlX c w Pn N s) (H : ACok c) (r : Nat) (hr : r < 8) (v : Int) (hv : -1 ≤ v ∧ v ≤ 65535) : AlX c (w.setCell ⟨c.ab, 4 + r, none⟩ (.int .i64 v)) Pn N { s with G := s.G.set r v } := by
  obtain ⟨vp, vt, vo, q, D, h, hS⟩ := h
  exact ⟨vp, vt, vo, q, D, h.setG H r hr v hv, hS⟩
theorem AlX.reg {c : AC} {w : World} {Pn : List Int} {N : Nat} {s : AS} (h : AlX c w Pn N s) (r : Nat) (hr : r < 8) : ∃ hr' : r < s.G.length, w.cell? ⟨c.ab, 4 + r, none⟩ = some (.int .i64 s.G[r]) ∧ w.frozen? ⟨c.ab, 4 + r, none⟩ = false ∧ c.ab < w.heap.size := by
  obtain ⟨vp, vt, vo, q, D, h, hS⟩ := h
  have hr' : r < s.G.length := by rw [h.g8]; exact hr
  exact ⟨hr', h.regs.2 r hr', h.frozen _, h.lt⟩
theorem AlX.where_ {c : AC} {w : World} {Pn : List Int} {N : Nat} {s : AS} (h : AlX c w Pn N s) (v : Int) :
    Calls Tryd.prog 67 #[.pointer (some ⟨c.ab, 0, none⟩), .int .i64 v] w fun e w' => e = .returned (.int .i64 (idxV s.G v 0)) ∧ w' = w := by
  obtain ⟨vp, vt, vo, q, D, h, hS⟩ := h
  exact where_any c.ab s.G v w h.regs h.g8
theorem AlX.victim_ {c : AC} (H : ACok c) {w : World} {Pn : List Int} {N : Nat} {s : AS} (h : AlX c w Pn N s) :
    Calls Tryd.prog 69 #[.pointer (some ⟨c.ab, 0, none⟩)] w fun e w' => e = .returned (.int .i64 (victimF (c.nx s.pos) Pn s.G s.G 0 (-1))) ∧ Below w.heap.size w w' := by
  obtain ⟨vp, vt, vo, q, D, h, hS⟩ := h
  refine (victim_any H h).mono ?_
  rintro e w' ⟨rfl, d, rfl⟩
  exact ⟨rfl, ⟨rfl, rfl, rfl, Nat.le_refl _, fun _ _ => rfl⟩⟩
theorem AlX.pn {c : AC} {w : World} {Pn : List Int} {N : Nat} {s : AS} (h : AlX c w Pn N s) : Pn.length ≤ 6 := by
  obtain ⟨vp, vt, vo, q, D, h, hS⟩ := h
  exact h.pn

set_option maxHeartbeats 2000000 in
theorem take_any {c : AC} (H : ACok c) {w : World} {Pn : List Int} {N : Nat} {s : AS} (h : AlX c w Pn N s) (hf : Fine s) (hN : N + 2 ≤ 10000) (v : Int) (hv : 0 ≤ v ∧ v ≤ 65535) :
    Calls Tryd.prog 59 #[.pointer (some ⟨c.ab, 0, none⟩), .int .i64 v] w fun e w' => e = .returned (.int .i64 (pickF (c.nx s.pos) Pn s)) ∧ AlX c w' Pn (N + 2) (takeF (c.nx s.pos) c.base Pn s v) := by
  obtain ⟨S1, hS1⟩ : ∃ S1, S1 = takeF (c.nx s.pos) c.base Pn s v := ⟨_, rfl⟩
  obtain ⟨R, hR⟩ : ∃ R, R = pickF (c.nx s.pos) Pn s := ⟨_, rfl⟩
  have hpk := pick_ok (nx := c.nx s.pos) hf h.pn
  rw [← hR] at hpk
  obtain ⟨r, rfl⟩ := Int.eq_ofNat_of_zero_le hpk.1
  have hr8 : r < 8 := by omega
  rw [← hS1, ← hR]
  have hW := h.where_ (-1)
  by_cases hfree : idxV s.G (-1) 0 < 0
  · rw [pickF, if_pos hfree] at hR
    have hm : (-1 : Int) ∉ s.G := fun e => by have := (idxV_mem s.G (-1) 0).2 e; omega
    rw [takeF, if_pos hfree, pickF, if_pos hfree, ← hR, Int.toNat_natCast] at hS1
    have HV := h.victim_ H
    rw [← hR] at HV
    have HVh := Lib.hid HV
    have HW := Lib.hid hW
    have HA := Lib.hid h
    have HS1 := Lib.hid hS1
    have HH := Lib.hid H
    have HF := Lib.hid hf
    have HM := Lib.hid hm
    clear hR hS1 HV hW h H hf hm
    generalize idxV s.G (-1) 0 = J at HW hfree
    go_enter Tryd.func59, Tryd.ntmps59
    go_wp2_with fail
    refine HW.out.mono ?_
    rintro e w1 ⟨rfl, rfl⟩
    go_wp2_with fail
    all_goals first | (exfalso; omega) | skip
    refine HVh.out.mono ?_
    rintro e w2 ⟨rfl, hb2⟩
    have hA2 := HA.out.below hb2
    obtain ⟨hrl, cr, fr, hls⟩ := hA2.reg r hr8
    have hgb := HF.out.gb _ (List.getElem_mem hrl)
    have hgn : s.G[r] ≠ -1 := fun e => HM.out (e ▸ List.getElem_mem hrl)
    have hgd : s.G.getD r 0 = s.G[r] := by rw [List.getD_eq_getElem?_getD, List.getElem?_eq_getElem hrl]; rfl
    have hs1 := HS1.out
    rw [hgd] at hs1
    generalize s.G[r]'hrl = X at cr hgb hgn hs1
    have HS2 := Lib.hid hs1
    have HA2 := Lib.hid hA2
    clear hb2 hA2 hgd hs1
    go_wp2_with fail
    refine (spill_any HH.out HA2.out hN X ⟨by omega, hgb.2⟩).mono ?_
    rintro e w3 ⟨⟨r3, rfl⟩, hA3⟩
    obtain ⟨hrl3, cr3, fr3, hls3⟩ := hA3.reg r hr8
    have HA3 := Lib.hid hA3
    clear hA3
    go_wp2_with fail
    go_ret
    refine ⟨rfl, ?_⟩
    rw [HS2.out]
    exact HA3.out.setG HH.out r hr8 v ⟨by omega, hv.2⟩
  · rw [pickF, if_neg hfree] at hR
    rw [takeF, if_neg hfree, pickF, if_neg hfree, ← hR, Int.toNat_natCast] at hS1
    rw [← hR] at hW
    obtain ⟨hrl, cr, fr, hls⟩ := h.reg r hr8
    have HW := Lib.hid hW
    have HA := Lib.hid h
    have HS1 := Lib.hid hS1
    have HH := Lib.hid H
    clear hR hS1 hW h H hf hfree
    go_enter Tryd.func59, Tryd.ntmps59
    go_wp2_with fail
    refine HW.out.mono ?_
    rintro e w1 ⟨rfl, rfl⟩
    go_wp2_with fail
    all_goals first | (exfalso; omega) | skip
    go_ret
    refine ⟨rfl, ?_⟩
    rw [HS1.out]
    exact (HA.out.setG HH.out r hr8 v ⟨by omega, hv.2⟩).mono (by omega) hN
end Go.Proofs.YtmkencdkglbpbaaDoor
set_option maxRecDepth 100000
set_option linter.unusedVariables false
namespace Go.Proofs.YtmkencdkglbpbaaDoor
open Go.RowKit Go.Maps

/-- A row of the caller's is let be. -/
theorem AlX.open_ {c : AC} {w0 w1 : World} {Pn : List Int} {N : Nat} {s : AS} (h : AlX c w0 Pn N s) (H : ACok c) (hb : Below w0.heap.size w0 w1) (v : Value) (hv : ∀ k, v.ownBlock = some k → w0.heap.size ≤ k ∧ k < w1.heap.size) :
    AlX (c.fit (fun k => c.F k ∨ some k = v.ownBlock) w1) w1 Pn N s ∧ ∀ (w2 : World) (Pn' : List Int) (N' : Nat) (s' : AS), AlX (c.fit (fun k => c.F k ∨ some k = v.ownBlock) w1) w2 Pn' N' s' →
      AlX c w2 Pn' N' s' ∧ ∀ k, v.ownBlock = some k → k < w2.heap.size ∧ w2.heap[k]? = w1.heap[k]? := by
  obtain ⟨vp, vt, vo, q, D, h, hS⟩ := h
  have h1 := h.below hb
  have hBs := h.fr.size
  have ha := H.ab
  have hm := H.mb
  refine ⟨⟨vp, vt, vo, q, D, h1.fit (fun g hg => ?_), hS⟩, ?_⟩
  · rcases hg with hg | hg
    · obtain ⟨a, b, d, e, f, l, k⟩ := h1.kf g hg
      exact ⟨a, b, d, e, f, l, rfl⟩
    · obtain ⟨l1, l2⟩ := hv g hg.symm
      refine ⟨by show g ≠ c.ab; omega, by show g ≠ c.mb; omega, fun e => ?_, fun e => ?_, fun e => ?_, l2, rfl⟩
      · have := (h.rt.lt g e.symm).2; omega
      · have := (h.ro.lt g e.symm).2; omega
      · have := (h.rp.lt g e.symm).2; omega
  · rintro w2 Pn' N' s' ⟨vp', vt', vo', q', D', h2, hS2⟩
    refine ⟨⟨vp', vt', vo', q', D', h2.unfit (fun g hg => ?_), hS2⟩, fun k hk => ?_⟩
    · obtain ⟨a, b, d, e, f, l, k⟩ := h2.kf g (.inl hg)
      exact ⟨a, b, d, e, f, l, Eq.trans k ((h1.kf g hg).2.2.2.2.2.2)⟩
    · obtain ⟨a, b, d, e, f, l, k⟩ := h2.kf k (.inr hk.symm)
      exact ⟨l, k⟩

theorem readF_fine {nx : Int → Int} {base : Int} {pins : List Int} : ∀ (U : List Int) {s : AS}, Fine s → (∀ x ∈ U, 0 ≤ x ∧ x ≤ 65535) → Fine (readF nx base pins U s)
  | [], s, h, _ => h
  | v :: U, s, h, hU => by
    unfold readF
    split
    · rename_i hi
      have hv := hU v (by simp)
      have hm : v ∉ s.G := fun e => by have := (idxV_mem s.G v 0).2 e; omega
      have h1 := takeF_fine (nx := nx) (base := base) (pins := pins) h ⟨by omega, hv.2⟩ hm
      exact readF_fine U ⟨h1.g8, h1.gO, h1.tO, h1.gb, h1.tb⟩ (fun x hx => hU x (by simp [hx]))
    · exact readF_fine U h (fun x hx => hU x (by simp [hx]))
theorem readF_pos {nx : Int → Int} {base : Int} {pins : List Int} : ∀ (U : List Int) (s : AS), (readF nx base pins U s).pos = s.pos
  | [], s => rfl
  | v :: U, s => by
    unfold readF
    split
    · rw [readF_pos U]; exact takeF_pos nx base pins s v
    · exact readF_pos U s

theorem AlX.lt {c : AC} {w : World} {Pn : List Int} {N : Nat} {s : AS} (h : AlX c w Pn N s) : c.ab < w.heap.size := by
  obtain ⟨vp, vt, vo, q, D, h, hS⟩ := h
  exact h.lt
set_option maxHeartbeats 4000000 in
theorem aread_any {c : AC} (H : ACok c) {w : World} {Pn : List Int} {N : Nat} {s : AS} (h : AlX c w Pn N s) (hf : Fine s) (o : Op8) (hU : ∀ x ∈ regsOf [o.f0, o.f1, o.f2, o.f3], 0 ≤ x ∧ x ≤ 65535) (hN : N + 12 ≤ 10000) :
    Calls Tryd.prog 57 #[.pointer (some ⟨c.ab, 0, none⟩), opV o.K o.t0 o.t1 o.f0 o.f1 o.f2 o.f3 o.N] w fun e w' => e = .returned (.tuple #[]) ∧ AlX c w' Pn (N + 12) (readF (c.nx s.pos) c.base Pn (regsOf [o.f0, o.f1, o.f2, o.f3]) s) := by
  obtain ⟨U, hUe⟩ : ∃ U, U = regsOf [o.f0, o.f1, o.f2, o.f3] := ⟨_, rfl⟩
  have hU4 : (regsOf [o.f0, o.f1, o.f2, o.f3]).length ≤ 4 := by have := List.length_filter_le (fun x : Int => x != -1) [o.f0, o.f1, o.f2, o.f3]; simpa using this
  obtain ⟨S1, hS1⟩ : ∃ S1, S1 = readF (c.nx s.pos) c.base Pn U s := ⟨_, rfl⟩
  rw [← hUe] at hU hU4
  rw [← hUe, ← hS1]
  obtain ⟨P, hP⟩ : ∃ P, P = s.pos := ⟨_, rfl⟩
  rw [← hP] at hS1
  obtain ⟨w1, hw1⟩ : ∃ w1, w1 = w.alloc (.cells #[.int .i64 o.K, .int .i64 o.t0, .int .i64 o.t1, .int .i64 o.f0, .int .i64 o.f1, .int .i64 o.f2, .int .i64 o.f3, .int .u32 o.N] 37) := ⟨_, rfl⟩
  have hB1 : Below w.heap.size w w1 := by rw [hw1]; exact (Below.refl _ _).alloc (Nat.le_refl _) _
  have hO1 : OpAt w1 w.heap.size o.K o.t0 o.t1 o.f0 o.f1 o.f2 o.f3 o.N := by rw [hw1]; exact opAt_new w _ _ _ _ _ _ _ _
  have HA1 := Lib.hid (h.below hB1)
  obtain ⟨k0, k1, k2, k3, k4, k5, k6, k7⟩ := hO1.cells
  have hU1 := uses_any o.K o.t0 o.t1 o.f0 o.f1 o.f2 o.f3 o.N w1
  rw [← hUe] at hU1
  have HU1 := Lib.hid hU1
  have HS1 := Lib.hid hS1
  have HP := Lib.hid hP
  have HUe := Lib.hid hUe
  have HU := Lib.hid hU
  have HH := Lib.hid H
  have HF := Lib.hid hf
  clear hUe hU hS1 hP hU1 hB1 hO1 h H hf
  go_enter Tryd.func57, Tryd.ntmps57
  go_wp2_with fail
  rw [← hw1]
  clear hw1
  refine HU1.out.mono ?_
  rintro e w2 ⟨vu, rfl, hou, hbu⟩
  obtain ⟨hop, hcl⟩ := HA1.out.open_ HH.out hbu vu (fun k hk => hou.lt k hk)
  have hou' := hou
  obtain ⟨xu, cu, rfl, hcu, hfu⟩ := own_form hou rfl
  have hrow : ∀ (wr : World) (Pn' : List Int) (N' : Nat) (s' : AS), AlX (c.fit (fun k => c.F k ∨ some k = (Value.slice xu U.length cu).ownBlock) w2) wr Pn' N' s' → ∀ k (hk : k < U.length), ∃ g, xu = some ⟨g, 0, none⟩ ∧ g < wr.heap.size ∧ wr.cell? ⟨g, k, none⟩ = some (.int .i64 U[k]) := by
    intro wr Pn' N' s' hx k hk
    obtain ⟨g, rfl, hg, hg2, hc⟩ := hfu (by omega)
    obtain ⟨l, e⟩ := (hcl wr Pn' N' s' hx).2 g rfl
    exact ⟨g, rfl, l, (World.cell?_of_block (a := ⟨g, k, none⟩) e).trans (hc k hk)⟩
  have HOP := Lib.hid hop
  have HCL := Lib.hid hcl
  have HROW := Lib.hid hrow
  clear hop hcl hrow hou hou' hbu hfu k0 k1 k2 k3 k4 k5 k6 k7
  obtain ⟨c2, hc2⟩ : ∃ c2, c2 = c.fit (fun k => c.F k ∨ some k = (Value.slice xu U.length cu).ownBlock) w2 := ⟨_, rfl⟩
  have e_ab : c.ab = c2.ab := by rw [hc2]; rfl
  have e_base : c.base = c2.base := by rw [hc2]; rfl
  have e_nx : c.nx = c2.nx := by rw [hc2]; rfl
  have H2 : ACok c2 := by rw [hc2]; exact HH.out.fit _ _
  have hS1' := HS1.out
  rw [e_base, e_nx] at hS1'
  have HS2 := Lib.hid hS1'
  have hcl := HCL.out
  have hop := HOP.out
  have hrow := HROW.out
  rw [← hc2] at hcl hop hrow
  rw [e_ab]
  have HCL2 := Lib.hid hcl
  have HOP2 := Lib.hid hop
  have HROW2 := Lib.hid hrow
  have HH2 := Lib.hid H2
  clear hcl hop hrow H2 hS1' e_base e_nx HS1 HCL HOP HROW hc2
  go_wp2_with fail
  go_loopw [10] (fun i wr => ∃ (k : Nat) (s' : AS), k ≤ U.length ∧ i = .int .i64 k ∧ AlX c2 wr Pn (N + 3 * k) s' ∧ Fine s' ∧ s'.pos = P ∧ readF (c2.nx P) c2.base Pn (U.drop k) s' = S1) (fun i _ => U.length - (intOf i).toNat)
  case atStart => exact ⟨0, s, Nat.zero_le _, rfl, HOP2.out, HF.out, HP.out.symm, HS2.out.symm⟩
  case round =>
    obtain ⟨k, s', hk, rfl, hA, hF, hp, hr⟩ := hrel
    have HA := Lib.hid hA
    have HFi := Lib.hid hF
    have Hp := Lib.hid hp
    have Hr := Lib.hid hr
    have hls := hA.lt
    clear hA hF hp hr
    by_cases hlt : k < U.length
    · obtain ⟨g, rfl, hgl, y0⟩ := HROW2.out wr _ _ _ HA.out k hlt
      have hdr : U.drop k = U[k] :: U.drop (k + 1) := List.drop_eq_getElem_cons hlt
      have hb := HU.out _ (List.getElem_mem hlt)
      have wq : IntKind.i64.wrap ((k : Int) + 1) = (k : Int) + 1 := IntWalk.i64_in _ (by omega)
      have hr := Hr.out
      rw [hdr, readF] at hr
      generalize U[k]'hlt = v at y0 hb hr
      have hW := HA.out.where_ v
      have hkey : keyOf Tryd.prog 3 (.int .i64 v) = some (.int .i64 v) := keyOf_int_mk Tryd.underlying3 (WalkArith.wf_i64 (by omega))
      have HW := Lib.hid hW
      have Hr2 := Lib.hid hr
      clear hr hW hdr
      by_cases hJ : idxV s'.G v 0 < 0
      · have hr := Hr2.out
        rw [if_pos hJ] at hr
        have hm : v ∉ s'.G := fun e => by have := (idxV_mem s'.G v 0).2 e; omega
        have hT := take_any HH2.out HA.out HFi.out (by omega) v hb
        have hF1 := takeF_fine (nx := c2.nx s'.pos) (base := c2.base) (pins := Pn) HFi.out ⟨by omega, hb.2⟩ hm
        have hpo := takeF_pos (c2.nx s'.pos) c2.base Pn s' v
        rw [Hp.out] at hT hF1 hpo
        obtain ⟨R, hR⟩ : ∃ R, R = pickF (c2.nx P) Pn s' := ⟨_, rfl⟩
        obtain ⟨s1, hs1⟩ : ∃ s1, s1 = takeF (c2.nx P) c2.base Pn s' v := ⟨_, rfl⟩
        simp only at hr
        rw [← hs1, ← hR] at hr
        rw [← hs1] at hT hF1 hpo
        rw [← hR] at hT
        have HT := Lib.hid hT
        have HF1 := Lib.hid hF1
        have Hpo := Lib.hid hpo
        have HrT := Lib.hid hr
        clear hr hT hF1 hpo hR hs1
        generalize idxV s'.G v 0 = J at HW hJ
        go_wp2_with fail
        refine HW.out.mono ?_
        rintro e w3 ⟨rfl, rfl⟩
        go_wp2_with fail
        all_goals first | (exfalso; omega) | skip
        refine HT.out.mono ?_
        rintro e w4 ⟨rfl, hA4⟩
        obtain ⟨vp, vt, vo, q, D, hA4, hS4⟩ := hA4
        obtain ⟨c0, c1, c2', c3, c12, c13, c14, c15, c16, c17⟩ := hA4.cells
        have hls4 := hA4.lt
        have HM := Lib.hid hA4.map
        have HA4 := Lib.hid hA4
        have HS4 := Lib.hid hS4
        clear hA4 hS4
        go_wp2_with (at_lookup; refine wpList_lookup_own_int _ rfl _ _ 80 rfl 3 3 .i64 law3 Tryd.underlying80 Tryd.underlying3 (zero3 _) c2.mb q D rfl HM.out _ _ rfl hkey ?_; intro cc hat hwc)
        have hcc : cc = max (idxV s1.T v 0) 0 := by
          have h1 := (HS4.out.2 v hb.1 hb.2).2
          rw [hat] at h1
          injection h1 with h1
          injection h1
        have hccb : 0 ≤ cc ∧ cc ≤ 100000 := by
          have h1 := idxV_bd s1.T v 0
          have h2 := HA4.out.tn
          have h3 := HA4.out.n
          omega
        have Hcc := Lib.hid hcc
        have hbase := HH2.out.base
        clear hcc hat hwc
        refine (offset_any c2.ab c2.base cc _ c1 hbase hccb).mono ?_
        rintro e wo ⟨rfl, rfl⟩
        go_wp2_with fail
        refine (make_any 2 (c2.base + 4 * cc) _ none 1 1 0 0 [R] [] _ (.inr ⟨wo.heap.size, rfl, by simp, fun i hi => ?_⟩) (.inl rfl) rfl rfl (by omega) (by omega) (by intro g hg; injection hg with hg; injection hg with hg _ _; subst hg; simp) (by simp)).mono ?_
        · match i, hi with
          | 0, _ => rw [World.cell?_alloc_at _ _ _ _ rfl]; rfl
        rintro e wq ⟨rfl, hbq⟩
        have hA7 := (HA4.out.below ((Below.refl _ wo).alloc (Nat.le_refl _) (.cells #[.int .i64 R] 3))).below hbq
        go_wp2_with fail
        refine (add_any HH2.out hA7 ⟨2, R, -1, -1, -1, -1, -1, c2.base + 4 * cc⟩ (by omega)).mono ?_
        rintro e wr ⟨rfl, vo', hA8⟩
        have HA8 := Lib.hid hA8
        clear hA7 hA8 hbq
        go_wp2_with fail
        refine ⟨⟨k + 1, { s1 with out := s1.out ++ [⟨2, R, -1, -1, -1, -1, -1, c2.base + 4 * cc⟩] }, by omega, by simp, ⟨vp, vt, vo', q, D, HA8.out, HS4.out⟩, ⟨HF1.out.g8, HF1.out.gO, HF1.out.tO, HF1.out.gb, HF1.out.tb⟩, ?_, ?_⟩, by simp only [intOf]; omega⟩
        · show s1.pos = P
          rw [Hpo.out]
        · rw [Hcc.out]; exact HrT.out
      · have hr := Hr2.out
        rw [if_neg hJ] at hr
        have HrT := Lib.hid hr
        clear hr
        generalize idxV s'.G v 0 = J at HW hJ
        go_wp2_with fail
        refine HW.out.mono ?_
        rintro e w3 ⟨rfl, rfl⟩
        go_wp2_with fail
        all_goals first | (exfalso; omega) | skip
        exact ⟨⟨k + 1, s', by omega, by simp, HA.out.mono (by omega) (by omega), HFi.out, Hp.out, HrT.out⟩, by simp only [intOf]; omega⟩
    · have hkn : k = U.length := by omega
      have hr := Hr.out
      rw [hkn, List.drop_length, readF] at hr
      have HrT := Lib.hid hr
      clear hr
      go_wp2_with fail
      go_end0
      refine ⟨rfl, ?_⟩
      rw [← HrT.out]
      exact ((HCL2.out _ _ _ _ HA.out).1).mono (by omega) (by omega)
end Go.Proofs.YtmkencdkglbpbaaDoor
set_option maxRecDepth 100000
set_option linter.unusedVariables false
namespace Go.Proofs.YtmkencdkglbpbaaDoor
open Go.RowKit Go.Maps

theorem LSl.below {w w' : World} {x : Option Addr} {L : List Int} (h : LSl w x L) (hb : Below w.heap.size w w') : LSl w' x L := by
  rcases h with h | ⟨g, e, h⟩
  · exact .inl h
  · exact .inr ⟨g, e, h.below hb⟩
set_option maxHeartbeats 2000000 in
theorem mapped_any {c : AC} {w : World} {Pn : List Int} {N : Nat} {s : AS} (h : AlX c w Pn N s) (x : Option Addr) (n cc : Nat) (L : List Int) (hL : LSl w x L) (hn : L.length = n) (hn2 : n ≤ 1000) :
    Calls Tryd.prog 58 #[.pointer (some ⟨c.ab, 0, none⟩), .slice x n cc] w fun e w' => ∃ v, e = .returned v ∧ w'.ownsRow w.heap.size 3 1 v n (iCells (L.map fun u => idxV s.G u 0)) ∧ Below w.heap.size w w' := by
  obtain ⟨i0, hi, hz0, hz1, hz2⟩ := info_parts Tryd.infoInt
  have HA := Lib.hid h
  have HL := Lib.hid hL
  have HN := Lib.hid hn
  obtain ⟨f, hf⟩ : ∃ f : Int → Int, f = fun u => idxV s.G u 0 := ⟨_, rfl⟩
  rw [← hf]
  have HW : Hid (∀ wr v, Below w.heap.size w wr → Calls Tryd.prog 67 #[.pointer (some ⟨c.ab, 0, none⟩), .int .i64 v] wr fun e w' => e = .returned (.int .i64 (f v)) ∧ w' = wr) := fun wr v hb => by
    rw [hf]; exact (HA.out.below hb).where_ v
  clear h hL hn hf
  go_enter Tryd.func58, Tryd.ntmps58
  go_wp2_with fail
  go_loopw [5, 10] (fun l i wr => ∃ k : Nat, k ≤ n ∧ i = .int .i64 k ∧ wr.ownsRow w.heap.size 3 1 l k (iCells ((L.take k).map f)) ∧ Below w.heap.size w wr) (fun _ i _ => n - (intOf i).toNat)
  case atStart => exact ⟨0, Nat.zero_le _, rfl, World.ownsRow_nil _ _ _ _, Below.refl _ _⟩
  case round =>
    obtain ⟨k, hk, rfl, hown, hB⟩ := hrel
    have HB := Lib.hid hB
    have Hown := Lib.hid hown
    have hsz := HB.out.size
    have hls := (HA.out.below hB).lt
    clear hown hB
    by_cases hlt : k < n
    · have hlt' : k < L.length := by rw [HN.out]; exact hlt
      obtain ⟨g, rfl, hI⟩ := HL.out.resolve_left (fun e => by rw [e] at hlt'; simp at hlt')
      have c0 := (HB.out.cell (p := ⟨g, 0 + k, none⟩) hI.1).trans (hI.2 k hlt')
      rw [Nat.zero_add] at c0
      have hgl := Nat.lt_of_lt_of_le hI.1 HB.out.size
      have hst : L.take (k + 1) = L.take k ++ [L[k]] := List.take_succ_eq_append_getElem hlt'
      generalize L[k]'hlt' = X at c0 hst
      have Hst := Lib.hid hst
      have wq : IntKind.i64.wrap ((k : Int) + 1) = (k : Int) + 1 := IntWalk.i64_in _ (by omega)
      have HWX := Lib.hid (HW.out wr X HB.out)
      clear hst hI
      generalize hY : f X = Y at HWX
      have HY := Lib.hid hY
      clear hY
      go_wp2_with fail
      refine HWX.out.mono ?_
      rintro e w2 ⟨rfl, rfl⟩
      go_wp2_with (at_builtin; refine wpList_append_own _ rfl (.tmp 14) (.tmp 18) 41 rfl w.heap.size 3 i0 (.int .i64 0) 1 8 Tryd.underlying41 hi hz0 hz1 hz2 rfl (by decide) _ _ _ rfl (Hown.out.alloc _) ⟨w2.heap.size, 0, none⟩ 1 1 [.int .i64 Y] rfl rfl ?c1 ?c2 ?c3 ?c4 ?c5 ?_)
      case c1 => exact i_new _ _ Y rfl
      case c2 => exact i_one _
      case c3 => unfold maxLen; omega
      case c4 => omega
      case c5 => simp; omega
      intro v' w3 hown3 hgrow3 _
      have hne := (Hown.out.alloc (.cells #[.int .i64 Y] 3)).lt
      have HB3 := Lib.hid ((HB.out.alloc HB.out.size (.cells #[.int .i64 Y] 3)).grown hgrow3 (by simp; omega) (fun b e => (hne b e).1))
      have Hown3 := Lib.hid hown3
      clear hown3 hgrow3 hne
      go_wp2_with fail
      refine ⟨⟨k + 1, by omega, by simp, ?_, HB3.out⟩, by simp only [intOf]; omega⟩
      rw [Hst.out, List.map_append, iCells, List.map_append, List.map_singleton, List.map_singleton, HY.out]
      have h3 := Hown3.out
      rw [← List.map_take] at h3
      exact h3
    · have hkq : k = n := by omega
      have htk : L.take k = L := by rw [hkq, ← HN.out, List.take_length]
      have hown4 := Hown.out
      rw [htk, hkq] at hown4
      have Hown4 := Lib.hid hown4
      clear hown4 htk
      go_wp2_with fail
      go_ret
      exact ⟨_, rfl, Hown4.out, HB.out⟩

/-- freed up to a place. -/
def freeK (nx : Int → Int) (n : Int) (L : List Int) (k : Nat) : List Int := freeF nx n (L.take k) ++ L.drop k
theorem freeK_zero (nx : Int → Int) (n : Int) (L : List Int) : freeK nx n L 0 = L := by simp [freeK, freeF]
theorem freeK_all (nx : Int → Int) (n : Int) (L : List Int) (k : Nat) (hk : k = L.length) : freeK nx n L k = freeF nx n L := by simp [freeK, hk]
theorem freeK_length (nx : Int → Int) (n : Int) (L : List Int) (k : Nat) (hk : k ≤ L.length) : (freeK nx n L k).length = L.length := by simp [freeK, freeF]; omega
theorem freeK_at (nx : Int → Int) (n : Int) (L : List Int) (k : Nat) (hk : k < L.length) (h2 : k < (freeK nx n L k).length) : (freeK nx n L k)[k] = L[k] := by
  have : (freeK nx n L k)[k]? = L[k]? := by
    unfold freeK
    rw [List.getElem?_append_right (by simp [freeF]; omega)]
    simp [freeF, Nat.min_eq_left (Nat.le_of_lt hk)]
  rw [List.getElem?_eq_getElem h2, List.getElem?_eq_getElem hk] at this
  injection this
theorem freeK_keep (nx : Int → Int) (n : Int) (L : List Int) (k : Nat) (hk : k < L.length) (h : ¬(L[k] ≠ -1 ∧ nx L[k] = n)) : freeK nx n L (k + 1) = freeK nx n L k := by
  unfold freeK
  rw [List.take_succ_eq_append_getElem hk, List.drop_eq_getElem_cons hk]
  simp only [freeF, List.map_append, List.map_cons, List.map_nil, if_neg h, List.append_assoc, List.singleton_append]
theorem freeK_free (nx : Int → Int) (n : Int) (L : List Int) (k : Nat) (hk : k < L.length) (h : L[k] ≠ -1 ∧ nx L[k] = n) : freeK nx n L (k + 1) = (freeK nx n L k).set k (-1) := by
  unfold freeK
  rw [List.take_succ_eq_append_getElem hk, List.drop_eq_getElem_cons hk]
  simp only [freeF, List.map_append, List.map_cons, List.map_nil, if_pos h, List.append_assoc, List.singleton_append]
  rw [List.set_append_right _ _ (by simp; omega)]
  simp [Nat.min_eq_left (Nat.le_of_lt hk)]
  rw [List.drop_eq_getElem_cons hk, List.set_cons_zero]
end Go.Proofs.YtmkencdkglbpbaaDoor
