/- alloc: read. -/
import Derived.Test.YtmkencdkglbpbaaDoorAlH
set_option maxRecDepth 100000
set_option linter.unusedVariables false
namespace Go.Proofs.YtmkencdkglbpbaaDoor
open Go.RowKit Go.Maps

/-- A row of the caller's is let be. -/
theorem AlX.open_ {c : AC} {w0 w1 : World} {Pn : List Int} {N : Nat} {s : AS} (h : AlX c w0 Pn N s) (H : ACok c) (hb : Below w0.heap.size w0 w1) (v : Value) (hv : ∀ k, v.ownBlock = some k → w0.heap.size ≤ k ∧ k < w1.heap.size) :
    AlX (c.fit (fun k => c.F k ∨ some k = v.ownBlock) w1) w1 Pn N s ∧ ∀ (w2 : World) (Pn' : List Int) (N' : Nat) (s' : AS), AlX (c.fit (fun k => c.F k ∨ some k = v.ownBlock) w1) w2 Pn' N' s' →
      AlX c w2 Pn' N' s' ∧ ∀ k, v.ownBlock = some k → k < w2.heap.size ∧ w2.heap[k]? = w1.heap[k]? := by
  obtain ⟨vp, vt, vo, q, D, h, hS⟩ := h
  have h1 := h.below hb
  have hBs := h.fr.size
  have ha := H.ab
  have hm := H.mb
  refine ⟨⟨vp, vt, vo, q, D, h1.fit (fun g hg => ?_), hS⟩, ?_⟩
  · rcases hg with hg | hg
    · obtain ⟨a, b, d, e, f, l, k⟩ := h1.kf g hg
      exact ⟨a, b, d, e, f, l, rfl⟩
    · obtain ⟨l1, l2⟩ := hv g hg.symm
      refine ⟨by show g ≠ c.ab; omega, by show g ≠ c.mb; omega, fun e => ?_, fun e => ?_, fun e => ?_, l2, rfl⟩
      · have := (h.rt.lt g e.symm).2; omega
      · have := (h.ro.lt g e.symm).2; omega
      · have := (h.rp.lt g e.symm).2; omega
  · rintro w2 Pn' N' s' ⟨vp', vt', vo', q', D', h2, hS2⟩
    refine ⟨⟨vp', vt', vo', q', D', h2.unfit (fun g hg => ?_), hS2⟩, fun k hk => ?_⟩
    · obtain ⟨a, b, d, e, f, l, k⟩ := h2.kf g (.inl hg)
      exact ⟨a, b, d, e, f, l, Eq.trans k ((h1.kf g hg).2.2.2.2.2.2)⟩
    · obtain ⟨a, b, d, e, f, l, k⟩ := h2.kf k (.inr hk.symm)
      exact ⟨l, k⟩

theorem readF_fine {nx : Int → Int} {base : Int} {pins : List Int} : ∀ (U : List Int) {s : AS}, Fine s → (∀ x ∈ U, 0 ≤ x ∧ x ≤ 65535) → Fine (readF nx base pins U s)
  | [], s, h, _ => h
  | v :: U, s, h, hU => by
    unfold readF
    split
    · rename_i hi
      have hv := hU v (by simp)
      have hm : v ∉ s.G := fun e => by have := (idxV_mem s.G v 0).2 e; omega
      have h1 := takeF_fine (nx := nx) (base := base) (pins := pins) h ⟨by omega, hv.2⟩ hm
      exact readF_fine U ⟨h1.g8, h1.gO, h1.tO, h1.gb, h1.tb⟩ (fun x hx => hU x (by simp [hx]))
    · exact readF_fine U h (fun x hx => hU x (by simp [hx]))
theorem readF_pos {nx : Int → Int} {base : Int} {pins : List Int} : ∀ (U : List Int) (s : AS), (readF nx base pins U s).pos = s.pos
  | [], s => rfl
  | v :: U, s => by
    unfold readF
    split
    · rw [readF_pos U]; exact takeF_pos nx base pins s v
    · exact readF_pos U s

theorem AlX.lt {c : AC} {w : World} {Pn : List Int} {N : Nat} {s : AS} (h : AlX c w Pn N s) : c.ab < w.heap.size := by
  obtain ⟨vp, vt, vo, q, D, h, hS⟩ := h
  exact h.lt
set_option maxHeartbeats 4000000 in
theorem aread_any {c : AC} (H : ACok c) {w : World} {Pn : List Int} {N : Nat} {s : AS} (h : AlX c w Pn N s) (hf : Fine s) (o : Op8) (hU : ∀ x ∈ regsOf [o.f0, o.f1, o.f2, o.f3], 0 ≤ x ∧ x ≤ 65535) (hN : N + 12 ≤ 10000) :
    Calls Tryd.prog 57 #[.pointer (some ⟨c.ab, 0, none⟩), opV o.K o.t0 o.t1 o.f0 o.f1 o.f2 o.f3 o.N] w fun e w' => e = .returned (.tuple #[]) ∧ AlX c w' Pn (N + 12) (readF (c.nx s.pos) c.base Pn (regsOf [o.f0, o.f1, o.f2, o.f3]) s) := by
  obtain ⟨U, hUe⟩ : ∃ U, U = regsOf [o.f0, o.f1, o.f2, o.f3] := ⟨_, rfl⟩
  have hU4 : (regsOf [o.f0, o.f1, o.f2, o.f3]).length ≤ 4 := by have := List.length_filter_le (fun x : Int => x != -1) [o.f0, o.f1, o.f2, o.f3]; simpa using this
  obtain ⟨S1, hS1⟩ : ∃ S1, S1 = readF (c.nx s.pos) c.base Pn U s := ⟨_, rfl⟩
  rw [← hUe] at hU hU4
  rw [← hUe, ← hS1]
  obtain ⟨P, hP⟩ : ∃ P, P = s.pos := ⟨_, rfl⟩
  rw [← hP] at hS1
  obtain ⟨w1, hw1⟩ : ∃ w1, w1 = w.alloc (.cells #[.int .i64 o.K, .int .i64 o.t0, .int .i64 o.t1, .int .i64 o.f0, .int .i64 o.f1, .int .i64 o.f2, .int .i64 o.f3, .int .u32 o.N] 37) := ⟨_, rfl⟩
  have hB1 : Below w.heap.size w w1 := by rw [hw1]; exact (Below.refl _ _).alloc (Nat.le_refl _) _
  have hO1 : OpAt w1 w.heap.size o.K o.t0 o.t1 o.f0 o.f1 o.f2 o.f3 o.N := by rw [hw1]; exact opAt_new w _ _ _ _ _ _ _ _
  have HA1 := Lib.hid (h.below hB1)
  obtain ⟨k0, k1, k2, k3, k4, k5, k6, k7⟩ := hO1.cells
  have hU1 := uses_any o.K o.t0 o.t1 o.f0 o.f1 o.f2 o.f3 o.N w1
  rw [← hUe] at hU1
  have HU1 := Lib.hid hU1
  have HS1 := Lib.hid hS1
  have HP := Lib.hid hP
  have HUe := Lib.hid hUe
  have HU := Lib.hid hU
  have HH := Lib.hid H
  have HF := Lib.hid hf
  clear hUe hU hS1 hP hU1 hB1 hO1 h H hf
  go_enter Tryd.func57, Tryd.ntmps57
  go_wp2_with fail
  rw [← hw1]
  clear hw1
  refine HU1.out.mono ?_
  rintro e w2 ⟨vu, rfl, hou, hbu⟩
  obtain ⟨hop, hcl⟩ := HA1.out.open_ HH.out hbu vu (fun k hk => hou.lt k hk)
  have hou' := hou
  obtain ⟨xu, cu, rfl, hcu, hfu⟩ := own_form hou rfl
  have hrow : ∀ (wr : World) (Pn' : List Int) (N' : Nat) (s' : AS), AlX (c.fit (fun k => c.F k ∨ some k = (Value.slice xu U.length cu).ownBlock) w2) wr Pn' N' s' → ∀ k (hk : k < U.length), ∃ g, xu = some ⟨g, 0, none⟩ ∧ g < wr.heap.size ∧ wr.cell? ⟨g, k, none⟩ = some (.int .i64 U[k]) := by
    intro wr Pn' N' s' hx k hk
    obtain ⟨g, rfl, hg, hg2, hc⟩ := hfu (by omega)
    obtain ⟨l, e⟩ := (hcl wr Pn' N' s' hx).2 g rfl
    exact ⟨g, rfl, l, (World.cell?_of_block (a := ⟨g, k, none⟩) e).trans (hc k hk)⟩
  have HOP := Lib.hid hop
  have HCL := Lib.hid hcl
  have HROW := Lib.hid hrow
  clear hop hcl hrow hou hou' hbu hfu k0 k1 k2 k3 k4 k5 k6 k7
  obtain ⟨c2, hc2⟩ : ∃ c2, c2 = c.fit (fun k => c.F k ∨ some k = (Value.slice xu U.length cu).ownBlock) w2 := ⟨_, rfl⟩
  have e_ab : c.ab = c2.ab := by rw [hc2]; rfl
  have e_base : c.base = c2.base := by rw [hc2]; rfl
  have e_nx : c.nx = c2.nx := by rw [hc2]; rfl
  have H2 : ACok c2 := by rw [hc2]; exact HH.out.fit _ _
  have hS1' := HS1.out
  rw [e_base, e_nx] at hS1'
  have HS2 := Lib.hid hS1'
  have hcl := HCL.out
  have hop := HOP.out
  have hrow := HROW.out
  rw [← hc2] at hcl hop hrow
  rw [e_ab]
  have HCL2 := Lib.hid hcl
  have HOP2 := Lib.hid hop
  have HROW2 := Lib.hid hrow
  have HH2 := Lib.hid H2
  clear hcl hop hrow H2 hS1' e_base e_nx HS1 HCL HOP HROW hc2
  go_wp2_with fail
  go_loopw [10] (fun i wr => ∃ (k : Nat) (s' : AS), k ≤ U.length ∧ i = .int .i64 k ∧ AlX c2 wr Pn (N + 3 * k) s' ∧ Fine s' ∧ s'.pos = P ∧ readF (c2.nx P) c2.base Pn (U.drop k) s' = S1) (fun i _ => U.length - (intOf i).toNat)
  case atStart => exact ⟨0, s, Nat.zero_le _, rfl, HOP2.out, HF.out, HP.out.symm, HS2.out.symm⟩
  case round =>
    obtain ⟨k, s', hk, rfl, hA, hF, hp, hr⟩ := hrel
    have HA := Lib.hid hA
    have HFi := Lib.hid hF
    have Hp := Lib.hid hp
    have Hr := Lib.hid hr
    have hls := hA.lt
    clear hA hF hp hr
    by_cases hlt : k < U.length
    · obtain ⟨g, rfl, hgl, y0⟩ := HROW2.out wr _ _ _ HA.out k hlt
      have hdr : U.drop k = U[k] :: U.drop (k + 1) := List.drop_eq_getElem_cons hlt
      have hb := HU.out _ (List.getElem_mem hlt)
      have wq : IntKind.i64.wrap ((k : Int) + 1) = (k : Int) + 1 := IntWalk.i64_in _ (by omega)
      have hr := Hr.out
      rw [hdr, readF] at hr
      generalize U[k]'hlt = v at y0 hb hr
      have hW := HA.out.where_ v
      have hkey : keyOf Tryd.prog 3 (.int .i64 v) = some (.int .i64 v) := keyOf_int_mk Tryd.underlying3 (WalkArith.wf_i64 (by omega))
      have HW := Lib.hid hW
      have Hr2 := Lib.hid hr
      clear hr hW hdr
      by_cases hJ : idxV s'.G v 0 < 0
      · have hr := Hr2.out
        rw [if_pos hJ] at hr
        have hm : v ∉ s'.G := fun e => by have := (idxV_mem s'.G v 0).2 e; omega
        have hT := take_any HH2.out HA.out HFi.out (by omega) v hb
        have hF1 := takeF_fine (nx := c2.nx s'.pos) (base := c2.base) (pins := Pn) HFi.out ⟨by omega, hb.2⟩ hm
        have hpo := takeF_pos (c2.nx s'.pos) c2.base Pn s' v
        rw [Hp.out] at hT hF1 hpo
        obtain ⟨R, hR⟩ : ∃ R, R = pickF (c2.nx P) Pn s' := ⟨_, rfl⟩
        obtain ⟨s1, hs1⟩ : ∃ s1, s1 = takeF (c2.nx P) c2.base Pn s' v := ⟨_, rfl⟩
        simp only at hr
        rw [← hs1, ← hR] at hr
        rw [← hs1] at hT hF1 hpo
        rw [← hR] at hT
        have HT := Lib.hid hT
        have HF1 := Lib.hid hF1
        have Hpo := Lib.hid hpo
        have HrT := Lib.hid hr
        clear hr hT hF1 hpo hR hs1
        generalize idxV s'.G v 0 = J at HW hJ
        go_wp2_with fail
        refine HW.out.mono ?_
        rintro e w3 ⟨rfl, rfl⟩
        go_wp2_with fail
        all_goals first | (exfalso; omega) | skip
        refine HT.out.mono ?_
        rintro e w4 ⟨rfl, hA4⟩
        obtain ⟨vp, vt, vo, q, D, hA4, hS4⟩ := hA4
        obtain ⟨c0, c1, c2', c3, c12, c13, c14, c15, c16, c17⟩ := hA4.cells
        have hls4 := hA4.lt
        have HM := Lib.hid hA4.map
        have HA4 := Lib.hid hA4
        have HS4 := Lib.hid hS4
        clear hA4 hS4
        go_wp2_with (at_lookup; refine wpList_lookup_own_int _ rfl _ _ 80 rfl 3 3 .i64 law3 Tryd.underlying80 Tryd.underlying3 (zero3 _) c2.mb q D rfl HM.out _ _ rfl hkey ?_; intro cc hat hwc)
        have hcc : cc = max (idxV s1.T v 0) 0 := by
          have h1 := (HS4.out.2 v hb.1 hb.2).2
          rw [hat] at h1
          injection h1 with h1
          injection h1
        have hccb : 0 ≤ cc ∧ cc ≤ 100000 := by
          have h1 := idxV_bd s1.T v 0
          have h2 := HA4.out.tn
          have h3 := HA4.out.n
          omega
        have Hcc := Lib.hid hcc
        have hbase := HH2.out.base
        clear hcc hat hwc
        refine (offset_any c2.ab c2.base cc _ c1 hbase hccb).mono ?_
        rintro e wo ⟨rfl, rfl⟩
        go_wp2_with fail
        refine (make_any 2 (c2.base + 4 * cc) _ none 1 1 0 0 [R] [] _ (.inr ⟨wo.heap.size, rfl, by simp, fun i hi => ?_⟩) (.inl rfl) rfl rfl (by omega) (by omega) (by intro g hg; injection hg with hg; injection hg with hg _ _; subst hg; simp) (by simp)).mono ?_
        · match i, hi with
          | 0, _ => rw [World.cell?_alloc_at _ _ _ _ rfl]; rfl
        rintro e wq ⟨rfl, hbq⟩
        have hA7 := (HA4.out.below ((Below.refl _ wo).alloc (Nat.le_refl _) (.cells #[.int .i64 R] 3))).below hbq
        go_wp2_with fail
        refine (add_any HH2.out hA7 ⟨2, R, -1, -1, -1, -1, -1, c2.base + 4 * cc⟩ (by omega)).mono ?_
        rintro e wr ⟨rfl, vo', hA8⟩
        have HA8 := Lib.hid hA8
        clear hA7 hA8 hbq
        go_wp2_with fail
        refine ⟨⟨k + 1, { s1 with out := s1.out ++ [⟨2, R, -1, -1, -1, -1, -1, c2.base + 4 * cc⟩] }, by omega, by simp, ⟨vp, vt, vo', q, D, HA8.out, HS4.out⟩, ⟨HF1.out.g8, HF1.out.gO, HF1.out.tO, HF1.out.gb, HF1.out.tb⟩, ?_, ?_⟩, by simp only [intOf]; omega⟩
        · show s1.pos = P
          rw [Hpo.out]
        · rw [Hcc.out]; exact HrT.out
      · have hr := Hr2.out
        rw [if_neg hJ] at hr
        have HrT := Lib.hid hr
        clear hr
        generalize idxV s'.G v 0 = J at HW hJ
        go_wp2_with fail
        refine HW.out.mono ?_
        rintro e w3 ⟨rfl, rfl⟩
        go_wp2_with fail
        all_goals first | (exfalso; omega) | skip
        exact ⟨⟨k + 1, s', by omega, by simp, HA.out.mono (by omega) (by omega), HFi.out, Hp.out, HrT.out⟩, by simp only [intOf]; omega⟩
    · have hkn : k = U.length := by omega
      have hr := Hr.out
      rw [hkn, List.drop_length, readF] at hr
      have HrT := Lib.hid hr
      clear hr
      go_wp2_with fail
      go_end0
      refine ⟨rfl, ?_⟩
      rw [← HrT.out]
      exact ((HCL2.out _ _ _ _ HA.out).1).mono (by omega) (by omega)
end Go.Proofs.YtmkencdkglbpbaaDoor
