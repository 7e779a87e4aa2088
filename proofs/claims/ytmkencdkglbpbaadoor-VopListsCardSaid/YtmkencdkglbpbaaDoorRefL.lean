/- The document's Right: a list of operations. -/
import Derived.Test.YtmkencdkglbpbaaDoorRightL
set_option maxRecDepth 100000
set_option linter.unusedVariables false
namespace Go.Proofs.YtmkencdkglbpbaaDoor
open Go.RowKit Go.Maps

theorem own_form0 {w : World} {B : Nat} {v : Value} {T : List Int} (h : w.ownsRow B 3 1 v T.length (iCells T)) : ∃ x c, v = .slice x T.length c ∧ T.length ≤ c ∧ (0 < T.length → ∃ g, x = some ⟨g, 0, none⟩ ∧ B ≤ g ∧ g < w.heap.size ∧ ∀ j (hj : j < T.length), w.cell? ⟨g, j, none⟩ = some (.int .i64 T[j])) := own_form h rfl
theorem neg_or {f : Int} (h : f = -1 ∨ 0 ≤ f) : decide (f < 0) = (f == -1) := by
  rcases h with h | h
  · subst h; rfl
  · have a : decide (f < 0) = false := by simp; omega
    have b : (f == -1) = false := by simp; omega
    rw [a, b]
/-- What the walk of From reckons. -/
def okF (set : List Int) (f : Int) : Bool := decide (f < 0) || set.contains f
theorem okF_all (set : List Int) (F : List Int) (h : ∀ f ∈ F, f = -1 ∨ 0 ≤ f) : (regsOf F).all (fun x => set.contains x) = F.all (okF set) := by
  induction F with
  | nil => rfl
  | cons f F ih =>
    have hf := h f (List.mem_cons_self ..)
    have ih := ih fun x hx => h x (List.mem_cons_of_mem _ hx)
    have e : okF set f = ((f == -1) || set.contains f) := by unfold okF; rw [neg_or hf]
    rw [List.all_cons, ← ih, e]
    by_cases e : f = -1
    · subst e; simp [regsOf, List.filter_cons]
    · have e1 : (f != -1) = true := by simpa using e
      have e2 : (f == -1) = false := by simpa using e
      simp [regsOf, List.filter_cons, e1, e2]
theorem right_neg {o : Op8} (h : rightV o.K o.t0 o.t1 o.f0 o.f1 o.f2 o.f3 o.N = true) : (∀ f ∈ [o.f0, o.f1, o.f2, o.f3], f = -1 ∨ 0 ≤ f) ∧ (∀ f ∈ [o.t0, o.t1], f = -1 ∨ 0 ≤ f) := by
  obtain ⟨k, _, h⟩ := rightOp_of h
  have a0 := (okAt_iff _ _ _).1 h.pf0
  have a1 := (okAt_iff _ _ _).1 h.pf1
  have a2 := (okAt_iff _ _ _).1 h.pf2
  have a3 := (okAt_iff _ _ _).1 h.pf3
  have b0 := (okAt_iff _ _ _).1 h.pt0
  have b1 := (okAt_iff _ _ _).1 h.pt1
  refine ⟨fun x hx => ?_, fun x hx => ?_⟩
  · simp only [List.mem_cons, List.not_mem_nil, or_false] at hx
    rcases hx with rfl | rfl | rfl | rfl <;> omega
  · simp only [List.mem_cons, List.not_mem_nil, or_false] at hx
    rcases hx with rfl | rfl <;> omega

set_option maxHeartbeats 8000000 in
theorem refRight_list (x : Option Addr) (n c : Nat) (L : List Op8) (w : World) (hL : OpsSl w x L) (hn : L.length = n) (hl : n ≤ 100) (hnc : n ≤ c) (hN : ∀ o ∈ L, 0 ≤ o.N ∧ o.N < 4294967296) :
    Calls Tryd.prog 29 #[.slice x n c] w fun e w' => e = .returned (.bool (listV [] L)) ∧ Below w.heap.size w w' := by
  obtain ⟨i0, hi, hz0, hz1, hz2⟩ := info_parts Tryd.infoInt
  have HL := Lib.hid hL
  have HN := Lib.hid hn
  have HB := Lib.hid hN
  obtain ⟨V, hV⟩ : ∃ V, V = listV [] L := ⟨_, rfl⟩
  rw [← hV]
  have HV := Lib.hid hV
  clear hL hn hN hV
  go_enter Tryd.func29, Tryd.ntmps29
  go_wp2_with fail
  go_loopw [3, 4] (fun sv i wr => ∃ (k : Nat) (set : List Int), k ≤ n ∧ i = .int .i64 k ∧ set.length ≤ 2 * k ∧ wr.ownsRow w.heap.size 3 1 sv set.length (iCells set) ∧ (∀ x ∈ set, 0 ≤ x) ∧ listV set (L.drop k) = V ∧ Below w.heap.size w wr) (fun _ i _ => n - (intOf i).toNat)
  case atStart => exact ⟨0, [], Nat.zero_le _, rfl, Nat.zero_le _, World.ownsRow_nil _ _ _ _, by simp, HV.out.symm, Below.refl _ _⟩
  case round =>
    obtain ⟨k, set, hk, rfl, hsl, hown, hpos, hv, hb⟩ := hrel
    have HOWN := Lib.hid hown
    have HPOS := Lib.hid hpos
    have Hv := Lib.hid hv
    have HBr := Lib.hid hb
    have HLr := Lib.hid (HL.out.below hb)
    obtain ⟨xs, cs, rfl, hcs, hfs⟩ := own_form0 hown
    clear hown hpos hv hb hfs
    by_cases hlt : k < n
    · have hlt' : k < L.length := by rw [HN.out]; exact hlt
      obtain ⟨b, o, rfl, hb, hc⟩ := HL.out.resolve_left (by have := HN.out; omega)
      obtain ⟨e0, e1, e2, e3, e4, e5, e6, e7⟩ := hc k hlt'
      have hdrop : L.drop k = L[k] :: L.drop (k + 1) := List.drop_eq_getElem_cons hlt'
      have hbn := HB.out _ (List.getElem_mem hlt')
      generalize L[k]'hlt' = p at e0 e1 e2 e3 e4 e5 e6 e7 hdrop hbn
      have HD := Lib.hid hdrop
      have HBN := Lib.hid hbn
      have CF : Hid (∀ w', Below w.heap.size w w' → ∀ kk (h : kk < 4), w'.cell? ⟨b, o + k * 8 + 3 + kk, none⟩ = some (.int .i64 ([p.f0, p.f1, p.f2, p.f3][kk]'h))) := fun w' hbw kk hkk => by
        have q : ∀ j, w'.cell? ⟨b, j, none⟩ = w.cell? ⟨b, j, none⟩ := fun j => hbw.cell (p := ⟨b, j, none⟩) hb
        rcases (show kk = 0 ∨ kk = 1 ∨ kk = 2 ∨ kk = 3 by omega) with rfl | rfl | rfl | rfl
        · rw [q]; exact e3
        · rw [q]; exact e4
        · rw [q]; exact e5
        · rw [q]; exact e6
      have CT : Hid (∀ w', Below w.heap.size w w' → ∀ kk (h : kk < 2), w'.cell? ⟨b, o + k * 8 + 1 + kk, none⟩ = some (.int .i64 ([p.t0, p.t1][kk]'h))) := fun w' hbw kk hkk => by
        have q : ∀ j, w'.cell? ⟨b, j, none⟩ = w.cell? ⟨b, j, none⟩ := fun j => hbw.cell (p := ⟨b, j, none⟩) hb
        rcases (show kk = 0 ∨ kk = 1 by omega) with rfl | rfl
        · rw [q]; exact e1
        · rw [q]; exact e2
      have c0 := (HBr.out.cell (p := ⟨b, o + k * 8, none⟩) hb).trans e0
      have c1 := (HBr.out.cell (p := ⟨b, o + k * 8 + 1, none⟩) hb).trans e1
      have c2 := (HBr.out.cell (p := ⟨b, o + k * 8 + 2, none⟩) hb).trans e2
      have c3 := (HBr.out.cell (p := ⟨b, o + k * 8 + 3, none⟩) hb).trans e3
      have c4 := (HBr.out.cell (p := ⟨b, o + k * 8 + 4, none⟩) hb).trans e4
      have c5 := (HBr.out.cell (p := ⟨b, o + k * 8 + 5, none⟩) hb).trans e5
      have c6 := (HBr.out.cell (p := ⟨b, o + k * 8 + 6, none⟩) hb).trans e6
      have c7 := (HBr.out.cell (p := ⟨b, o + k * 8 + 7, none⟩) hb).trans e7
      clear e0 e1 e2 e3 e4 e5 e6 e7
      have wq : IntKind.i64.wrap ((k : Int) + 1) = (k : Int) + 1 := IntWalk.i64_in _ (by omega)
      have hbs := HBr.out.size
      clear hc hdrop hbn
      go_wp2_with fail
      refine (refRight_any p.K p.t0 p.t1 p.f0 p.f1 p.f2 p.f3 p.N HBN.out.1 HBN.out.2 wr).mono ?_
      rintro e w2 ⟨rfl, hb2⟩
      have HB2 := Lib.hid hb2
      have HT2 := Lib.hid (HBr.out.trans (hb2.mono HBr.out.size))
      have HOWN2 := Lib.hid (ownsRow_below HOWN.out hb2)
      clear hb2 c0 c1 c2 c3 c4 c5 c6 c7
      have hv := Hv.out
      rw [HD.out, listV] at hv
      cases hr : rightV p.K p.t0 p.t1 p.f0 p.f1 p.f2 p.f3 p.N
      · rw [hr, Bool.false_and] at hv
        have HVF := Lib.hid hv
        clear hv hr
        go_wp2_with fail
        go_ret
        exact ⟨by rw [← HVF.out]; rfl, HT2.out⟩
      obtain ⟨hnF, hnT⟩ := right_neg hr
      rw [hr, Bool.true_and, okF_all set _ hnF] at hv
      have HV2 := Lib.hid hv
      have HNF := Lib.hid hnF
      have HNT := Lib.hid hnT
      obtain ⟨F, hF⟩ : ∃ F, F = [p.f0, p.f1, p.f2, p.f3] := ⟨_, rfl⟩
      have HF := Lib.hid hF
      have hFl : F.length = 4 := by rw [hF]; rfl
      clear hv hr hnF hnT hF
      obtain ⟨x2, cc2, e2, hcc2, hf2⟩ := own_form0 HOWN2.out
      injection e2 with e2a e2b e2c
      subst e2a e2c
      have HF2 := Lib.hid hf2
      clear hf2 e2b
      go_wp2_with fail
      go_loopw [5] (fun kv wz => ∃ kk : Nat, kk ≤ 4 ∧ kv = .int .i64 kk ∧ (∃ nd, wz = w2.drewN nd) ∧ ∀ x ∈ F.take kk, okF set x = true) (fun kv _ => 4 - (intOf kv).toNat)
      case atStart => exact ⟨0, by omega, rfl, ⟨0, rfl⟩, by simp⟩
      case round =>
        obtain ⟨kk, hkk, rfl, ⟨nd, rfl⟩, hall⟩ := hrel
        have HALL := Lib.hid hall
        clear hall
        have HTd := Lib.hid (below_drewN HT2.out nd)
        by_cases hk4 : kk < 4
        · have y0 := CF.out _ HTd.out kk hk4
          have hFk : F[kk]? = some ([p.f0, p.f1, p.f2, p.f3][kk]'hk4) := by rw [HF.out]; exact List.getElem?_eq_getElem hk4
          have CFk : Hid (∀ w', Below w.heap.size w w' → w'.cell? ⟨b, o + k * 8 + 3 + kk, none⟩ = some (.int .i64 ([p.f0, p.f1, p.f2, p.f3][kk]'hk4))) := fun w' hw' => CF.out w' hw' kk hk4
          generalize [p.f0, p.f1, p.f2, p.f3][kk]'hk4 = Y at y0 hFk CFk
          have hst : F.take (kk + 1) = F.take kk ++ [Y] := by rw [List.take_add_one, hFk]; rfl
          have hYF : Y ∈ F := List.mem_of_getElem? hFk
          have Hst := Lib.hid hst
          have HYF := Lib.hid hYF
          have wk : IntKind.i64.wrap ((kk : Int) + 1) = (kk : Int) + 1 := IntWalk.i64_in _ (by omega)
          have i4 : (kk : Int) < 4 := by omega
          clear hFk hst hYF
          go_wp2_with fail
          go_loopw [6, 7] (fun okv jv wy => ∃ (j : Nat) (okb : Bool), j ≤ set.length ∧ jv = .int .i64 j ∧ okv = .bool okb ∧ (∃ nd', wy = w2.drewN nd') ∧ (decide (Y < 0) || (set.take j).contains Y) = okb) (fun _ jv _ => set.length - (intOf jv).toNat)
          case atStart => exact ⟨0, _, Nat.zero_le _, rfl, rfl, ⟨nd, rfl⟩, by simp⟩
          case round =>
            obtain ⟨j, okb, hj, rfl, rfl, ⟨nd', rfl⟩, hok⟩ := hrel
            have HTe := Lib.hid (below_drewN HT2.out nd')
            by_cases hlj : j < set.length
            · obtain ⟨g, rfl, hg, hg2, hcg⟩ := HF2.out (by omega)
              have z0 := hcg j hlj
              have y1 := CFk.out _ HT2.out
              have hst2 : set.take (j + 1) = set.take j ++ [set[j]] := List.take_succ_eq_append_getElem hlj
              generalize set[j]'hlj = Z at z0 hst2
              have Hst2 := Lib.hid hst2
              have wj : IntKind.i64.wrap ((j : Int) + 1) = (j : Int) + 1 := IntWalk.i64_in _ (by omega)
              clear hst2 hcg y0
              cases okb
              · have HOK := Lib.hid hok
                clear hok
                by_cases hzy : Z = Y
                · have e1 : (Z == Y) = true := by simpa using hzy
                  have HZ := Lib.hid hzy
                  clear hzy
                  go_wp2_with fail
                  go_quiet (fail)
                  go_wp2_with fail
                  refine ⟨⟨j + 1, _, by omega, by simp, rfl, ⟨_, rfl⟩, ?_⟩, by simp only [intOf]; omega⟩
                  rw [Hst2.out, HZ.out]; simp
                · have e1 : (Z == Y) = false := by simpa using hzy
                  have HZ := Lib.hid hzy
                  clear hzy
                  go_wp2_with fail
                  go_quiet (fail)
                  go_wp2_with fail
                  refine ⟨⟨j + 1, _, by omega, by simp, rfl, ⟨_, rfl⟩, ?_⟩, by simp only [intOf]; omega⟩
                  have h1 := HOK.out
                  have h2 := HZ.out
                  rw [Hst2.out]
                  simp only [Bool.or_eq_false_iff] at h1
                  simp [h1.1]
                  exact ⟨by simpa using h1.2, fun e => h2 e.symm⟩
              · have HOK := Lib.hid hok
                clear hok
                go_wp2_with fail
                go_quiet (fail)
                go_wp2_with fail
                refine ⟨⟨j + 1, _, by omega, by simp, rfl, ⟨_, rfl⟩, ?_⟩, by simp only [intOf]; omega⟩
                have h1 := HOK.out
                rw [Hst2.out]
                rw [Bool.or_eq_true] at h1
                rcases h1 with h1 | h1
                · rw [h1]; rfl
                · have : (set.take j ++ [Z]).contains Y = true := by
                    rw [List.contains_iff_mem] at h1 ⊢
                    exact List.mem_append_left _ h1
                  rw [this]; simp
            · have hjq : j = set.length := by omega
              have ht : set.take j = set := by rw [hjq, List.take_length]
              rw [ht] at hok
              cases okb
              · have hv := HV2.out
                rw [← HF.out, List.all_eq_false.2 ⟨Y, HYF.out, by unfold okF; rw [hok]; simp⟩, Bool.false_and] at hv
                have HVF := Lib.hid hv
                clear hv hok ht
                go_wp2_with fail
                go_ret
                exact ⟨by rw [← HVF.out]; rfl, HTe.out⟩
              · have HOK := Lib.hid hok
                clear hok ht
                go_wp2_with fail
                refine ⟨⟨kk + 1, by omega, by simp, ⟨_, rfl⟩, ?_⟩, by simp only [intOf]; omega⟩
                rw [Hst.out]
                intro x hx
                rcases List.mem_append.1 hx with hx | hx
                · exact HALL.out x hx
                · rw [List.mem_singleton.1 hx]; exact HOK.out
        · have hkq : kk = 4 := by omega
          have hall := HALL.out
          rw [hkq, List.take_of_length_le (by omega)] at hall
          have hv := HV2.out
          rw [← HF.out, List.all_eq_true.2 hall, Bool.true_and] at hv
          have HVT := Lib.hid hv
          clear hall hv
          obtain ⟨T, hT⟩ : ∃ T, T = [p.t0, p.t1] := ⟨_, rfl⟩
          have HTT := Lib.hid hT
          have hTl : T.length = 2 := by rw [hT]; rfl
          have HOWN5 := Lib.hid (ownsRow_below HOWN2.out (below_drewN (Below.refl _ _) nd))
          clear hT hkq
          go_wp2_with fail
          go_loopw [3, 8] (fun sv kv wz => ∃ (kt : Nat) (set' : List Int), kt ≤ 2 ∧ kv = .int .i64 kt ∧ set'.length ≤ set.length + kt ∧ wz.ownsRow w.heap.size 3 1 sv set'.length (iCells set') ∧ (∀ x ∈ set', 0 ≤ x) ∧ (match setsV set' (regsOf (T.drop kt)) with | none => false | some s => listV s (L.drop (k + 1))) = V ∧ Below w.heap.size w wz) (fun _ kv _ => 2 - (intOf kv).toNat)
          case atStart => exact ⟨0, set, by omega, rfl, by omega, HOWN5.out, HPOS.out, by rw [List.drop_zero, HTT.out]; exact HVT.out, HTd.out⟩
          case round =>
            obtain ⟨kt, set', hkt, rfl, hsl', hown', hpos', hv', hbz⟩ := hrel
            have HOZ := Lib.hid hown'
            have HPZ := Lib.hid hpos'
            have HVZ := Lib.hid hv'
            have HBZ := Lib.hid hbz
            obtain ⟨x3, cc3, rfl, hcc3, hf3⟩ := own_form0 hown'
            have HF3 := Lib.hid hf3
            clear hown' hpos' hv' hbz hf3
            by_cases hk2 : kt < 2
            · have y0 := CT.out _ HBZ.out kt hk2
              have hTk : T[kt]? = some ([p.t0, p.t1][kt]'hk2) := by rw [HTT.out]; exact List.getElem?_eq_getElem hk2
              generalize [p.t0, p.t1][kt]'hk2 = Y at y0 hTk
              have hYT : Y = -1 ∨ 0 ≤ Y := HNT.out Y (by rw [← HTT.out]; exact List.mem_of_getElem? hTk)
              have hdr : T.drop kt = Y :: T.drop (kt + 1) := by
                have hl : kt < T.length := by omega
                rw [List.drop_eq_getElem_cons hl]
                rw [List.getElem?_eq_getElem hl] at hTk
                injection hTk with hTk
                rw [hTk]
              have HYT := Lib.hid hYT
              have HDR := Lib.hid hdr
              have wk : IntKind.i64.wrap ((kt : Int) + 1) = (kt : Int) + 1 := IntWalk.i64_in _ (by omega)
              have i2 : (kt : Int) < 2 := by omega
              clear hTk hYT hdr
              go_wp2_with fail
              go_loopw [9] (fun jv wy => ∃ j : Nat, j ≤ set'.length ∧ jv = .int .i64 j ∧ (∃ nd', wy = wr.drewN nd') ∧ ∀ x ∈ set'.take j, x ≠ Y) (fun jv _ => set'.length - (intOf jv).toNat)
              case atStart => exact ⟨0, Nat.zero_le _, rfl, ⟨0, rfl⟩, by simp⟩
              case round =>
                obtain ⟨j, hj, rfl, ⟨nd', rfl⟩, hne⟩ := hrel
                have HNE := Lib.hid hne
                have HTe := Lib.hid (below_drewN HBZ.out nd')
                clear hne
                by_cases hlj : j < set'.length
                · obtain ⟨g, rfl, hg, hg2, hcg⟩ := HF3.out (by omega)
                  have z0 := hcg j hlj
                  have hst2 : set'.take (j + 1) = set'.take j ++ [set'[j]] := List.take_succ_eq_append_getElem hlj
                  have hmem := List.getElem_mem hlj
                  generalize set'[j]'hlj = Z at z0 hst2 hmem
                  have Hst2 := Lib.hid hst2
                  have HMem := Lib.hid hmem
                  have wj : IntKind.i64.wrap ((j : Int) + 1) = (j : Int) + 1 := IntWalk.i64_in _ (by omega)
                  clear hst2 hcg hmem
                  by_cases hzy : Z = Y
                  · have e1 : (Z == Y) = true := by simpa using hzy
                    have HZ := Lib.hid hzy
                    clear hzy
                    go_wp2_with fail
                    go_quiet (fail)
                    go_wp2_with fail
                    go_ret
                    have hm := HMem.out
                    rw [HZ.out] at hm
                    have h0 := HPZ.out Y hm
                    have hv := HVZ.out
                    have e2 : (Y != -1) = true := by simp; omega
                    rw [HDR.out, show regsOf (Y :: T.drop (kt + 1)) = Y :: regsOf (T.drop (kt + 1)) from by simp [regsOf, List.filter_cons, e2], setsV, if_pos (by rw [List.contains_iff_mem]; exact hm)] at hv
                    exact ⟨by rw [← hv]; rfl, below_drewN HTe.out _⟩
                  · have e1 : (Z == Y) = false := by simpa using hzy
                    have HZ := Lib.hid hzy
                    clear hzy
                    go_wp2_with fail
                    go_quiet (fail)
                    go_wp2_with fail
                    refine ⟨⟨j + 1, by omega, by simp, ⟨_, rfl⟩, ?_⟩, by simp only [intOf]; omega⟩
                    rw [Hst2.out]
                    intro x hx
                    rcases List.mem_append.1 hx with hx | hx
                    · exact HNE.out x hx
                    · rw [List.mem_singleton.1 hx]; exact HZ.out
                · have hjq : j = set'.length := by omega
                  have hne := HNE.out
                  rw [hjq, List.take_length] at hne
                  have HNE2 := Lib.hid hne
                  clear hne
                  rcases HYT.out with hY | hY
                  · have e1 : decide (0 ≤ Y) = false := by rw [hY]; rfl
                    have HY := Lib.hid hY
                    clear hY
                    go_wp2_with fail
                    refine ⟨⟨kt + 1, set', by omega, by simp, by omega, ownsRow_below HOZ.out (below_drewN (Below.refl _ _) nd'), HPZ.out, ?_, HTe.out⟩, by simp only [intOf]; omega⟩
                    rw [← HVZ.out, HDR.out, HY.out]
                    rfl
                  · have e1 : decide (0 ≤ Y) = true := by simpa using hY
                    have HY := Lib.hid hY
                    have HOY := Lib.hid (ownsRow_below HOZ.out (below_drewN (Below.refl _ _) nd'))
                    have hsz := HTe.out.size
                    have hsz0 := HBZ.out.size
                    clear hY
                    go_wp2_with (at_builtin; refine wpList_append_own _ rfl (.tmp 87) (.tmp 95) 41 rfl w.heap.size 3 i0 (.int .i64 0) 1 8 Tryd.underlying41 hi hz0 hz1 hz2 rfl (by decide) _ _ _ rfl (HOY.out.alloc _) ⟨(wr.drewN nd').heap.size, 0, none⟩ 1 1 [.int .i64 Y] rfl rfl ?c1 ?c2 ?c3 ?c4 ?c5 ?_)
                    case c1 => exact i_new _ _ Y rfl
                    case c2 => exact i_one _
                    case c3 => unfold maxLen; omega
                    case c4 => omega
                    case c5 => simp; omega
                    intro v6 w6 hown6 hgrow6 _
                    have hne6 := (HOY.out.alloc (.cells #[.int .i64 Y] 3)).lt
                    have HB6 := Lib.hid ((HTe.out.alloc HTe.out.size (.cells #[.int .i64 Y] 3)).grown hgrow6 (by simp; omega) (fun b e => (hne6 b e).1))
                    have HOWN6 := Lib.hid hown6
                    clear hown6 hgrow6 hne6
                    go_wp2_with fail
                    refine ⟨⟨kt + 1, set' ++ [Y], by omega, by simp, by simp; omega, ?_, ?_, ?_, HB6.out⟩, by simp only [intOf]; omega⟩
                    · rw [iCells, List.map_append, List.length_append]; exact HOWN6.out
                    · intro x hx
                      rcases List.mem_append.1 hx with hx | hx
                      · exact HPZ.out x hx
                      · rw [List.mem_singleton.1 hx]; exact HY.out
                    · have hv := HVZ.out
                      have e2 : (Y != -1) = true := by have := HY.out; simp; omega
                      rw [HDR.out, show regsOf (Y :: T.drop (kt + 1)) = Y :: regsOf (T.drop (kt + 1)) from by simp [regsOf, List.filter_cons, e2], setsV, if_neg (by rw [List.contains_iff_mem]; intro hm; exact HNE2.out Y hm rfl)] at hv
                      exact hv
            · have hkq2 : kt = 2 := by omega
              have hv := HVZ.out
              rw [hkq2, List.drop_eq_nil_of_le (by omega), show regsOf [] = [] from rfl, setsV] at hv
              have HVE := Lib.hid hv
              clear hv
              go_wp2_with fail
              exact ⟨⟨k + 1, set', by omega, by simp, by omega, HOZ.out, HPZ.out, HVE.out, HBZ.out⟩, by simp only [intOf]; omega⟩
    · have hkn : k = n := by omega
      have hv := Hv.out
      rw [hkn, ← HN.out, List.drop_length, listV] at hv
      have HVV := Lib.hid hv
      clear hv
      go_wp2_with fail
      go_ret
      exact ⟨by rw [← HVV.out]; rfl, HBr.out⟩
end Go.Proofs.YtmkencdkglbpbaaDoor
