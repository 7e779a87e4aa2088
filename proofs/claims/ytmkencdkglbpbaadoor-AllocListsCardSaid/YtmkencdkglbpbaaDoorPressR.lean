/- The document's Pressure. -/
import Derived.Test.YtmkencdkglbpbaaDoorAlPr
import Derived.Test.YtmkencdkglbpbaaDoorOfR
set_option maxRecDepth 100000
set_option linter.unusedVariables false
namespace Go.Proofs.YtmkencdkglbpbaaDoor
open Go.RowKit Go.Maps

def toK (k : Nat) (o : Op8) : Int := if k = 0 then o.t0 else o.t1
def ownK (k : Nat) (o : Op8) : Nat := if 0 ≤ toK k o then 1 else 0
def cntF (L : List Op8) (i k : Nat) (A : List Op8) : Nat := (A.filter (fun o => decide (0 ≤ toK k o) && readsF L i (toK k o))).length
/-- What the document counts. -/
def sumK (L : List Op8) (i : Nat) (p : Op8) : Nat → Nat
  | 0 => 0
  | k + 1 => sumK L i p k + ownK k p + cntF L i k (L.take i)
theorem regs2_len {t0 t1 : Int} (h0 : t0 = -1 ∨ 0 ≤ t0) (h1 : t1 = -1 ∨ 0 ≤ t1) (R : Int → Bool) : ((regsOf [t0, t1]).filter R).length = (if 0 ≤ t0 ∧ R t0 = true then 1 else 0) + (if 0 ≤ t1 ∧ R t1 = true then 1 else 0) := by
  have e : ∀ x : Int, 0 ≤ x → (x != -1) = true := fun x hx => by simp; omega
  rcases h0 with rfl | h0 <;> rcases h1 with rfl | h1
  · simp [regsOf]
  · cases hr : R t1 <;> simp [regsOf, e t1 h1, h1, hr]
  · cases hr : R t0 <;> simp [regsOf, e t0 h0, h0, hr]
  · cases hr : R t0 <;> cases hr2 : R t1 <;> simp [regsOf, e t0 h0, e t1 h1, h0, h1, hr, hr2]
theorem sets_cnt (L : List Op8) (i : Nat) : ∀ A : List Op8, (∀ o ∈ A, (o.t0 = -1 ∨ 0 ≤ o.t0) ∧ (o.t1 = -1 ∨ 0 ≤ o.t1)) → ((setsF A).filter (fun v => readsF L i v)).length = cntF L i 0 A + cntF L i 1 A
  | [], _ => rfl
  | o :: A, h => by
    have ih := sets_cnt L i A (fun x hx => h x (by simp [hx]))
    obtain ⟨h0, h1⟩ := h o (by simp)
    have hr := regs2_len h0 h1 (fun v => readsF L i v)
    have c : ∀ k, cntF L i k (o :: A) = (if 0 ≤ toK k o ∧ readsF L i (toK k o) = true then 1 else 0) + cntF L i k A := fun k => by
      unfold cntF
      rw [List.filter_cons]
      by_cases hc : 0 ≤ toK k o ∧ readsF L i (toK k o) = true
      · rw [if_pos (by simpa using hc), if_pos hc]; simp; omega
      · rw [if_neg (by simpa using hc), if_neg hc]; simp
    rw [c 0, c 1]
    have e0 : toK 0 o = o.t0 := rfl
    have e1 : toK 1 o = o.t1 := rfl
    rw [e0, e1]
    simp only [setsF, List.flatMap_cons, List.filter_append, List.length_append] at ih ⊢
    rw [hr, ih]
    omega
theorem sumK_two {L : List Op8} {i : Nat} {p : Op8} (hp : (p.t0 = -1 ∨ 0 ≤ p.t0) ∧ (p.t1 = -1 ∨ 0 ≤ p.t1)) (h : ∀ o ∈ L.take i, (o.t0 = -1 ∨ 0 ≤ o.t0) ∧ (o.t1 = -1 ∨ 0 ≤ o.t1)) : sumK L i p 2 = pressAt L i p := by
  unfold pressAt
  rw [sets_cnt L i _ h]
  have := regs2_len hp.1 hp.2 (fun _ => true)
  rw [List.filter_eq_self.2 (fun _ _ => rfl)] at this
  rw [this]
  simp only [sumK, ownK]
  have e0 : toK 0 p = p.t0 := rfl
  have e1 : toK 1 p = p.t1 := rfl
  rw [e0, e1]
  simp only [and_true]
  omega
theorem cntF_le (L : List Op8) (i k : Nat) (A : List Op8) : cntF L i k A ≤ A.length := List.length_filter_le _ _
theorem ownK_le (k : Nat) (p : Op8) : ownK k p ≤ 1 := by unfold ownK; split <;> omega
theorem sumK_le (L : List Op8) (i : Nat) (p : Op8) : ∀ k, sumK L i p k ≤ k * (i + 1)
  | 0 => by simp [sumK]
  | k + 1 => by
    have h1 := sumK_le L i p k
    have h2 := ownK_le k p
    have h3 := cntF_le L i k (L.take i)
    rw [List.length_take] at h3
    rw [sumK, Nat.succ_mul]
    omega
theorem blockA_cells {w : World} {b : Nat} {v0 v11 v12 : Value} {a1 a2 g0 g1 g2 g3 g4 g5 g6 g7 m e0 : Int} (h : w.heap[b]? = some (.cells #[v0, .int .i64 a1, .int .i64 a2, .int .i64 g0, .int .i64 g1, .int .i64 g2, .int .i64 g3, .int .i64 g4, .int .i64 g5, .int .i64 g6, .int .i64 g7, v11, v12, .int .i64 m, .int .i64 e0] 86 (0, 0))) :
    w.cell? ⟨b, 0, none⟩ = some v0 ∧ w.cell? ⟨b, 1, none⟩ = some (.int .i64 a1) ∧ w.cell? ⟨b, 2, none⟩ = some (.int .i64 a2) ∧ w.cell? ⟨b, 3, none⟩ = some (.int .i64 g0) ∧ w.cell? ⟨b, 4, none⟩ = some (.int .i64 g1) ∧ w.cell? ⟨b, 5, none⟩ = some (.int .i64 g2) ∧ w.cell? ⟨b, 6, none⟩ = some (.int .i64 g3) ∧ w.cell? ⟨b, 7, none⟩ = some (.int .i64 g4) ∧ w.cell? ⟨b, 8, none⟩ = some (.int .i64 g5) ∧ w.cell? ⟨b, 9, none⟩ = some (.int .i64 g6) ∧ w.cell? ⟨b, 10, none⟩ = some (.int .i64 g7) ∧ w.cell? ⟨b, 11, none⟩ = some v11 ∧ w.cell? ⟨b, 12, none⟩ = some v12 ∧ w.cell? ⟨b, 13, none⟩ = some (.int .i64 m) ∧ w.cell? ⟨b, 14, none⟩ = some (.int .i64 e0) := by
  refine ⟨?_, ?_, ?_, ?_, ?_, ?_, ?_, ?_, ?_, ?_, ?_, ?_, ?_, ?_, ?_⟩ <;> (simp only [World.cell?, h]; rfl)

set_option maxHeartbeats 8000000 in
theorem pressR_any (x : Option Addr) (n c : Nat) (L : List Op8) (w : World) (hL : OpsSl w x L) (hn : L.length = n) (hn2 : n ≤ 100) (hT : ∀ o ∈ L, (o.t0 = -1 ∨ 0 ≤ o.t0) ∧ (o.t1 = -1 ∨ 0 ≤ o.t1)) :
    Calls Tryd.prog 19 #[.slice x n c] w fun e w' => e = .returned (.int .i64 (pressF L L 0 0)) ∧ Below w.heap.size w w' := by
  obtain ⟨V, hV⟩ : ∃ V, V = pressF L L 0 0 := ⟨_, rfl⟩
  rw [← hV]
  have HV := Lib.hid hV
  have HL := Lib.hid hL
  have HN := Lib.hid hn
  have HT := Lib.hid hT
  clear hL hn hV hT
  go_enter Tryd.func19, Tryd.ntmps19
  go_wp2_with fail
  have hbA := (Below.refl _ w).alloc (Nat.le_refl _) (.cells #[.slice x n c, .int .i64 0, .int .i64 0, .int .i64 0, .int .i64 0, .int .i64 0, .int .i64 0, .int .i64 0, .int .i64 0, .int .i64 0, .int .i64 0, .slice none 0 0, .slice none 0 0, .int .i64 0, .int .i64 0] 86)
  have hblk := (MapKept.heap_alloc w (.cells #[.slice x n c, .int .i64 0, .int .i64 0, .int .i64 0, .int .i64 0, .int .i64 0, .int .i64 0, .int .i64 0, .int .i64 0, .int .i64 0, .int .i64 0, .slice none 0 0, .slice none 0 0, .int .i64 0, .int .i64 0] 86)).1
  have hbl : w.heap.size < (w.alloc (.cells #[.slice x n c, .int .i64 0, .int .i64 0, .int .i64 0, .int .i64 0, .int .i64 0, .int .i64 0, .int .i64 0, .int .i64 0, .int .i64 0, .int .i64 0, .slice none 0 0, .slice none 0 0, .int .i64 0, .int .i64 0] 86)).heap.size := by simp
  generalize w.alloc _ = w1 at hbA hblk hbl ⊢
  have HLB := Lib.hid (HL.out.below hbA)
  have HB1 := Lib.hid hbA
  have Hblk := Lib.hid hblk
  clear hbA hblk HL
  go_loopw [4, 5] (fun mv iv wr => ∃ i m : Nat, i ≤ n ∧ iv = .int .i64 i ∧ mv = .int .i64 (m : Int) ∧ m ≤ 1000 ∧ Below w1.heap.size w1 wr ∧ pressF L (L.drop i) i m = V) (fun _ iv _ => n - (intOf iv).toNat)
  case atStart => exact ⟨0, 0, Nat.zero_le _, rfl, rfl, by omega, Below.refl _ _, HV.out.symm⟩
  case round =>
    obtain ⟨i, m, hi, rfl, rfl, hm, hB, hv⟩ := hrel
    have HB := Lib.hid hB
    have Hv := Lib.hid hv
    clear hB hv
    by_cases hlt : i < n
    · have hlt' : i < L.length := by rw [HN.out]; exact hlt
      have hdr : L.drop i = L[i] :: L.drop (i + 1) := List.drop_eq_getElem_cons hlt'
      have hv := Hv.out
      rw [hdr, pressF] at hv
      have hTp := HT.out _ (List.getElem_mem hlt')
      have hs2 := sumK_two (L := L) (i := i) (p := L[i]) hTp (fun o ho => HT.out o (List.mem_of_mem_take ho))
      have hpi : ∀ k : Nat, k < 2 → ∀ wz, Below w1.heap.size w1 wz → ∃ b o, x = some ⟨b, o, none⟩ ∧ b < wz.heap.size ∧ wz.cell? ⟨b, o + i * 8 + 1 + k, none⟩ = some (.int .i64 (toK k L[i])) := fun k hk wz hb => by
        obtain ⟨b, o, hx, hbl, hc⟩ := (HLB.out.below hb).resolve_left (by omega)
        obtain ⟨_, c1, c2, _⟩ := hc i hlt'
        refine ⟨b, o, hx, hbl, ?_⟩
        match k, hk with
        | 0, _ => exact c1
        | 1, _ => exact c2
      have hpj : ∀ j (hj : j < L.length) (k : Nat), k < 2 → ∀ wz, Below w1.heap.size w1 wz → ∃ b o, x = some ⟨b, o, none⟩ ∧ b < wz.heap.size ∧ wz.cell? ⟨b, o + j * 8 + 1 + k, none⟩ = some (.int .i64 (toK k L[j])) := fun j hj k hk wz hb => by
        obtain ⟨b, o, hx, hbl, hc⟩ := (HLB.out.below hb).resolve_left (by omega)
        obtain ⟨_, c1, c2, _⟩ := hc j hj
        refine ⟨b, o, hx, hbl, ?_⟩
        match k, hk with
        | 0, _ => exact c1
        | 1, _ => exact c2
      have Hpj := Lib.hid hpj
      have Hpi := Lib.hid hpi
      generalize L[i]'hlt' = p at hv hs2 Hpi
      have Hs2 := Lib.hid hs2
      have Hv2 := Lib.hid hv
      have wi : IntKind.i64.wrap ((i : Int) + 1) = (i : Int) + 1 := IntWalk.i64_in _ (by omega)
      clear hpj hpi hs2 hv hdr hTp Hv
      go_wp2_with fail
      go_loopw [6, 7] (fun nv kv wz => ∃ k : Nat, k ≤ 2 ∧ kv = .int .i64 k ∧ nv = .int .i64 ((sumK L i p k : Nat) : Int) ∧ Below w1.heap.size w1 wz) (fun _ kv _ => 2 - (intOf kv).toNat)
      case atStart => exact ⟨0, by omega, rfl, rfl, HB.out⟩
      case round =>
        obtain ⟨k, hk, rfl, rfl, hB⟩ := hrel
        have HB := Lib.hid hB
        clear hB
        by_cases hltk : k < 2
        · obtain ⟨b, o, rfl, hbz, hcell⟩ := Hpi.out k hltk _ HB.out
          have wk : IntKind.i64.wrap ((k : Int) + 1) = (k : Int) + 1 := IntWalk.i64_in _ (by omega)
          have hsk : sumK L i p (k + 1) = sumK L i p k + ownK k p + cntF L i k (L.take i) := rfl
          have hsl := sumK_le L i p k
          have hsl2 : sumK L i p k ≤ 200 := by
            have : k * (i + 1) ≤ 2 * 101 := Nat.mul_le_mul (by omega) (by omega)
            have h2 : k * (i + 1) ≤ 1 * (i + 1) := Nat.mul_le_mul_right _ (by omega)
            omega
          obtain ⟨sk, hsk2⟩ : ∃ sk, sk = sumK L i p k := ⟨_, rfl⟩
          rw [← hsk2] at hsk hsl2 ⊢
          have Hsk := Lib.hid hsk
          have wn : IntKind.i64.wrap ((sk : Int) + 1) = (sk : Int) + 1 := IntWalk.i64_in _ (by omega)
          obtain ⟨X, hX⟩ : ∃ X, X = toK k p := ⟨_, rfl⟩
          rw [← hX] at hcell
          have hown : ownK k p = if 0 ≤ X then 1 else 0 := by rw [hX]; rfl
          have Hown := Lib.hid hown
          clear hsk hsk2 hX hown hsl
          go_upto_if 29 with fail
          go_cut [6] (fun nv wx => nv = .int .i64 ((sk + ownK k p : Nat) : Int) ∧ wx = wr)
          case first =>
            by_cases hX0 : 0 ≤ X
            · have ho : ownK k p = 1 := by rw [Hown.out, if_pos hX0]
              have Ho := Lib.hid ho
              clear ho
              go_wp2_with fail
              all_goals first | (exfalso; omega) | skip
              go_meet
              exact ⟨by rw [Ho.out]; simp, rfl⟩
            · have ho : ownK k p = 0 := by rw [Hown.out, if_neg hX0]
              have Ho := Lib.hid ho
              clear ho
              go_wp2_with fail
              all_goals first | (exfalso; omega) | skip
              go_meet
              exact ⟨by rw [Ho.out]; simp, rfl⟩
          obtain ⟨rfl, hwc⟩ := hcut
          rw [hwc]
          clear hwc
          have how := ownK_le k p
          obtain ⟨s0, hs0⟩ : ∃ s0, s0 = sk + ownK k p := ⟨_, rfl⟩
          rw [← hs0]
          have hs0l : s0 ≤ 201 := by omega
          have Hsk2 := Lib.hid (by have := Hsk.out; rw [← hs0] at this; exact this : sumK L i p (k + 1) = s0 + cntF L i k (L.take i))
          clear hs0 how hcell
          go_wp2_with fail
          go_loopw [6, 8] (fun nv jv wz => ∃ j : Nat, j ≤ i ∧ jv = .int .i64 j ∧ nv = .int .i64 ((s0 + cntF L i k (L.take j) : Nat) : Int) ∧ Below w1.heap.size w1 wz) (fun _ jv _ => i - (intOf jv).toNat)
          case atStart => exact ⟨0, by omega, rfl, rfl, HB.out⟩
          case round =>
            obtain ⟨j, hj, rfl, rfl, hB⟩ := hrel
            have HB2 := Lib.hid hB
            have hLj := HLB.out.below hB
            have hblk := (hB.block _ hbl).trans Hblk.out
            have hbl2 : w.heap.size < wr.heap.size := Nat.lt_of_lt_of_le hbl hB.size
            clear hB
            by_cases hltj : j < i
            · have hjl : j < L.length := by rw [HN.out]; omega
              obtain ⟨b2, o2, hx2, hbz2, hcell2⟩ := Hpj.out j hjl k hltk _ HB2.out
              injection hx2 with hx2
              injection hx2 with hx2 hx3 _
              subst hx2
              subst hx3
              have hst : L.take (j + 1) = L.take j ++ [L[j]] := List.take_succ_eq_append_getElem hjl
              have hcn : cntF L i k (L.take (j + 1)) = cntF L i k (L.take j) + (if 0 ≤ toK k L[j] ∧ readsF L i (toK k L[j]) = true then 1 else 0) := by
                rw [hst]
                unfold cntF
                rw [List.filter_append, List.length_append]
                congr 1
                by_cases hc : 0 ≤ toK k L[j] ∧ readsF L i (toK k L[j]) = true
                · rw [if_pos hc]; simp [hc]
                · rw [if_neg hc, List.filter_eq_nil_iff.2]
                  · rfl
                  · intro y hy
                    simp only [List.mem_singleton] at hy
                    subst hy
                    simpa using hc
              have hcl := cntF_le L i k (L.take j)
              rw [List.length_take] at hcl
              generalize toK k L[j] = Y at hcell2 hcn
              obtain ⟨cn, hcn2⟩ : ∃ cn, cn = s0 + cntF L i k (L.take j) := ⟨_, rfl⟩
              have hcnl : cn ≤ 400 := by omega
              have hcn3 : s0 + cntF L i k (L.take (j + 1)) = cn + (if 0 ≤ Y ∧ readsF L i Y = true then 1 else 0) := by rw [hcn, hcn2]; omega
              rw [← hcn2]
              have wj : IntKind.i64.wrap ((j : Int) + 1) = (j : Int) + 1 := IntWalk.i64_in _ (by omega)
              have wn2 : IntKind.i64.wrap ((cn : Int) + 1) = (cn : Int) + 1 := IntWalk.i64_in _ (by omega)
              obtain ⟨d0, d1, d2, d3, d4, d5, d6, d7, d8, d9, d10, d11, d12, d13, d14⟩ := blockA_cells hblk
              have Hcn := Lib.hid hcn3
              clear hst hcn hcn2 hcn3 hblk hcl
              by_cases hY : 0 ≤ Y
              · have hnx := nextR_any (some ⟨b, o, none⟩) n c L 0 0 0 0 0 0 0 0 0 0 0 0 none none 0 0 0 0 Y i wr hLj HN.out (by omega) (by omega) hi
                have hrd := readsF_iff (L := L) (i := i) (v := Y)
                rw [HN.out] at hrd
                generalize nextF n i (lastF L 0 Y) = NX at hnx hrd
                have Hnx := Lib.hid hnx
                clear hnx hLj
                by_cases hNX : NX < n
                · have hcc : s0 + cntF L i k (L.take (j + 1)) = cn + 1 := by rw [Hcn.out, if_pos ⟨hY, hrd.2 hNX⟩]
                  have Hcc := Lib.hid hcc
                  clear hcc hrd
                  go_wp2_with fail
                  all_goals first | (exfalso; omega) | skip
                  refine Hnx.out.mono ?_
                  rintro e w9 ⟨rfl, hb9⟩
                  have HB9 := Lib.hid (HB2.out.trans (hb9.mono HB2.out.size))
                  clear hb9
                  go_wp2_with fail
                  all_goals first | (exfalso; omega) | skip
                  exact ⟨⟨j + 1, by omega, by simp, by rw [Hcc.out]; simp, HB9.out⟩, by simp only [intOf]; omega⟩
                · have hcc : s0 + cntF L i k (L.take (j + 1)) = cn := by rw [Hcn.out, if_neg (fun h => hNX (hrd.1 h.2))]; rfl
                  have Hcc := Lib.hid hcc
                  clear hcc hrd
                  go_wp2_with fail
                  all_goals first | (exfalso; omega) | skip
                  refine Hnx.out.mono ?_
                  rintro e w9 ⟨rfl, hb9⟩
                  have HB9 := Lib.hid (HB2.out.trans (hb9.mono HB2.out.size))
                  clear hb9
                  go_wp2_with fail
                  all_goals first | (exfalso; omega) | skip
                  exact ⟨⟨j + 1, by omega, by simp, by rw [Hcc.out], HB9.out⟩, by simp only [intOf]; omega⟩
              · have hcc : s0 + cntF L i k (L.take (j + 1)) = cn := by rw [Hcn.out, if_neg (fun h => hY h.1)]; rfl
                have Hcc := Lib.hid hcc
                clear hcc hLj
                go_wp2_with fail
                all_goals first | (exfalso; omega) | skip
                exact ⟨⟨j + 1, by omega, by simp, by rw [Hcc.out], HB2.out⟩, by simp only [intOf]; omega⟩
            · have hji : j = i := by omega
              rw [hji, ← Hsk2.out]
              clear hji hblk hLj
              go_wp2_with fail
              exact ⟨⟨k + 1, by omega, by simp, rfl, HB2.out⟩, by simp only [intOf]; omega⟩
        · have hk2 : k = 2 := by omega
          rw [hk2, Hs2.out]
          have hle : pressAt L i p ≤ 1000 := by
            rw [← Hs2.out]
            have := sumK_le L i p 2
            omega
          have hv := Hv2.out
          generalize pressAt L i p = nn at hv hle
          have Hv3 := Lib.hid hv
          clear hv hk2
          go_wp2_with fail
          all_goals
            exact ⟨⟨i + 1, max m nn, by omega, by simp, (by congr 1; omega), by omega, HB.out, Hv3.out⟩, by simp only [intOf]; omega⟩
    · have hin : i = n := by omega
      have hv := Hv.out
      rw [hin, ← HN.out, List.drop_length, pressF] at hv
      have Hv4 := Lib.hid hv
      clear hv hin
      go_wp2_with fail
      go_ret
      exact ⟨by rw [← Hv4.out]; rfl, HB1.out.trans (HB.out.mono HB1.out.size)⟩
end Go.Proofs.YtmkencdkglbpbaaDoor
