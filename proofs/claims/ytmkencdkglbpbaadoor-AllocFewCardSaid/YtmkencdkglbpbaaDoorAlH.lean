/- alloc: take. -/
import Derived.Test.YtmkencdkglbpbaaDoorAlG
set_option maxRecDepth 100000
set_option linter.unusedVariables false
namespace Go.Proofs.YtmkencdkglbpbaaDoor
open Go.RowKit Go.Maps

theorem AlX.below {c : AC} {w w' : World} {Pn : List Int} {N : Nat} {s : AS} (h : AlX c w Pn N s) (hb : Below w.heap.size w w') : AlX c w' Pn N s := by
  obtain ⟨vp, vt, vo, q, D, h, hS⟩ := h
  exact ⟨vp, vt, vo, q, D, h.below hb, hS⟩
theorem AlX.mono {c : AC} {w : World} {Pn : List Int} {N N' : Nat} {s : AS} (h : AlX c w Pn N s) (hn : N ≤ N') (hn' : N' ≤ 10000) : AlX c w Pn N' s := by
  obtain ⟨vp, vt, vo, q, D, h, hS⟩ := h
  exact ⟨vp, vt, vo, q, D, h.mono hn hn', hS⟩
theorem AlX.setG {c : AC} {w : World} {Pn : List Int} {N : Nat} {s : AS} (h : AlX c w Pn N s) (H : ACok c) (r : Nat) (hr : r < 8) (v : Int) (hv : -1 ≤ v ∧ v ≤ 65535) : AlX c (w.setCell ⟨c.ab, 4 + r, none⟩ (.int .i64 v)) Pn N { s with G := s.G.set r v } := by
  obtain ⟨vp, vt, vo, q, D, h, hS⟩ := h
  exact ⟨vp, vt, vo, q, D, h.setG H r hr v hv, hS⟩
theorem AlX.reg {c : AC} {w : World} {Pn : List Int} {N : Nat} {s : AS} (h : AlX c w Pn N s) (r : Nat) (hr : r < 8) : ∃ hr' : r < s.G.length, w.cell? ⟨c.ab, 4 + r, none⟩ = some (.int .i64 s.G[r]) ∧ w.frozen? ⟨c.ab, 4 + r, none⟩ = false ∧ c.ab < w.heap.size := by
  obtain ⟨vp, vt, vo, q, D, h, hS⟩ := h
  have hr' : r < s.G.length := by rw [h.g8]; exact hr
  exact ⟨hr', h.regs.2 r hr', h.frozen _, h.lt⟩
theorem AlX.where_ {c : AC} {w : World} {Pn : List Int} {N : Nat} {s : AS} (h : AlX c w Pn N s) (v : Int) :
    Calls Tryd.prog 67 #[.pointer (some ⟨c.ab, 0, none⟩), .int .i64 v] w fun e w' => e = .returned (.int .i64 (idxV s.G v 0)) ∧ w' = w := by
  obtain ⟨vp, vt, vo, q, D, h, hS⟩ := h
  exact where_any c.ab s.G v w h.regs h.g8
theorem AlX.victim_ {c : AC} (H : ACok c) {w : World} {Pn : List Int} {N : Nat} {s : AS} (h : AlX c w Pn N s) :
    Calls Tryd.prog 69 #[.pointer (some ⟨c.ab, 0, none⟩)] w fun e w' => e = .returned (.int .i64 (victimF (c.nx s.pos) Pn s.G s.G 0 (-1))) ∧ Below w.heap.size w w' := by
  obtain ⟨vp, vt, vo, q, D, h, hS⟩ := h
  refine (victim_any H h).mono ?_
  rintro e w' ⟨rfl, d, rfl⟩
  exact ⟨rfl, ⟨rfl, rfl, rfl, Nat.le_refl _, fun _ _ => rfl⟩⟩
theorem AlX.pn {c : AC} {w : World} {Pn : List Int} {N : Nat} {s : AS} (h : AlX c w Pn N s) : Pn.length ≤ 6 := by
  obtain ⟨vp, vt, vo, q, D, h, hS⟩ := h
  exact h.pn

set_option maxHeartbeats 2000000 in
theorem take_any {c : AC} (H : ACok c) {w : World} {Pn : List Int} {N : Nat} {s : AS} (h : AlX c w Pn N s) (hf : Fine s) (hN : N + 2 ≤ 10000) (v : Int) (hv : 0 ≤ v ∧ v ≤ 65535) :
    Calls Tryd.prog 59 #[.pointer (some ⟨c.ab, 0, none⟩), .int .i64 v] w fun e w' => e = .returned (.int .i64 (pickF (c.nx s.pos) Pn s)) ∧ AlX c w' Pn (N + 2) (takeF (c.nx s.pos) c.base Pn s v) := by
  obtain ⟨S1, hS1⟩ : ∃ S1, S1 = takeF (c.nx s.pos) c.base Pn s v := ⟨_, rfl⟩
  obtain ⟨R, hR⟩ : ∃ R, R = pickF (c.nx s.pos) Pn s := ⟨_, rfl⟩
  have hpk := pick_ok (nx := c.nx s.pos) hf h.pn
  rw [← hR] at hpk
  obtain ⟨r, rfl⟩ := Int.eq_ofNat_of_zero_le hpk.1
  have hr8 : r < 8 := by omega
  rw [← hS1, ← hR]
  have hW := h.where_ (-1)
  by_cases hfree : idxV s.G (-1) 0 < 0
  · rw [pickF, if_pos hfree] at hR
    have hm : (-1 : Int) ∉ s.G := fun e => by have := (idxV_mem s.G (-1) 0).2 e; omega
    rw [takeF, if_pos hfree, pickF, if_pos hfree, ← hR, Int.toNat_natCast] at hS1
    have HV := h.victim_ H
    rw [← hR] at HV
    have HVh := Lib.hid HV
    have HW := Lib.hid hW
    have HA := Lib.hid h
    have HS1 := Lib.hid hS1
    have HH := Lib.hid H
    have HF := Lib.hid hf
    have HM := Lib.hid hm
    clear hR hS1 HV hW h H hf hm
    generalize idxV s.G (-1) 0 = J at HW hfree
    go_enter Tryd.func59, Tryd.ntmps59
    go_wp2_with fail
    refine HW.out.mono ?_
    rintro e w1 ⟨rfl, rfl⟩
    go_wp2_with fail
    all_goals first | (exfalso; omega) | skip
    refine HVh.out.mono ?_
    rintro e w2 ⟨rfl, hb2⟩
    have hA2 := HA.out.below hb2
    obtain ⟨hrl, cr, fr, hls⟩ := hA2.reg r hr8
    have hgb := HF.out.gb _ (List.getElem_mem hrl)
    have hgn : s.G[r] ≠ -1 := fun e => HM.out (e ▸ List.getElem_mem hrl)
    have hgd : s.G.getD r 0 = s.G[r] := by rw [List.getD_eq_getElem?_getD, List.getElem?_eq_getElem hrl]; rfl
    have hs1 := HS1.out
    rw [hgd] at hs1
    generalize s.G[r]'hrl = X at cr hgb hgn hs1
    have HS2 := Lib.hid hs1
    have HA2 := Lib.hid hA2
    clear hb2 hA2 hgd hs1
    go_wp2_with fail
    refine (spill_any HH.out HA2.out hN X ⟨by omega, hgb.2⟩).mono ?_
    rintro e w3 ⟨⟨r3, rfl⟩, hA3⟩
    obtain ⟨hrl3, cr3, fr3, hls3⟩ := hA3.reg r hr8
    have HA3 := Lib.hid hA3
    clear hA3
    go_wp2_with fail
    go_ret
    refine ⟨rfl, ?_⟩
    rw [HS2.out]
    exact HA3.out.setG HH.out r hr8 v ⟨by omega, hv.2⟩
  · rw [pickF, if_neg hfree] at hR
    rw [takeF, if_neg hfree, pickF, if_neg hfree, ← hR, Int.toNat_natCast] at hS1
    rw [← hR] at hW
    obtain ⟨hrl, cr, fr, hls⟩ := h.reg r hr8
    have HW := Lib.hid hW
    have HA := Lib.hid h
    have HS1 := Lib.hid hS1
    have HH := Lib.hid H
    clear hR hS1 hW h H hf hfree
    go_enter Tryd.func59, Tryd.ntmps59
    go_wp2_with fail
    refine HW.out.mono ?_
    rintro e w1 ⟨rfl, rfl⟩
    go_wp2_with fail
    all_goals first | (exfalso; omega) | skip
    go_ret
    refine ⟨rfl, ?_⟩
    rw [HS1.out]
    exact (HA.out.setG HH.out r hr8 v ⟨by omega, hv.2⟩).mono (by omega) hN
end Go.Proofs.YtmkencdkglbpbaaDoor
