/- alloc: Alloc, the walk. -/
import Derived.Test.YtmkencdkglbpbaaDoorAlU
set_option maxRecDepth 100000
set_option linter.unusedVariables false
namespace Go.Proofs.YtmkencdkglbpbaaDoor
open Go.RowKit Go.Maps

theorem below_put {w : World} {B b : Nat} (i : Nat) (v : Value) (hb : B ≤ b) : Below B w (w.setCell ⟨b, i, none⟩ v) := by
  have hg := setCell_grown w b i v
  exact ⟨hg.os, hg.tape, hg.output, hg.size, fun k hk => by
    by_cases h : k < w.heap.size
    · exact hg.block k h (by simp; omega)
    · have h1 : w.heap[k]? = none := Array.getElem?_eq_none (by omega)
      have h2 : (w.setCell ⟨b, i, none⟩ v).heap.size = w.heap.size := by simp [World.setCell]
      rw [h1]; exact Array.getElem?_eq_none (by omega)⟩

theorem ownsRow_lower {w : World} {B B' : Nat} {e : TypeId} {size : Nat} {v : Value} {n : Nat} {xs : List Value} (h : w.ownsRow B e size v n xs) (hb : B' ≤ B) : w.ownsRow B' e size v n xs := by
  obtain ⟨h1, h2⟩ := h
  refine ⟨h1, ?_⟩
  rcases h2 with h2 | ⟨g, cap, cur, hv, hg, r⟩
  · exact .inl h2
  · exact .inr ⟨g, cap, cur, hv, Nat.le_trans hb hg, r⟩
theorem done_cells {w : World} {b : Nat} {c0 c1 : Value} (kh : w.heap[b]? = some (.cells #[c0, c1] 25 (0, 0))) (v0 v1 : Value) :
    ((w.setCell ⟨b, 0, none⟩ v0).setCell ⟨b, 1, none⟩ v1).cell? ⟨b, 0, none⟩ = some v0 ∧ ((w.setCell ⟨b, 0, none⟩ v0).setCell ⟨b, 1, none⟩ v1).cell? ⟨b, 1, none⟩ = some v1 := by
  have hz := setCell_heap (setCell_heap kh 0 v0) 1 v1
  constructor <;> (simp only [World.cell?, hz]; rfl)

section
variable {c : AC} {w : World} {Pn : List Int} {N : Nat} {s : AS}
theorem AlX.eCell (h : AlX c w Pn N s) : w.cell? ⟨c.ab, 17, none⟩ = some (.int .i64 s.e) := by
  obtain ⟨vp, vt, vo, q, D, h, hS⟩ := h
  obtain ⟨c0, c1, c2, c3, c12, c13, c14, c15, c16, c17⟩ := h.cells
  exact c17
theorem AlX.fr (h : AlX c w Pn N s) : Fr c w := by
  obtain ⟨vp, vt, vo, q, D, h, hS⟩ := h
  exact h.fr
theorem AlX.outs (h : AlX c w Pn N s) : ∃ vo, w.cell? ⟨c.ab, 15, none⟩ = some vo ∧ w.cell? ⟨c.ab, 16, none⟩ = some (.int .i64 s.slots) ∧ w.ownsRow c.B 37 8 vo s.out.length (outC s.out) := by
  obtain ⟨vp, vt, vo, q, D, h, hS⟩ := h
  obtain ⟨c0, c1, c2, c3, c12, c13, c14, c15, c16, c17⟩ := h.cells
  exact ⟨_, c15, c16, h.ro⟩
end
theorem step_at {c : AC} (H : ACok c) {w : World} {Pn : List Int} {N : Nat} {s : AS} (h : AlX c w Pn N s) (hf : Fine s) {S : List Int} (hg : InG S s) (o : Op8) (ho : OpIn S o) (hp : s.pos < 1000) (hN : N + 20 ≤ 10000) {ab : Nat} (e1 : c.ab = ab) :
    Calls Tryd.prog 36 #[.pointer (some ⟨ab, 0, none⟩), opV o.K o.t0 o.t1 o.f0 o.f1 o.f2 o.f3 o.N] w fun e w' => e = .returned (.tuple #[]) ∧ ∃ Pn', AlX c w' Pn' (N + 20) (stepF c.last c.ln c.base s o) := by
  subst e1
  exact step_any H h hf hg o ho hp hN

set_option maxHeartbeats 8000000 in
theorem alloc_any (x : Option Addr) (n cc : Nat) (L : List Op8) (base : Int) (w : World) (hR : HasRows w) (hL : OpsSl w x L) (hn : L.length = n) (hl : n ≤ 60) (hnc : n ≤ cc) (hN : ∀ o ∈ L, 0 ≤ o.N ∧ o.N < 4294967296) :
    Calls Tryd.prog 12 #[.slice x n cc, .int .i64 base] w fun e w' => ∃ vo, e = .returned (.tuple #[.agg #[vo, .int .i64 (allocF L base).2.1], .int .i64 (allocF L base).2.2]) ∧ w'.ownsRow w.heap.size 37 8 vo (allocF L base).1.length (outC (allocF L base).1) ∧ Below w.heap.size w w' := by
  obtain ⟨V, hV⟩ : ∃ V, V = allocF L base := ⟨_, rfl⟩
  rw [← hV]
  obtain ⟨w1, hw1⟩ : ∃ w1, w1 = w.alloc (.cells #[.slice none 0 0, .int .i64 0] 25) := ⟨_, rfl⟩
  have hB1 : Below w.heap.size w w1 := by rw [hw1]; exact (Below.refl _ _).alloc (Nat.le_refl _) _
  have hs1 : w.heap.size < w1.heap.size := by rw [hw1]; simp
  have k0 : w1.cell? ⟨w.heap.size, 0, none⟩ = some (.slice none 0 0) := by rw [hw1, World.cell?_alloc_at _ _ _ _ rfl]; rfl
  have k1 : w1.cell? ⟨w.heap.size, 1, none⟩ = some (.int .i64 0) := by rw [hw1, World.cell?_alloc_at _ _ _ _ rfl]; rfl
  have kh : w1.heap[w.heap.size]? = some (.cells #[.slice none 0 0, .int .i64 0] 25 (0, 0)) := by rw [hw1]; exact (MapKept.heap_alloc w _).1
  have hr := right_list x n cc L w1 (hR.below hB1) (hL.below hB1) hn (by omega) hnc hN
  have HB1 := Lib.hid hB1
  have HL := Lib.hid hL
  have HV := Lib.hid hV
  have HN := Lib.hid hn
  have HNN := Lib.hid hN
  have HKh := Lib.hid kh
  clear hL hV hn hN hR hB1 kh
  cases hv : listV [] L
  · rw [hv] at hr
    have hV2 := HV.out
    unfold allocF at hV2
    rw [if_pos hv] at hV2
    have HV2 := Lib.hid hV2
    have HRt := Lib.hid hr
    clear hv hr hV2
    go_enter Tryd.func12, Tryd.ntmps12
    go_wp2_with fail
    rw [← hw1]
    clear hw1
    refine HRt.out.mono ?_
    rintro e w2 ⟨rfl, hb2⟩
    have e0 : w2.cell? ⟨w.heap.size, 0, none⟩ = some (.slice none 0 0) := (hb2.cell (p := ⟨w.heap.size, 0, none⟩) hs1).trans k0
    have e1 : w2.cell? ⟨w.heap.size, 1, none⟩ = some (.int .i64 0) := (hb2.cell (p := ⟨w.heap.size, 1, none⟩) hs1).trans k1
    have hls := Nat.lt_of_lt_of_le hs1 hb2.size
    have e2 : w2.frozen? ⟨w.heap.size, 0, none⟩ = false ∧ w2.frozen? ⟨w.heap.size, 1, none⟩ = false := by
      have := (hb2.block _ hs1).trans HKh.out
      constructor <;> simp [World.frozen?, this]
    obtain ⟨e2, e3⟩ := e2
    go_wp2_with fail
    have HB3 := Lib.hid ((HB1.out.trans (hb2.mono HB1.out.size)).trans ((below_put (w := w2) (b := w.heap.size) 0 (.slice none 0 0) (Nat.le_refl _)).trans (below_put (b := w.heap.size) 1 (.int .i64 0) (Nat.le_refl _))))
    have HV3 := Lib.hid (show V.1 = [] ∧ V.2.1 = 0 ∧ V.2.2 = 10 by rw [HV2.out]; exact ⟨rfl, rfl, rfl⟩)
    have hk2 := (hb2.block _ hs1).trans HKh.out
    clear hb2 HV2 HV
    obtain ⟨z0, z1⟩ := done_cells hk2 (.slice none 0 0) (.int .i64 0)
    generalize World.setCell (World.setCell w2 _ _) _ _ = wz at z0 z1 HB3 ⊢
    obtain ⟨v1, v2, v3⟩ := HV3.out
    refine ⟨rfl, .tuple #[.agg #[.slice none 0 0, .int .i64 V.2.1], .int .i64 V.2.2], ?_, .slice none 0 0, rfl, by rw [v1]; exact World.ownsRow_nil _ _ _ _, HB3.out⟩
    simp [results, Tryd.f12, go_sem, z0, z1, v2, v3]
  · have hV2 := HV.out
    unfold allocF at hV2
    rw [if_neg (by rw [hv]; simp)] at hV2
    rw [hv] at hr
    have HRt := Lib.hid hr
    have Hlv := Lib.hid hv
    by_cases hbad : base < 0 ∨ base > 1020 ∨ base % 4 ≠ 0
    · rw [if_pos hbad] at hV2
      have HV2 := Lib.hid hV2
      clear hV2 hr hv
      go_enter Tryd.func12, Tryd.ntmps12
      go_wp2_with fail
      rw [← hw1]
      clear hw1
      refine HRt.out.mono ?_
      rintro e w2 ⟨rfl, hb2⟩
      have e0 : w2.cell? ⟨w.heap.size, 0, none⟩ = some (.slice none 0 0) := (hb2.cell (p := ⟨w.heap.size, 0, none⟩) hs1).trans k0
      have e1 : w2.cell? ⟨w.heap.size, 1, none⟩ = some (.int .i64 0) := (hb2.cell (p := ⟨w.heap.size, 1, none⟩) hs1).trans k1
      have hls := Nat.lt_of_lt_of_le hs1 hb2.size
      have e2 : w2.frozen? ⟨w.heap.size, 0, none⟩ = false ∧ w2.frozen? ⟨w.heap.size, 1, none⟩ = false := by
        have := (hb2.block _ hs1).trans HKh.out
        constructor <;> simp [World.frozen?, this]
      obtain ⟨e2, e3⟩ := e2
      have HB3 := Lib.hid ((HB1.out.trans (hb2.mono HB1.out.size)).trans ((below_put (w := w2) (b := w.heap.size) 0 (.slice none 0 0) (Nat.le_refl _)).trans (below_put (b := w.heap.size) 1 (.int .i64 0) (Nat.le_refl _))))
      have e5 : (decide (base < 0) || decide (1020 < base) || base % 4 != 0) = true := by simp; omega
      clear hbad
      have HV3 := Lib.hid (show V.1 = [] ∧ V.2.1 = 0 ∧ V.2.2 = 11 by rw [HV2.out]; exact ⟨rfl, rfl, rfl⟩)
      have hk2 := (hb2.block _ hs1).trans HKh.out
      clear hb2 HV2 HV
      go_wp2_with fail
      all_goals
        obtain ⟨z0, z1⟩ := done_cells hk2 (.slice none 0 0) (.int .i64 0)
        generalize World.setCell (World.setCell w2 _ _) _ _ = wz at z0 z1 HB3 ⊢
        obtain ⟨v1, v2, v3⟩ := HV3.out
        refine ⟨rfl, .tuple #[.agg #[.slice none 0 0, .int .i64 V.2.1], .int .i64 V.2.2], ?_, .slice none 0 0, rfl, by rw [v1]; exact World.ownsRow_nil _ _ _ _, HB3.out⟩
        simp [results, Tryd.f12, go_sem, z0, z1, v2, v3]
    · rw [if_neg hbad] at hV2
      have HV2 := Lib.hid hV2
      clear hV2 hr hv
      go_enter Tryd.func12, Tryd.ntmps12
      go_wp2_with fail
      rw [← hw1]
      clear hw1
      refine HRt.out.mono ?_
      rintro e w2 ⟨rfl, hb2⟩
      have e0 : w2.cell? ⟨w.heap.size, 0, none⟩ = some (.slice none 0 0) := (hb2.cell (p := ⟨w.heap.size, 0, none⟩) hs1).trans k0
      have e1 : w2.cell? ⟨w.heap.size, 1, none⟩ = some (.int .i64 0) := (hb2.cell (p := ⟨w.heap.size, 1, none⟩) hs1).trans k1
      have hls := Nat.lt_of_lt_of_le hs1 hb2.size
      have e2 : w2.frozen? ⟨w.heap.size, 0, none⟩ = false ∧ w2.frozen? ⟨w.heap.size, 1, none⟩ = false := by
        have := (hb2.block _ hs1).trans HKh.out
        constructor <;> simp [World.frozen?, this]
      obtain ⟨e2, e3⟩ := e2
      have hmm := @run_makeMap Tryd.prog
      have e5 : (decide (base < 0) || decide (1020 < base) || base % 4 != 0) = false := by simp; omega
      have hb0 : 0 ≤ base ∧ base ≤ 1020 := by omega
      clear hbad
      go_wp2_with fail
      obtain ⟨hB3, hkm, hmm3, hblk3, hsz3⟩ := fresh3 w2 #[.slice x n cc, .int .i64 base, .int .i64 0, .map (some w2.heap.size), .int .i64 0, .int .i64 0, .int .i64 0, .int .i64 0, .int .i64 0, .int .i64 0, .int .i64 0, .int .i64 0, .map (some (w2.heap.size + 1)), .slice none 0 0, .slice none 0 0, .slice none 0 0, .int .i64 0, .int .i64 0] 83
      generalize ((w2.alloc (.map #[] 0)).alloc (.map #[] 0)).alloc (.cells _ 83) = w3 at hB3 hkm hmm3 hblk3 hsz3 ⊢
      have hk2 := (hb2.block _ hs1).trans HKh.out
      have HB2 := Lib.hid (HB1.out.trans (hb2.mono HB1.out.size))
      obtain ⟨kb, hkb⟩ : ∃ kb, kb = w2.heap.size := ⟨_, rfl⟩
      rw [← hkb] at hB3 hkm hmm3 hblk3 hsz3 hls ⊢
      have hA3 := books_of (w5 := w3) (ab := kb + 1 + 1) (kb := kb) (mb := kb + 1) (x := x) (n := n) (cc := cc) (base := base) (f := fun _ => []) (G := regK 0) (by rw [hblk3]; rfl) hmm3 (regK_len 0 (by omega)) (regK_bd 0)
      have hH3 := acOf_ok (w5 := w3) (ab := kb + 1 + 1) (kb := kb) (mb := kb + 1) (x := x) (n := n) (cc := cc) (base := base) (f := fun _ => []) (BS := kb + 1 + 1 + 1) (N := 0) (by omega) (by omega) (by omega) (by omega) (by omega) (by omega) hb0 (groups_empty hkm (by omega)) gSays_nil (by omega) (by omega) (by omega)
      have HA3 := Lib.hid hA3
      have HH3 := Lib.hid hH3
      have HKm := Lib.hid hkm
      have HBl3 := Lib.hid hB3
      have HK2 := Lib.hid hk2
      have Hkb := Lib.hid hkb
      have Hsz3 := Lib.hid hsz3
      clear hA3 hH3 hkm hB3 hk2 hblk3 hmm3 hkb hb2 e5 k0 k1 e0 e1 e2 e3 hls hsz3 HV
      go_loopw [38] (fun i wr => ∃ k : Nat, k ≤ 8 ∧ i = .int .i64 k ∧ AlIn (acOf w3 (kb + 1 + 1) kb (kb + 1) x n cc base (fun _ => [])) wr (.slice none 0 0) (.slice none 0 0) (.slice none 0 0) [] 0 (.map []) 1 ⟨0, regK k, [], [], 0, 0⟩) (fun i _ => 8 - (intOf i).toNat)
      case atStart => exact ⟨0, Nat.zero_le _, rfl, HA3.out⟩
      case round =>
        obtain ⟨k, hk, rfl, hA⟩ := hrel
        by_cases hlt : k < 8
        · have hrl : k < (regK k).length := by rw [regK_len k hk]; exact hlt
          have hcell := hA.regs.2 k hrl
          have hcell' : wr.cell? ⟨kb + 1 + 1, 4 + k, none⟩ = some (.int .i64 ((regK k)[k]'hrl)) := hcell
          have hfz : wr.frozen? ⟨kb + 1 + 1, 4 + k, none⟩ = false := hA.frozen (4 + k)
          have hlz : kb + 1 + 1 < wr.heap.size := hA.lt
          have wq : IntKind.i64.wrap ((k : Int) + 1) = (k : Int) + 1 := IntWalk.i64_in _ (by omega)
          generalize (regK k)[k]'hrl = Z at hcell'
          have hA2 := hA.setG HH3.out k hlt (-1) (by omega)
          have HA2 := Lib.hid hA2
          clear hA2 hA hcell hrl
          go_wp2_with fail
          refine ⟨⟨k + 1, by omega, by simp, ?_⟩, by simp only [intOf]; omega⟩
          rw [← regK_set k hlt]
          exact HA2.out
        · have hk8 : k = 8 := by omega
          rw [hk8] at hA
          clear hk8
          obtain ⟨w4, hw4⟩ : ∃ w4, w4 = wr := ⟨_, rfl⟩
          subst hw4
          have hsz3 := Hsz3.out
          have hblk4 : w4.heap[kb + 1 + 1]? = some (.cells (alC (acOf w3 (kb + 1 + 1) kb (kb + 1) x n cc base (fun _ => [])) (.slice none 0 0) (.slice none 0 0) (.slice none 0 0) AS0).toArray 83 (0, 0)) := hA.blk
          have hmm4 : w4.ownsMap Tryd.prog 3 (plainElem Tryd.prog 3) (kb + 1) 0 (DataW.map [] : DataW Unit) := hA.map
          have hfr4 := hA.fr
          have hkm4 : w4.heap[kb]? = some (.map #[] 0) := (hfr4.block kb (by show kb < w3.heap.size; omega) (by show kb ≠ kb + 1 + 1; omega) (by show kb ≠ kb + 1; omega)).trans HKm.out
          have hsz4 : kb + 1 + 1 + 1 ≤ w4.heap.size := by have := hfr4.size; rw [show (acOf w3 (kb + 1 + 1) kb (kb + 1) x n cc base (fun _ => [])).B = w3.heap.size from rfl] at this; omega
          have hb34 : Below kb w3 w4 := ⟨hfr4.os, hfr4.tape, hfr4.output, by omega, fun j hj => hfr4.block j (by show j < w3.heap.size; omega) (by show j ≠ kb + 1 + 1; omega) (by show j ≠ kb + 1; omega)⟩
          have hkw : w.heap.size < kb := by rw [Hkb.out]; have := HB2.out.size; have := HK2.out; have := (Array.getElem?_eq_some_iff.1 this).1; exact this
          have hB4 : Below w.heap.size w w4 := HB2.out.trans ((HBl3.out.trans hb34).mono (by omega))
          have hd4 : w4.heap[w.heap.size]? = some (.cells #[.slice none 0 0, .int .i64 0] 25 (0, 0)) := by
            rw [hb34.block _ hkw, HBl3.out.block _ hkw]; exact HK2.out
          have hcell4 : w4.cell? ⟨kb + 1 + 1, 3, none⟩ = some (.map (some kb)) := by simp only [World.cell?, hblk4]; rfl
          have HLX : Hid (∀ wz, MapOnly w4 wz kb → OpsSl wz x L ∧ wz.cell? ⟨kb + 1 + 1, 3, none⟩ = some (.map (some kb)) ∧ kb + 1 + 1 < wz.heap.size) := fun wz hm => by
            refine ⟨?_, (World.cell?_of_block (a := ⟨kb + 1 + 1, 3, none⟩) (hm.block (kb + 1 + 1) (by omega) (by omega))).trans hcell4, by have := hm.size; omega⟩
            rcases HL.out with h0 | ⟨b, o, hx, hl2, _⟩
            · exact .inl h0
            · exact (HL.out.below hB4).map hm (fun b' o' e => by rw [hx] at e; injection e with e; injection e with e _ _; omega)
          have HBlk4 := Lib.hid hblk4
          have HMm4 := Lib.hid hmm4
          have HKm4 := Lib.hid hkm4
          have HB4 := Lib.hid hB4
          have Hkw := Lib.hid hkw
          have HD4 := Lib.hid hd4
          have Hsz4 := Lib.hid hsz4
          have HRG : Hid (∀ o ∈ L, ∀ v ∈ regsOf [o.f0, o.f1, o.f2, o.f3], 0 ≤ v ∧ v ≤ 65535) := fun o ho => (Tryd.opOk_regs (listV_all Hlv.out ho)).1
          have hg0 := groups_empty (B := w4.heap.size) hkm4 (by omega)
          have HG0 := Lib.hid hg0
          obtain ⟨i0, hi, hz0, hz1, hz2⟩ := info_parts Tryd.infoInt
          clear hA hblk4 hmm4 hfr4 hkm4 hb34 hB4 hd4 hcell4 hg0 hsz3 HA3 HH3 HKm HBl3 Hsz3 HB2 hmm
          go_wp2_with fail
          go_loopw [49] (fun i wz => ∃ (k N : Nat) (D : DataW Unit), k ≤ n ∧ i = .int .i64 k ∧ N ≤ 4 * k ∧ wz.ownsGroups Tryd.prog 3 w4.heap.size 3 .i64 kb N D ∧ GSays D (fun v => lastF (L.take k) 0 v) ∧ MapOnly w4 wz kb) (fun i _ => n - (intOf i).toNat)
          case atStart => exact ⟨0, 0, _, Nat.zero_le _, rfl, Nat.zero_le _, HG0.out, gSays_nil, MapOnly.refl _ _⟩
          case round =>
            obtain ⟨k, N, D, hk, rfl, hNk, hgr, hgs, hmo⟩ := hrel
            obtain ⟨hLr, hc3, hlz⟩ := HLX.out _ hmo
            have Hgr := Lib.hid hgr
            have Hgs := Lib.hid hgs
            have Hmo := Lib.hid hmo
            have hs4 : w4.heap.size ≤ wr.heap.size := hmo.size
            have hsz4 := Hsz4.out
            clear hgr hgs hmo
            by_cases hlt : k < n
            · have hlt' : k < L.length := by rw [HN.out]; exact hlt
              obtain ⟨b, o, rfl, hb, hc⟩ := hLr.resolve_left (by omega)
              obtain ⟨c0, c1, c2, c3, c4, c5, c6, c7⟩ := hc k hlt'
              have hst : L.take (k + 1) = L.take k ++ [L[k]] := List.take_succ_eq_append_getElem hlt'
              have hrg := HRG.out _ (List.getElem_mem hlt')
              generalize L[k]'hlt' = p at c0 c1 c2 c3 c4 c5 c6 c7 hst hrg
              have Hst := Lib.hid hst
              have Hrg := Lib.hid hrg
              have wq : IntKind.i64.wrap ((k : Int) + 1) = (k : Int) + 1 := IntWalk.i64_in _ (by omega)
              have hbA := (Below.refl _ wr).alloc (Nat.le_refl _) (.cells #[.int .i64 p.K, .int .i64 p.t0, .int .i64 p.t1, .int .i64 p.f0, .int .i64 p.f1, .int .i64 p.f2, .int .i64 p.f3, .int .u32 p.N] 37)
              have hOA := opAt_new wr p.K p.t0 p.t1 p.f0 p.f1 p.f2 p.f3 p.N
              clear hc hst hrg hLr
              have dlt : b ≠ wr.heap.size := by omega
              go_wp2_with fail
              generalize wr.alloc _ = w5 at hbA hOA ⊢
              clear c0 c1 c2 c3 c4 c5 c6 c7
              obtain ⟨c0, c1, c2, c3, c4, c5, c6, c7⟩ := hOA.cells
              have HB5 := Lib.hid hbA
              clear hbA hOA
              refine (uses_any p.K p.t0 p.t1 p.f0 p.f1 p.f2 p.f3 p.N w5).mono ?_
              rintro e w6 ⟨vu, rfl, hou, hbu⟩
              obtain ⟨U, hU⟩ : ∃ U, U = regsOf [p.f0, p.f1, p.f2, p.f3] := ⟨_, rfl⟩
              have hlU := regsOf_le4 p.f0 p.f1 p.f2 p.f3
              have hrg := Hrg.out
              rw [← hU] at hou hlU hrg
              obtain ⟨xu, cu, rfl, hcu, hLu, hgu⟩ := own_LSl hou rfl
              have hb6 := HB5.out.trans (hbu.mono HB5.out.size)
              have hgr6 := Hgr.out.kept (row := none) ⟨hb6.os, hb6.tape, hb6.output, hb6.size, fun k hk _ => hb6.block k hk⟩ (by simp) (fun es clock _ x _ => by cases x.val.ownBlock <;> simp)
              have hsh0 : wr.Shuns kb (fun _ => False) := fun _ _ _ _ _ _ _ h => h
              have hkbl : kb < wr.heap.size := by omega
              have hsh6 : w6.Shuns kb (fun g => xu = some ⟨g, 0, none⟩) := (hsh0.reno (No' := fun g => xu = some ⟨g, 0, none⟩) Hgr.out (fun g hg => .inr (by
                have h1 := (hou.lt g (hgu g hg).2).1
                have h2 := HB5.out.size
                omega))).kept (row := none) ⟨hb6.os, hb6.tape, hb6.output, hb6.size, fun k hk _ => hb6.block k hk⟩ hkbl (by simp)
              have hmo6 := Hmo.out.below hb6
              have hgk : Hid (∀ g, xu = some ⟨g, 0, none⟩ → kb < g) := fun g hg => by
                have h1 := (hou.lt g (hgu g hg).2).1
                have h2 := HB5.out.size
                omega
              have Hgr6 := Lib.hid hgr6
              have Hsh6 := Lib.hid hsh6
              have Hmo6 := Lib.hid hmo6
              have HLu := Lib.hid hLu
              have Hrg2 := Lib.hid hrg
              have HU := Lib.hid hU
              clear hou hbu hgu hb6 hgr6 hsh0 hsh6 hmo6 hLu hrg hU c0 c1 c2 c3 c4 c5 c6 c7 Hgr Hmo hc3 hlz Hrg
              go_wp2_with fail
              go_loopw [57] (fun j wz => ∃ (jj N' : Nat) (D' : DataW Unit), jj ≤ U.length ∧ j = .int .i64 jj ∧ N' ≤ 4 * k + jj ∧ wz.ownsGroups Tryd.prog 3 w4.heap.size 3 .i64 kb N' D' ∧ GSays D' (fun v => lastF (L.take k) 0 v ++ ((U.take jj).filter (fun y => y == v)).map (fun _ => (k : Int))) ∧ MapOnly w4 wz kb ∧ wz.Shuns kb (fun g => xu = some ⟨g, 0, none⟩) ∧ LSl wz xu U) (fun j _ => U.length - (intOf j).toNat)
              case atStart => exact ⟨0, N, D, Nat.zero_le _, rfl, by omega, Hgr6.out, by simpa using Hgs.out, Hmo6.out, Hsh6.out, HLu.out⟩
              case round =>
                obtain ⟨jj, N', D', hjj, rfl, hNj, hgr, hgs, hmo, hsh, hLz⟩ := hrel
                obtain ⟨-, hc3, hlz⟩ := HLX.out _ hmo
                have hs4 : w4.heap.size ≤ wr.heap.size := hmo.size
                have Hgr := Lib.hid hgr
                have Hgs2 := Lib.hid hgs
                have Hmo := Lib.hid hmo
                have Hsh := Lib.hid hsh
                have HLz := Lib.hid hLz
                clear hgr hgs hmo hsh hLz
                by_cases hlt2 : jj < U.length
                · obtain ⟨g, rfl, hI⟩ := HLz.out.resolve_left (fun e => by rw [e] at hlt2; simp at hlt2)
                  have y0 := hI.2 jj hlt2
                  rw [Nat.zero_add] at y0
                  have hgl := hI.1
                  have hstU : U.take (jj + 1) = U.take jj ++ [U[jj]] := List.take_succ_eq_append_getElem hlt2
                  have hv := Hrg2.out _ (List.getElem_mem hlt2)
                  generalize U[jj]'hlt2 = v at y0 hstU hv
                  have wq2 : IntKind.i64.wrap ((jj : Int) + 1) = (jj : Int) + 1 := IntWalk.i64_in _ (by omega)
                  have hkey : keyOf Tryd.prog 3 (.int .i64 v) = some (.int .i64 v) := keyOf_int_mk Tryd.underlying3 (WalkArith.wf_i64 (by omega))
                  have hgd := Hgr.out.kept (w' := wr.drew) (row := none) ⟨rfl, rfl, rfl, Nat.le_refl _, fun _ _ _ => rfl⟩ (by simp) (fun es clock _ x _ => by cases x.val.ownBlock <;> simp)
                  obtain ⟨u, zs, hat, hoi, hzl, hlook, hsu, hback⟩ := groups_round Tryd.underlying3 Tryd.underlying79 zeroSl hgd (by unfold maxLen; omega) hkey
                  have hzs := Hgs2.out.at hat hoi
                  obtain ⟨x5, c5, rfl, hc5, -, hgx⟩ := own_LSl hoi.1 rfl
                  have hl1 := hlook wr.drew rfl
                  have hl2 := hlook ((wr.alloc (.cells #[.int .i64 (k : Int)] 3)).drew) ((MapKept.heap_alloc wr _).2 kb (by show kb < wr.heap.size; omega))
                  obtain ⟨m5, hm5⟩ : ∃ m5, zs.length = m5 := ⟨_, rfl⟩
                  unfold World.ownsInts at hoi
                  rw [hm5] at hl1 hl2 hzl hc5 hback hsu hoi
                  have Hzs := Lib.hid hzs
                  have Hoi := Lib.hid hoi
                  have Hback := Lib.hid hback
                  have Hsu := Lib.hid hsu
                  have HstU := Lib.hid hstU
                  clear hat hlook hback hsu hzs hI hgd hgx hstU
                  have Hm5 := Lib.hid hm5
                  have Hab : Hid (some (kb + 1 + 1) ≠ (Value.slice x5 m5 c5).ownBlock) := fun e => by
                    have := (Hoi.out.1.lt _ e.symm).1
                    omega
                  have HoiA : Hid (((wr.alloc (.cells #[.int .i64 (k : Int)] 3)).drew).ownsRow w4.heap.size 3 1 (.slice x5 m5 c5) m5 (zs.map (Value.int .i64))) := Hoi.out.1.alloc (.cells #[.int .i64 (k : Int)] 3)
                  have HnewA : Hid (∀ (j : Nat) (u : Value), ([.int .i64 (k : Int)] : List Value)[j]? = some u → ((wr.alloc (.cells #[.int .i64 (k : Int)] 3)).drew).cell? ((⟨wr.heap.size, 0, none⟩ : Addr).add j) = some u) := i_new wr.drew wr.heap.size (k : Int) rfl
                  have HalA : Hid (wr.drew.grownBy ((wr.alloc (.cells #[.int .i64 (k : Int)] 3)).drew) (Value.slice x5 m5 c5).ownBlock) := World.grownBy_alloc wr.drew (.cells #[.int .i64 (k : Int)] 3) _
                  clear hoi hm5
                  go_wp2_with fail
                  go_region_law (refine step_append_at (by rfl) _ _ _ (by rfl) w4.heap.size 3 i0 (.int .i64 0) 1 8 Tryd.underlying41 hi hz0 hz1 hz2 rfl (by omega) (.slice x5 m5 c5) m5 (zs.map (Value.int .i64)) (by rfl) HoiA.out ⟨wr.heap.size, 0, none⟩ 1 1 [.int .i64 (k : Int)] (by rfl) (by rfl) HnewA.out (i_one _) (by unfold maxLen; omega) (by omega) (by simp; omega) ?_; intro va w8 hown8 hgrow8 hat8; obtain ⟨x8, c8, rfl, hc8⟩ := own_slice hown8; have hgg := grown_trans HalA.out hgrow8; have hc8' : w8.cell? ⟨kb + 1 + 1, 3, none⟩ = some (.map (some kb)) := hgg.cell hc3 Hab.out; have hoi8 := World.ownsInts.appended (w := wr.drew) (v := .slice x5 m5 c5) (zs := zs) (by unfold World.ownsInts; rw [Hm5.out]; exact Hoi.out) (by rw [Hm5.out]; exact hown8) (WalkArith.wf_i64 (by omega)); obtain ⟨w9, hE9, hg9, hb9, hs9⟩ := Hback.out w8 _ _ hgg hoi8 (by simp; have := Hm5.out; omega) (by rcases hat8 with e | e; exact .inl e; exact .inr ⟨_, e, by simp⟩); have Hg9 := Lib.hid hg9; have Hb9 := Lib.hid hb9; have Hs9 := Lib.hid hs9; have Hoi8 := Lib.hid hoi8; have Hgg := Lib.hid hgg; have Hat8 := Lib.hid hat8; clear hg9 hb9 hs9 hoi8 hgg hat8 hown8 hgrow8)
                  all_goals
                    have hgkb := hgk.out g rfl
                    have hL9 : LSl w9 (some ⟨g, 0, none⟩) U := HLz.out.same (fun g' e => by
                      injection e with e
                      injection e with e _ _
                      subst e
                      have h1 : w8.heap[g]? = wr.heap[g]? := Hgg.out.block g hgl (fun e => Hsu.out _ Hsh.out g e.symm rfl)
                      have h2 : g < w8.heap.size := Nat.lt_of_lt_of_le hgl Hgg.out.size
                      exact ⟨Nat.lt_of_lt_of_le h2 Hb9.out.size, (Hb9.out.block g h2 (by simp; omega)).trans h1⟩)
                    have hS9 := Hs9.out _ Hsh.out (fun g' hg' e => by
                      injection e with e
                      injection e with e _ _
                      subst e
                      rcases Hat8.out with h1 | h1
                      · exact Hsu.out _ Hsh.out g (h1 ▸ hg') rfl
                      · rw [h1] at hg'; injection hg' with hg'
                        have h7 : wr.heap.size < g := by
                          rw [← hg']
                          show wr.heap.size < (wr.alloc (.cells #[.int .i64 (k : Int)] 3)).heap.size
                          simp
                        omega)
                    have hM9 := (Hmo.out.grown (w2 := w8) (row := (Value.slice x5 m5 c5).ownBlock) ⟨Hgg.out.os, Hgg.out.tape, Hgg.out.output, Hgg.out.size, Hgg.out.block⟩ (fun j hj => .inr (Hoi.out.1.lt j hj).1)).grown Hb9.out (fun j hj => .inl (by injection hj with hj; exact hj.symm))
                    have hG9 := Hgs2.out.put v (k : Int) (u := .slice x8 (m5 + 1) c8) (by rw [← Hzs.out]; exact Hoi8.out)
                    have HL9 := Lib.hid hL9
                    have HS9 := Lib.hid hS9
                    have HM9 := Lib.hid hM9
                    have HG9 := Lib.hid hG9
                    clear hL9 hS9 hM9 hG9 hE9 hc8' hl1 hl2
                    go_wp2_with fail
                    refine ⟨⟨jj + 1, N' + 1, _, by omega, by simp, by omega, Hg9.out, ?_, HM9.out, HS9.out, HL9.out⟩, by simp only [intOf]; omega⟩
                    have h9 := HG9.out
                    rw [← Hzs.out] at h9
                    refine Eq.mp ?_ h9
                    congr 1
                    funext y
                    rw [HstU.out, List.filter_append, List.map_append]
                    by_cases hy : y = v
                    · subst hy
                      rw [if_pos rfl, ← List.append_assoc, ← Hzs.out]
                      simp
                    · rw [if_neg hy]
                      simp [show (v == y) = false by simpa using fun e => hy e.symm]
                · have hjn : jj = U.length := by omega
                  have hgs := Hgs2.out
                  rw [hjn, List.take_length] at hgs
                  have hgs2 : GSays D' (fun v => lastF (L.take (k + 1)) 0 v) := by
                    refine Eq.mp ?_ hgs
                    congr 1
                    funext y
                    rw [Hst.out, lastF_append, ← HU.out]
                    congr 2
                    funext _
                    rw [List.length_take, HN.out]
                    congr 1
                    omega
                  have Hgs3 := Lib.hid hgs2
                  clear hgs hgs2
                  go_wp2_with fail
                  exact ⟨⟨k + 1, N', D', by omega, by simp, by omega, Hgr.out, Hgs3.out, Hmo.out⟩, by simp only [intOf]; omega⟩
            · have hkn : k = n := by omega
              have hgs := Hgs.out
              rw [hkn, ← HN.out, List.take_length] at hgs
              obtain ⟨w5, hw5⟩ : ∃ w5, w5 = wr := ⟨_, rfl⟩
              subst hw5
              have hm5 := Hmo.out
              have hg5 := Hgr.out
              have hs5 : w4.heap.size ≤ w5.heap.size := hm5.size
              have hsz4 := Hsz4.out
              have hH5 := acOf_ok (w5 := w5) (ab := kb + 1 + 1) (kb := kb) (mb := kb + 1) (x := x) (n := n) (cc := cc) (base := base) (f := fun v => lastF L 0 v) (by omega) (by omega) (by omega) (by omega) (by omega) (by omega) hb0 hg5 hgs (by omega) (by omega) (by omega)
              have hA5 := books_of (w5 := w5) (ab := kb + 1 + 1) (kb := kb) (mb := kb + 1) (x := x) (n := n) (cc := cc) (base := base) (f := fun v => lastF L 0 v) (G := [-1, -1, -1, -1, -1, -1, -1, -1]) ((hm5.block _ (by omega) (by omega)).trans HBlk4.out) (HMm4.out.kept ⟨hm5.os, hm5.tape, hm5.output, hm5.size, fun j hj hk => hm5.block j hj (fun e => hk (by rw [e]))⟩ (by simp)) rfl (by intro y hy; simp at hy; omega)
              have hX5 : AlX (acOf w5 (kb + 1 + 1) kb (kb + 1) x n cc base (fun v => lastF L 0 v)) w5 [] 1 AS0 := ⟨_, _, _, _, _, hA5, slotSays_nil⟩
              have hkw : w.heap.size < kb := Hkw.out
              obtain ⟨c, hc⟩ : ∃ c, c = acOf w5 (kb + 1 + 1) kb (kb + 1) x n cc base (fun v => lastF L 0 v) := ⟨_, rfl⟩
              have e_ab : c.ab = kb + 1 + 1 := by rw [hc]; rfl
              have HL5 : Hid (∀ wz, Fr c wz → OpsSl wz x L) := fun wz hf => by
                subst hc
                rcases HL.out with h0 | ⟨b, o, hx, hl2, _⟩
                · exact .inl h0
                · exact ((HLX.out w5 hm5).1).kept hf.size (fun b' o' e hb' => hf.block b' hb' (by rw [hx] at e; injection e with e; injection e with e _ _; show b' ≠ kb + 1 + 1; omega) (by rw [hx] at e; injection e with e; injection e with e _ _; show b' ≠ kb + 1; omega))
              have HD5 : Hid (∀ wz, Fr c wz → wz.heap[w.heap.size]? = some (.cells #[.slice none 0 0, .int .i64 0] 25 (0, 0)) ∧ w.heap.size < wz.heap.size ∧ w.heap.size < c.B ∧ Below w.heap.size w wz) := fun wz hf => by
                subst hc
                have hsz : w5.heap.size ≤ wz.heap.size := hf.size
                have hB5 : Below w.heap.size w4 w5 := ⟨hm5.os, hm5.tape, hm5.output, hm5.size, fun j hj => hm5.block j (by omega) (by omega)⟩
                have hBz : Below w.heap.size w5 wz := ⟨hf.os, hf.tape, hf.output, hf.size, fun j hj => hf.block j (by show j < w5.heap.size; omega) (by show j ≠ kb + 1 + 1; omega) (by show j ≠ kb + 1; omega)⟩
                refine ⟨?_, by omega, by show w.heap.size < w5.heap.size; omega, (HB4.out.trans hB5).trans hBz⟩
                rw [hf.block w.heap.size (by show w.heap.size < w5.heap.size; omega) (by show w.heap.size ≠ kb + 1 + 1; omega) (by show w.heap.size ≠ kb + 1; omega)]
                exact (hm5.block _ (by omega) (by omega)).trans HD4.out
              rw [← hc] at hH5 hX5
              obtain ⟨Sf, hSf⟩ : ∃ Sf, Sf = runF c.last c.ln c.base L AS0 := ⟨_, rfl⟩
              have hVf : V = if Sf.e = 0 then (Sf.out, Sf.slots, 0) else ([], 0, Sf.e) := by
                rw [HV2.out, hSf, hc, ← HN.out]; rfl
              have HH5 := Lib.hid hH5
              have HX5 := Lib.hid hX5
              have HSf := Lib.hid hSf
              have HVf := Lib.hid hVf
              clear hm5 hg5 hs5 hH5 hA5 hX5 hc hSf hVf hgs Hgs Hgr Hmo HLX HBlk4 HMm4 HKm4 HD4 HB4 HG0 HV2 hs4 hkn
              go_wp2_with fail
              go_loopw [79] (fun i wz => ∃ (k N : Nat) (s : AS) (Pn S : List Int), k ≤ n ∧ i = .int .i64 k ∧ N ≤ 1 + 20 * k ∧ AlX c wz Pn N s ∧ runF c.last c.ln c.base (L.drop k) s = Sf ∧ (s.e = 0 → Fine s ∧ InG S s ∧ s.pos = k ∧ listV S (L.drop k) = true)) (fun i _ => n - (intOf i).toNat)
              case atStart => exact ⟨0, 1, AS0, [], [], Nat.zero_le _, rfl, Nat.le_refl _, HX5.out, HSf.out.symm, fun _ => ⟨fine0, by intro y hy; simp [AS0] at hy; exact .inl hy, rfl, Hlv.out⟩⟩
              case round =>
                obtain ⟨k, N, s, Pn, S, hk, rfl, hNk, hX, hrun, hgood⟩ := hrel
                have hab : kb + 1 + 1 < wr.heap.size := by have := hX.lt; rw [e_ab] at this; exact this
                have eC := hX.eCell
                rw [e_ab] at eC
                have hfr := hX.fr
                by_cases hlt : k < n
                · have hlt' : k < L.length := by rw [HN.out]; exact hlt
                  obtain ⟨b, o, rfl, hb, hc⟩ := (HL5.out _ hfr).resolve_left (by omega)
                  obtain ⟨c0, c1, c2, c3, c4, c5, c6, c7⟩ := hc k hlt'
                  have hdr : L.drop k = L[k] :: L.drop (k + 1) := List.drop_eq_getElem_cons hlt'
                  rw [hdr, runF] at hrun
                  rw [hdr] at hgood
                  generalize L[k]'hlt' = p at c0 c1 c2 c3 c4 c5 c6 c7 hrun hgood
                  have wq : IntKind.i64.wrap ((k : Int) + 1) = (k : Int) + 1 := IntWalk.i64_in _ (by omega)
                  have hbA := (Below.refl _ wr).alloc (Nat.le_refl _) (.cells #[.int .i64 p.K, .int .i64 p.t0, .int .i64 p.t1, .int .i64 p.f0, .int .i64 p.f1, .int .i64 p.f2, .int .i64 p.f3, .int .u32 p.N] 37)
                  have hOA := opAt_new wr p.K p.t0 p.t1 p.f0 p.f1 p.f2 p.f3 p.N
                  obtain ⟨d0, d1, d2, d3, d4, d5, d6, d7⟩ := hOA.cells
                  have dlt : b ≠ wr.heap.size := by omega
                  have dab : kb + 1 + 1 ≠ wr.heap.size := by omega
                  by_cases he : s.e = 0
                  · rw [if_pos he] at hrun
                    rw [he] at eC
                    obtain ⟨g1, g2, g3, g4⟩ := hgood he
                    obtain ⟨hoi, g5⟩ := listV_cons g4
                    obtain ⟨f1, f2, f3⟩ := stepF_fine (last := c.last) (n := c.ln) (base := c.base) g1 g2 hoi
                    have HStep := Lib.hid (step_at HH5.out (hX.below hbA) g1 g2 p hoi (by omega) (by omega) e_ab)
                    have Hrun := Lib.hid hrun
                    have Hf : Hid (Fine (stepF c.last c.ln c.base s p) ∧ InG (S ++ regsOf [p.t0, p.t1]) (stepF c.last c.ln c.base s p) ∧ (stepF c.last c.ln c.base s p).pos = ((k + 1 : Nat) : Int) ∧ listV (S ++ regsOf [p.t0, p.t1]) (L.drop (k + 1)) = true) := ⟨f1, f2, by rw [f3, g3]; simp, g5⟩
                    clear hrun hgood g1 g2 g3 g4 g5 f1 f2 f3 hoi hc hdr hX hfr hOA he
                    go_wp2_with fail
                    refine HStep.out.mono ?_
                    rintro e w6 ⟨rfl, Pn', hX6⟩
                    have HX6 := Lib.hid hX6
                    clear hX6 HStep
                    go_wp2_with fail
                    exact ⟨⟨k + 1, N + 20, stepF c.last c.ln c.base s p, Pn', S ++ regsOf [p.t0, p.t1], by omega, by simp, by omega, HX6.out, Hrun.out, fun _ => Hf.out⟩, by simp only [intOf]; omega⟩
                  · rw [if_neg he] at hrun
                    have hX2 := hX.below hbA
                    obtain ⟨E, hE⟩ : ∃ E, E = s.e := ⟨_, rfl⟩
                    rw [← hE] at eC
                    have eE : (E == (0 : Int)) = false := by rw [hE]; simpa using he
                    have HE := Lib.hid he
                    have HX2 := Lib.hid hX2
                    have Hrun := Lib.hid hrun
                    clear hrun hgood hc hdr hX hfr hOA he hE hX2
                    go_wp2_with fail
                    exact ⟨⟨k + 1, N, s, Pn, S, by omega, by simp, by omega, HX2.out, Hrun.out, fun h => absurd h HE.out⟩, by simp only [intOf]; omega⟩
                · have hkn : k = n := by omega
                  rw [hkn, ← HN.out, List.drop_length, runF] at hrun
                  subst hrun
                  obtain ⟨hd, hdl, hdb, hBz⟩ := HD5.out _ hfr
                  have e0 : wr.cell? ⟨w.heap.size, 0, none⟩ = some (.slice none 0 0) := by simp only [World.cell?, hd]; rfl
                  have e1 : wr.cell? ⟨w.heap.size, 1, none⟩ = some (.int .i64 0) := by simp only [World.cell?, hd]; rfl
                  have e2 : wr.frozen? ⟨w.heap.size, 0, none⟩ = false := by simp [World.frozen?, hd]
                  have e3 : wr.frozen? ⟨w.heap.size, 1, none⟩ = false := by simp [World.frozen?, hd]
                  have hdn : w.heap.size ≠ kb + 1 + 1 := by have := Hkw.out; omega
                  obtain ⟨vo, c15, c16, hro⟩ := hX.outs
                  rw [e_ab] at c15 c16
                  obtain ⟨xo, co, rfl, hco⟩ := own_slice hro
                  have HRo := Lib.hid hro
                  have HBz := Lib.hid hBz
                  have HD := Lib.hid hd
                  have Hdb := Lib.hid hdb
                  clear hX hro hBz hd hgood hfr hkn HX5 HSf hdb
                  by_cases he : s.e = 0
                  · have hV := HVf.out
                    rw [if_pos he] at hV
                    rw [he] at eC
                    have HV := Lib.hid hV
                    clear hV he HVf
                    have HB9 := Lib.hid (HBz.out.trans ((below_put (w := wr) (b := w.heap.size) 0 (.slice xo s.out.length co) (Nat.le_refl _)).trans (below_put (b := w.heap.size) 1 (.int .i64 s.slots) (Nat.le_refl _))))
                    have hoff := ownsRow_off HRo.out Hdb.out
                    have HR9 := Lib.hid (((ownsRow_lower HRo.out (Nat.le_of_lt Hdb.out)).kept (setCell_grown wr w.heap.size 0 (.slice xo s.out.length co)) hoff).kept (setCell_grown _ w.heap.size 1 (.int .i64 s.slots)) hoff)
                    clear hoff
                    go_wp2_with fail
                    obtain ⟨z0, z1⟩ := done_cells HD.out (.slice xo s.out.length co) (.int .i64 s.slots)
                    generalize World.setCell (World.setCell wr _ _) _ _ = wz at z0 z1 HB9 HR9 ⊢
                    have hV := HV.out
                    refine ⟨rfl, .tuple #[.agg #[.slice xo s.out.length co, .int .i64 V.2.1], .int .i64 V.2.2], ?_, .slice xo s.out.length co, rfl, by rw [hV]; exact HR9.out, HB9.out⟩
                    simp [results, Tryd.f12, go_sem, z0, z1, hV]
                  · have hV := HVf.out
                    rw [if_neg he] at hV
                    obtain ⟨E, hE⟩ : ∃ E, E = s.e := ⟨_, rfl⟩
                    rw [← hE] at eC hV
                    have eE : (E != (0 : Int)) = true := by rw [hE]; simpa using he
                    have HV := Lib.hid hV
                    clear hV he HVf hE
                    have HB9 := Lib.hid (HBz.out.trans ((below_put (w := wr) (b := w.heap.size) 0 (.slice none 0 0) (Nat.le_refl _)).trans (below_put (b := w.heap.size) 1 (.int .i64 0) (Nat.le_refl _)))).drew
                    have hdc : (((wr.setCell ⟨w.heap.size, 0, none⟩ (.slice none 0 0)).setCell ⟨w.heap.size, 1, none⟩ (.int .i64 0)).drew).cell? ⟨w.heap.size, 0, none⟩ = some (.slice none 0 0) ∧ (((wr.setCell ⟨w.heap.size, 0, none⟩ (.slice none 0 0)).setCell ⟨w.heap.size, 1, none⟩ (.int .i64 0)).drew).cell? ⟨w.heap.size, 1, none⟩ = some (.int .i64 0) := done_cells (w := wr) HD.out (.slice none 0 0) (.int .i64 0)
                    have HDC := Lib.hid hdc
                    clear hdc
                    go_wp2_with fail
                    go_region_law (fail)
                    all_goals
                      go_wp2_with fail
                      obtain ⟨z0, z1⟩ := HDC.out
                      have hV := HV.out
                      generalize World.drew _ = wz at z0 z1 HB9 ⊢
                      refine ⟨rfl, .tuple #[.agg #[.slice none 0 0, .int .i64 V.2.1], .int .i64 V.2.2], ?_, .slice none 0 0, rfl, by rw [hV]; exact World.ownsRow_nil _ _ _ _, HB9.out⟩
                      simp [results, Tryd.f12, go_sem, z0, z1, hV]
end Go.Proofs.YtmkencdkglbpbaaDoor
