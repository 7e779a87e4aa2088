/- alloc: step. -/
import Derived.Test.YtmkencdkglbpbaaDoorAlM
import Derived.Test.YtmkencdkglbpbaaDoorAlQ
set_option maxRecDepth 100000
set_option linter.unusedVariables false
namespace Go.Proofs.YtmkencdkglbpbaaDoor
open Go.RowKit Go.Maps

theorem own_LSl {w : World} {B : Nat} {v : Value} {n : Nat} {T : List Int} (h : w.ownsRow B 3 1 v n (iCells T)) (hn : n = T.length) : ∃ x c, v = .slice x n c ∧ n ≤ c ∧ LSl w x T ∧ ∀ g, x = some ⟨g, 0, none⟩ → g < w.heap.size ∧ v.ownBlock = some g := by
  rcases h.2 with ⟨hv, h0⟩ | ⟨g, cap, cur, rfl, hg, hh, hc, _⟩
  · subst h0
    exact ⟨none, 0, hv, Nat.le_refl _, .inl (List.length_eq_zero_iff.1 hn.symm), by simp⟩
  · refine ⟨_, cap, rfl, hc, .inr ⟨g, rfl, lt_of_block hh, fun j hj => ?_⟩, fun g' e => ?_⟩
    · rw [Nat.zero_add, h.cellAt j (by omega)]
      simp [iCells, hj]
    · injection e with e; injection e with e _ _; subst e
      exact ⟨lt_of_block hh, rfl⟩
theorem LSl.same {w w' : World} {x : Option Addr} {L : List Int} (h : LSl w x L) (hs : ∀ g, x = some ⟨g, 0, none⟩ → g < w'.heap.size ∧ w'.heap[g]? = w.heap[g]?) : LSl w' x L := by
  rcases h with h | ⟨g, rfl, h1, h2⟩
  · exact .inl h
  · obtain ⟨a, b⟩ := hs g rfl
    exact .inr ⟨g, rfl, a, fun i hi => (World.cell?_of_block (a := ⟨g, 0 + i, none⟩) b).trans (h2 i hi)⟩

theorem ownsRow_same {w w' : World} {B : Nat} {e : TypeId} {size : Nat} {v : Value} {n : Nat} {xs : List Value} (h : w.ownsRow B e size v n xs) (hs : ∀ k, v.ownBlock = some k → w'.heap[k]? = w.heap[k]?) : w'.ownsRow B e size v n xs := by
  obtain ⟨h1, h2⟩ := h
  refine ⟨h1, ?_⟩
  rcases h2 with h2 | ⟨g, cap, cur, hv, hg, hh, r⟩
  · exact .inl h2
  · exact .inr ⟨g, cap, cur, hv, hg, by rw [hs g (by rw [hv]; rfl)]; exact hh, r⟩

set_option maxHeartbeats 8000000 in
theorem step_any {c : AC} (H : ACok c) {w : World} {Pn : List Int} {N : Nat} {s : AS} (h : AlX c w Pn N s) (hf : Fine s) {S : List Int} (hg : InG S s) (o : Op8) (ho : OpIn S o) (hp : s.pos < 1000) (hN : N + 20 ≤ 10000) :
    Calls Tryd.prog 36 #[.pointer (some ⟨c.ab, 0, none⟩), opV o.K o.t0 o.t1 o.f0 o.f1 o.f2 o.f3 o.N] w fun e w' => e = .returned (.tuple #[]) ∧ ∃ Pn', AlX c w' Pn' (N + 20) (stepF c.last c.ln c.base s o) := by
  obtain ⟨i0, hi, hz0, hz1, hz2⟩ := info_parts Tryd.infoInt
  obtain ⟨ab, e_ab⟩ : ∃ ab, c.ab = ab := ⟨_, rfl⟩
  obtain ⟨base, e_base⟩ : ∃ b, c.base = b := ⟨_, rfl⟩
  obtain ⟨nx, e_nx⟩ : ∃ f, c.nx s.pos = f := ⟨_, rfl⟩
  obtain ⟨S1, hS1⟩ : ∃ S1, S1 = stepF c.last c.ln c.base s o := ⟨_, rfl⟩
  obtain ⟨r1, r2⟩ := Tryd.opOk_regs ho.ok
  have l4 := regsOf_le4 o.f0 o.f1 o.f2 o.f3
  have l2 := regsOf_le2 o.t0 o.t1
  have howS := ho.w
  have honS := ho.n
  have houS := ho.u
  have hS1' : S1 = endF c.last c.ln { (setF nx base (regsOf [o.f0, o.f1, o.f2, o.f3] ++ regsOf [o.t0, o.t1]) (regsOf [o.t0, o.t1]) (readF nx base (regsOf [o.f0, o.f1, o.f2, o.f3]) (regsOf [o.f0, o.f1, o.f2, o.f3]) s) []).1 with out := (setF nx base (regsOf [o.f0, o.f1, o.f2, o.f3] ++ regsOf [o.t0, o.t1]) (regsOf [o.t0, o.t1]) (readF nx base (regsOf [o.f0, o.f1, o.f2, o.f3]) (regsOf [o.f0, o.f1, o.f2, o.f3]) s) []).1.out ++
      [⟨o.K, padV (setF nx base (regsOf [o.f0, o.f1, o.f2, o.f3] ++ regsOf [o.t0, o.t1]) (regsOf [o.t0, o.t1]) (readF nx base (regsOf [o.f0, o.f1, o.f2, o.f3]) (regsOf [o.f0, o.f1, o.f2, o.f3]) s) []).2 0, padV (setF nx base (regsOf [o.f0, o.f1, o.f2, o.f3] ++ regsOf [o.t0, o.t1]) (regsOf [o.t0, o.t1]) (readF nx base (regsOf [o.f0, o.f1, o.f2, o.f3]) (regsOf [o.f0, o.f1, o.f2, o.f3]) s) []).2 1,
        padV ((regsOf [o.f0, o.f1, o.f2, o.f3]).map fun v => idxV (readF nx base (regsOf [o.f0, o.f1, o.f2, o.f3]) (regsOf [o.f0, o.f1, o.f2, o.f3]) s).G v 0) 0, padV ((regsOf [o.f0, o.f1, o.f2, o.f3]).map fun v => idxV (readF nx base (regsOf [o.f0, o.f1, o.f2, o.f3]) (regsOf [o.f0, o.f1, o.f2, o.f3]) s).G v 0) 1, padV ((regsOf [o.f0, o.f1, o.f2, o.f3]).map fun v => idxV (readF nx base (regsOf [o.f0, o.f1, o.f2, o.f3]) (regsOf [o.f0, o.f1, o.f2, o.f3]) s).G v 0) 2, padV ((regsOf [o.f0, o.f1, o.f2, o.f3]).map fun v => idxV (readF nx base (regsOf [o.f0, o.f1, o.f2, o.f3]) (regsOf [o.f0, o.f1, o.f2, o.f3]) s).G v 0) 3, o.N⟩] } := by
    rw [hS1, ← e_nx, ← e_base]; rfl
  rw [← hS1]
  have f1 := readF_fine (nx := nx) (base := base) (pins := regsOf [o.f0, o.f1, o.f2, o.f3]) _ hf r1
  have g1 := InG.read (nx := nx) (base := base) (pins := regsOf [o.f0, o.f1, o.f2, o.f3]) _ hg ho.u
  have p1 := readF_pos (nx := nx) (base := base) (pins := regsOf [o.f0, o.f1, o.f2, o.f3]) (regsOf [o.f0, o.f1, o.f2, o.f3]) s
  obtain ⟨s1, hs1⟩ : ∃ s1, s1 = readF nx base (regsOf [o.f0, o.f1, o.f2, o.f3]) (regsOf [o.f0, o.f1, o.f2, o.f3]) s := ⟨_, rfl⟩
  rw [← hs1] at f1 g1 p1 hS1'
  obtain ⟨U, hUe⟩ : ∃ U, U = regsOf [o.f0, o.f1, o.f2, o.f3] := ⟨_, rfl⟩
  obtain ⟨W, hWe⟩ : ∃ W, W = regsOf [o.t0, o.t1] := ⟨_, rfl⟩
  have HU1 : Hid (∀ w, Calls Tryd.prog 15 #[opV o.K o.t0 o.t1 o.f0 o.f1 o.f2 o.f3 o.N] w fun e w' => ∃ v, e = .returned v ∧ w'.ownsRow w.heap.size 3 1 v U.length (iCells U) ∧ Below w.heap.size w w') := fun w => by
    rw [hUe]; exact uses_any o.K o.t0 o.t1 o.f0 o.f1 o.f2 o.f3 o.N w
  have HW1 : Hid (∀ w, Calls Tryd.prog 16 #[opV o.K o.t0 o.t1 o.f0 o.f1 o.f2 o.f3 o.N] w fun e w' => ∃ v, e = .returned v ∧ w'.ownsRow w.heap.size 3 1 v W.length (iCells W) ∧ Below w.heap.size w w') := fun w => by
    rw [hWe]; exact sets_any o.K o.t0 o.t1 o.f0 o.f1 o.f2 o.f3 o.N w
  have HR1 : Hid (∀ (c2 : AC) (w : World), ACok c2 → Kin c c2 → AlX c2 w U N s → Calls Tryd.prog 57 #[.pointer (some ⟨ab, 0, none⟩), opV o.K o.t0 o.t1 o.f0 o.f1 o.f2 o.f3 o.N] w fun e w' => e = .returned (.tuple #[]) ∧ AlX c2 w' U (N + 12) s1) := fun c2 w H2 hk hx => by
    have := aread_at H2 hx hf o r1 (by omega) (hk.ab.trans e_ab) (nx := nx) (by rw [hk.nx]; exact e_nx) (hk.base.trans e_base)
    rw [← hUe] at this
    rw [hs1, ← hUe]; exact this
  rw [← hUe] at hS1' r1 l4 houS
  rw [← hWe] at hS1' r2 l2 howS honS
  obtain ⟨p, hpp⟩ : ∃ p, p = setF nx base (U ++ W) W s1 [] := ⟨_, rfl⟩
  obtain ⟨F, hF⟩ : ∃ F : List Int, F = U.map fun v => idxV s1.G v 0 := ⟨_, rfl⟩
  rw [← hpp, ← hF] at hS1'
  have hFl : F.length = U.length := by rw [hF]; simp
  obtain ⟨fp, gp, pp⟩ := setF_fine (nx := nx) (base := base) (pins := U ++ W) W [] f1 g1 r2 honS howS
  rw [← hpp] at fp pp
  have hX := h
  obtain ⟨w1, hw1⟩ : ∃ w1, w1 = w.alloc (.cells #[.int .i64 o.K, .int .i64 o.t0, .int .i64 o.t1, .int .i64 o.f0, .int .i64 o.f1, .int .i64 o.f2, .int .i64 o.f3, .int .u32 o.N] 37) := ⟨_, rfl⟩
  have hB1 : Below w.heap.size w w1 := by rw [hw1]; exact (Below.refl _ _).alloc (Nat.le_refl _) _
  have hO1 : OpAt w1 w.heap.size o.K o.t0 o.t1 o.f0 o.f1 o.f2 o.f3 o.N := by rw [hw1]; exact opAt_new w _ _ _ _ _ _ _ _
  have hs1' : w.heap.size < w1.heap.size := by rw [hw1]; simp
  obtain ⟨k0, k1, k2, k3, k4, k5, k6, k7⟩ := hO1.cells
  obtain ⟨c2, K2, H2, X2, back2, F2, F2'⟩ := h.open2 H hB1 (.slice (some ⟨w.heap.size, 0, none⟩) 1 1) (fun k hk => by simp [Value.ownBlock] at hk; omega)
  have hbox : Hid (∀ (wX : World) (Pn' : List Int) (N' : Nat) (s' : AS), AlX c2 wX Pn' N' s' → OpAt wX w.heap.size o.K o.t0 o.t1 o.f0 o.f1 o.f2 o.f3 o.N ∧ ab < wX.heap.size ∧ w.heap.size < wX.heap.size) := fun wX Pn' N' s' hx => by
    obtain ⟨a, b⟩ := (back2 wX Pn' N' s' hx).2 w.heap.size rfl
    exact ⟨b.trans hO1, by have := hx.lt; rw [K2.ab, e_ab] at this; exact this, a⟩
  have hne : ab ≠ w.heap.size := by have := h.lt; omega
  have hFb := F2' w.heap.size rfl
  have hP : s1.pos < 1000 := by omega
  have eab2 : c2.ab = ab := K2.ab.trans e_ab
  have HK2 := Lib.hid K2
  have HH2 := Lib.hid H2
  have HX2 := Lib.hid X2
  have HB2 := Lib.hid back2
  have HS1 := Lib.hid hS1'
  have HF := Lib.hid hF
  have HFl := Lib.hid hFl
  have Hf1 := Lib.hid f1
  have Hg1 := Lib.hid g1
  have Hp := Lib.hid hpp
  have Hfp := Lib.hid fp
  have Hpp := Lib.hid pp
  have HhW := Lib.hid howS
  have Hr2 := Lib.hid r2
  have HnW := Lib.hid honS
  have Hp1 := Lib.hid p1
  rw [e_ab]
  have hab0 : ab < w.heap.size := by have := h.lt; omega
  clear hS1 hS1' hX X2 K2 H2 back2 h H hf hg ho hO1 hB1 f1 g1 p1 gp fp pp hpp hF hFl howS honS houS r1 r2 hs1 hUe hWe
  go_enter Tryd.func36, Tryd.ntmps36
  go_wp2_with fail
  rw [← hw1]
  clear hw1
  refine (HU1.out _).mono ?_
  rintro e w2 ⟨vu, rfl, hou, hbu⟩
  obtain ⟨xu, cu, rfl, hcu, hLu, hgu⟩ := own_LSl hou rfl
  have X3 := HX2.out.setP HH2.out hbu hou (by omega)
  rw [eab2] at X3
  have X2b := HX2.out.below hbu
  obtain ⟨vp0, hvp0⟩ := X2b.pins
  obtain ⟨hfz0, _⟩ := X2b.pinCell
  rw [eab2] at hvp0 hfz0
  obtain ⟨hO2, hl2, hl2'⟩ := hbox.out _ _ _ _ X2b
  obtain ⟨k0, k1, k2, k3, k4, k5, k6, k7⟩ := hO2.cells
  have HX3 := Lib.hid X3
  clear X3 X2b hO2 hou hbu hLu hgu
  go_wp2_with fail
  refine (HR1.out c2 _ HH2.out HK2.out HX3.out).mono ?_
  rintro e w4 ⟨rfl, X4⟩
  clear k0 k1 k2 k3 k4 k5 k6 k7 hl2 hl2' HX3 hvp0 hfz0
  obtain ⟨hO4, hl4, hl4'⟩ := hbox.out _ _ _ _ X4
  obtain ⟨k0, k1, k2, k3, k4, k5, k6, k7⟩ := hO4.cells
  have HX4 := Lib.hid X4
  clear X4 hO4
  go_wp2_with fail
  refine (HU1.out _).mono ?_
  rintro e w5 ⟨vu2, rfl, hou2, hbu2⟩
  have X5 := HX4.out.below hbu2
  obtain ⟨xu2, cu2, rfl, hcu2, hLu2, hgu2⟩ := own_LSl hou2 rfl
  have HX5 := Lib.hid X5
  have HL2 := Lib.hid hLu2
  clear X5 hLu2 hgu2 hou2 hbu2 k0 k1 k2 k3 k4 k5 k6 k7
  go_wp2_with fail
  refine (mapped_at HX5.out xu2 U.length cu2 U HL2.out rfl (by omega) eab2).mono ?_
  rintro e w6 ⟨vf, rfl, hof, hbf⟩
  rw [← HF.out] at hof
  obtain ⟨c3, K3, H3, X6, back3, F3, F3'⟩ := HX5.out.open2 HH2.out hbf vf (fun k hk => hof.lt k hk)
  obtain ⟨xf, cf, rfl, hcf, hLf, hgf⟩ := own_LSl hof HFl.out.symm
  have hFb3 := F3 _ hFb
  have eab3 : c3.ab = ab := K3.ab.trans eab2
  obtain ⟨hO6, hl6, hl6'⟩ := hbox.out _ _ _ _ (back3 _ _ _ _ X6).1
  obtain ⟨k0, k1, k2, k3, k4, k5, k6, k7⟩ := hO6.cells
  obtain ⟨vp, vt, vo, q, D, A6, S6⟩ := X6
  obtain ⟨xp, cp, rfl, hcp⟩ := own_slice A6.rp
  obtain ⟨-, -, -, -, -, -, c14, -, -, -⟩ := A6.cells
  have f14 := A6.frozen 14
  rw [eab3] at c14 f14
  have hkb := (A6.kf _ hFb3).2.2.2.2.1
  have hka : some ab ≠ (Value.slice xp U.length cp).ownBlock := fun e => by
    have h1 := (A6.rp.lt ab e.symm).1
    have h2 := H3.ab
    omega
  have Kb : Hid (∀ w7 w8, Below w6.heap.size w6 w7 → w7.grownBy w8 (Value.slice xp U.length cp).ownBlock → OpAt w8 w.heap.size o.K o.t0 o.t1 o.f0 o.f1 o.f2 o.f3 o.N ∧ w8.cell? ⟨ab, 14, none⟩ = some (.slice xp U.length cp) ∧ w8.frozen? ⟨ab, 14, none⟩ = false) := fun w7 w8 hb hg => by
    have b1 := hb.block _ hl6'
    have b2 := hb.block _ hl6
    have s7 := hb.size
    have b3 := hg.block _ (Nat.lt_of_lt_of_le hl6' s7) hkb
    have b4 := hg.block _ (Nat.lt_of_lt_of_le hl6 s7) hka
    exact ⟨(b3.trans b1).trans hO6, (World.cell?_of_block (a := ⟨ab, 14, none⟩) (b4.trans b2)).trans c14, (World.frozen?_of_block (a := ⟨ab, 14, none⟩) (b4.trans b2)).trans f14⟩
  have Kc : Hid (∀ w8, OpAt w8 w.heap.size o.K o.t0 o.t1 o.f0 o.f1 o.f2 o.f3 o.N ∧ w8.cell? ⟨ab, 14, none⟩ = some (.slice xp U.length cp) ∧ w8.frozen? ⟨ab, 14, none⟩ = false → w8.cell? ⟨w.heap.size, 0, none⟩ = some (.int .i64 o.K) ∧ w8.cell? ⟨w.heap.size, 1, none⟩ = some (.int .i64 o.t0) ∧ w8.cell? ⟨w.heap.size, 2, none⟩ = some (.int .i64 o.t1) ∧ w8.cell? ⟨w.heap.size, 3, none⟩ = some (.int .i64 o.f0) ∧ w8.cell? ⟨w.heap.size, 4, none⟩ = some (.int .i64 o.f1) ∧ w8.cell? ⟨w.heap.size, 5, none⟩ = some (.int .i64 o.f2) ∧ w8.cell? ⟨w.heap.size, 6, none⟩ = some (.int .i64 o.f3) ∧ w8.cell? ⟨w.heap.size, 7, none⟩ = some (.int .u32 o.N) ∧ w8.cell? ⟨ab, 14, none⟩ = some (.slice xp U.length cp) ∧ w8.frozen? ⟨ab, 14, none⟩ = false) := fun w8 ⟨h1, h2, h3⟩ => by
    obtain ⟨k0, k1, k2, k3, k4, k5, k6, k7⟩ := h1.cells
    exact ⟨k0, k1, k2, k3, k4, k5, k6, k7, h2, h3⟩
  have HA6 := Lib.hid A6
  have HS6 := Lib.hid S6
  have HK3 := Lib.hid K3
  have HH3 := Lib.hid H3
  have HB3 := Lib.hid back3
  have HLf := Lib.hid hLf
  have HGf := Lib.hid hgf
  have hB6 : c3.B ≤ w6.heap.size := A6.fr.size
  clear A6 S6 K3 H3 back3 hLf hgf hof hbf hO6 hkb hka F3 F3' F2 F2' HX4 HX5 HL2
  go_upto_region 4 with fail
  go_cut [4] (fun j wx => j = .slice xf U.length cf ∧ AlX c3 wx (U ++ W) (N + 12) s1)
  case first =>
    have hD : Below w6.heap.size w6 w6.drew := (Below.refl _ w6).drew
    obtain ⟨k0, k1, k2, k3, k4, k5, k6, k7, c14, f14⟩ := Kc.out _ (Kb.out _ _ hD ⟨rfl, rfl, rfl, Nat.le_refl _, fun _ _ _ => rfl⟩)
    go_region_law (first
        | (refine step_call (by rfl) 16 #[opV o.K o.t0 o.t1 o.f0 o.f1 o.f2 o.f3 o.N] (by go_simp) _ (HW1.out _) ?_; rintro e w7 ⟨vs, rfl, hos, hbs⟩; have hb67 := hD.trans hbs; clear k0 k1 k2 k3 k4 k5 k6 k7 c14 f14; obtain ⟨k0, k1, k2, k3, k4, k5, k6, k7, c14, f14⟩ := Kc.out _ (Kb.out _ _ hb67 ⟨rfl, rfl, rfl, Nat.le_refl _, fun _ _ _ => rfl⟩); refine ⟨_, rfl, ?_⟩)
        | (refine step_append_rows_at (by rfl) _ _ _ (by rfl) c3.B w6.drew.heap.size 3 i0 (.int .i64 0) 1 8 Tryd.underlying41 hi hz0 hz1 hz2 rfl (by omega) (.slice xp U.length cp) U.length (iCells U) (by rfl) (ownsRow_below HA6.out.rp hb67) vs W.length (iCells W) (by rfl) hos (i_all W) (by unfold maxLen; omega) (by omega) (Nat.le_trans hB6 hb67.size) ?_; intro va w8 hown8 hgrow8 hat8; obtain ⟨xa, ca, rfl, hca⟩ := own_slice hown8; clear k0 k1 k2 k3 k4 k5 k6 k7 c14 f14; obtain ⟨k0, k1, k2, k3, k4, k5, k6, k7, c14, f14⟩ := Kc.out _ (Kb.out _ _ hb67 hgrow8)))
    all_goals
      have A7 := HA6.out.below hb67
      have A9 := A7.setP HH3.out (P' := U ++ W) hgrow8 (.inr rfl) (by rw [List.length_append, iCells, List.map_append]; exact hown8) (by rcases hat8 with e | e; exact .inl e; exact .inr (.inr ⟨_, e, Nat.le_refl _⟩)) (by rw [List.length_append]; omega)
      rw [eab3] at A9
      have X9 : AlX c3 (w8.setCell ⟨ab, 14, none⟩ (.slice xa (U.length + W.length) ca)) (U ++ W) (N + 12) s1 := ⟨_, _, _, _, _, A9, HS6.out⟩
      clear A7 A9 hown8 hgrow8 hat8 hos hbs hb67 hD
      have HX9 := Lib.hid X9
      clear X9
      go_wp2_with fail
      go_meet
      exact ⟨rfl, HX9.out⟩
  obtain ⟨rfl, X9⟩ := hcut
  obtain ⟨hO9, hl9, hl9'⟩ := hbox.out _ _ _ _ (HB3.out _ _ _ _ X9).1
  obtain ⟨k0, k1, k2, k3, k4, k5, k6, k7⟩ := hO9.cells
  have HX9 := Lib.hid X9
  clear X9 hO9 Kb Kc HA6 HS6 c14 f14
  go_wp2_with fail
  refine (HW1.out _).mono ?_
  rintro e w10 ⟨vs2, rfl, hos2, hbs2⟩
  obtain ⟨c4, K4, H4, X10, back4, F4, F4'⟩ := HX9.out.open2 HH3.out hbs2 vs2 (fun k hk => hos2.lt k hk)
  have eab4 : c4.ab = ab := K4.ab.trans eab3
  obtain ⟨xs, cs, rfl, hcs, hLs, hgs⟩ := own_LSl hos2 rfl
  have K04 := (HK2.out.trans HK3.out).trans K4
  have hnx4 : c4.nx s1.pos = nx := by rw [K04.nx, Hp1.out]; exact e_nx
  have hbase4 : c4.base = base := K04.base.trans e_base
  have hBes := Beside.start X10
  have HBes := Lib.hid hBes
  have HH4 := Lib.hid H4
  have HB4 := Lib.hid back4
  have HLs := Lib.hid hLs
  have HGs := Lib.hid hgs
  have HK4 := Lib.hid K4
  have Hnx4 := Lib.hid hnx4
  have Hbase4 := Lib.hid hbase4
  have hsW : Hid (∀ wr Pn' N' s', AlX c4 wr Pn' N' s' → LSl wr xs W) := fun wr Pn' N' s' hx => by
    refine HLs.out.same (fun g hg => ?_)
    exact (HB4.out wr Pn' N' s' hx).2 g (HGs.out g hg).2
  clear hBes H4 back4 hLs hgs K4 K04 hnx4 hbase4 X10 F4 F4' hos2 HX9 hbs2 k0 k1 k2 k3 k4 k5 k6 k7 hcu hcp hcf hcu2
  go_wp2_with fail
  go_loopw [5, 33] (fun tv i wr => ∃ (k : Nat) (s' : AS) (T' : List Int), k ≤ W.length ∧ i = .int .i64 k ∧ Beside c4 wr (U ++ W) (N + 12 + 2 * k) s' tv ∧ Fine s' ∧ InG (S ++ W.take k) s' ∧ s'.pos = s1.pos ∧ wr.ownsRow c4.B 3 1 tv T'.length (iCells T') ∧ T'.length = k ∧ setF nx base (U ++ W) (W.drop k) s' T' = p) (fun _ i _ => W.length - (intOf i).toNat)
  case atStart => exact ⟨0, s1, [], Nat.zero_le _, rfl, HBes.out, Hf1.out, by simpa using Hg1.out, rfl, World.ownsRow_nil _ _ _ _, rfl, Hp.out.symm⟩
  case round =>
    obtain ⟨k, s', T', hk, rfl, hB, hF', hG', hpo, hown, hTl, hset⟩ := hrel
    by_cases hlt : k < W.length
    · obtain ⟨g, rfl, hI⟩ := (hsW.out _ _ _ _ hB.done).resolve_left (fun e => by rw [e] at hlt; simp at hlt)
      have y0 := hI.2 k hlt
      rw [Nat.zero_add] at y0
      have hgl := hI.1
      have habl : ab < wr.heap.size := by have := hB.done.lt; rw [eab4] at this; exact this
      have hdr : W.drop k = W[k] :: W.drop (k + 1) := List.drop_eq_getElem_cons hlt
      have hst : W.take (k + 1) = W.take k ++ [W[k]] := List.take_succ_eq_append_getElem hlt
      have hb := Hr2.out _ (List.getElem_mem hlt)
      have hnS := HhW.out _ (List.getElem_mem hlt)
      have hnT : W[k] ∉ W.take k := fun hm => by
        obtain ⟨j, hj, he⟩ := List.getElem_of_mem hm
        rw [List.length_take] at hj
        rw [List.getElem_take] at he
        have := (List.pairwise_iff_getElem.1 HnW.out) j k (by omega) hlt (by omega)
        exact this he
      have wq : IntKind.i64.wrap ((k : Int) + 1) = (k : Int) + 1 := IntWalk.i64_in _ (by omega)
      rw [hdr, setF] at hset
      generalize W[k]'hlt = v at y0 hst hb hnS hnT hset
      have hng : v ∉ s'.G := fun e => by
        rcases hG' v e with e | e
        · omega
        · rcases List.mem_append.1 e with e | e
          · exact hnS e
          · exact hnT e
      have hT := take_at HH4.out hB hF' (by omega) v hb eab4 (nx := nx) (by rw [hpo]; exact Hnx4.out) Hbase4.out
      have hF2 := takeF_fine (nx := nx) (base := base) (pins := U ++ W) hF' ⟨by omega, hb.2⟩ hng
      have hG2 : InG (S ++ W.take (k + 1)) (takeF nx base (U ++ W) s' v) := hG'.take (fun x hx => by rw [hst]; simp at hx ⊢; rcases hx with hx | hx; exact .inl hx; exact .inr (.inl hx)) (by rw [hst]; simp)
      have hp2 : (takeF nx base (U ++ W) s' v).pos = s1.pos := by rw [takeF_pos]; exact hpo
      obtain ⟨R, hR⟩ : ∃ R, R = pickF nx (U ++ W) s' := ⟨_, rfl⟩
      obtain ⟨s2, hs2⟩ : ∃ s2, s2 = takeF nx base (U ++ W) s' v := ⟨_, rfl⟩
      rw [← hR, ← hs2] at hT hset
      rw [← hs2] at hF2 hG2 hp2
      have HT := Lib.hid hT
      have HF2 := Lib.hid hF2
      have HG2 := Lib.hid hG2
      have Hp2 := Lib.hid hp2
      have Hset := Lib.hid hset
      have Hown := Lib.hid hown
      clear hT hF2 hG2 hp2 hset hown hB hF' hG' hpo hdr hst hnS hnT hng hR hs2 hI HLs HGs
      go_wp2_with fail
      refine HT.out.mono ?_
      rintro e w11 ⟨rfl, hB2, hkeep⟩
      have hown2 := ownsRow_same Hown.out (fun j hj => (hkeep j hj).2)
      have hsz : c4.B ≤ w11.heap.size := by obtain ⟨_, _, _, _, _, h1, _⟩ := hB2.done; exact h1.fr.size
      have HB2 := Lib.hid hB2
      have Hown2 := Lib.hid hown2
      have Hcw := Lib.hid (fun (u : Int) (hu : u = R) => (Int.le_refl u))
      clear hB2 hown2 hkeep
      go_wp2_with (at_builtin; refine wpList_append_own_at _ rfl (.tmp 37) (.tmp 41) 41 rfl c4.B 3 i0 (.int .i64 0) 1 8 Tryd.underlying41 hi hz0 hz1 hz2 rfl (by decide) _ _ _ rfl (Hown2.out.alloc _) ⟨w11.heap.size, 0, none⟩ 1 1 [.int .i64 R] rfl rfl (i_new _ _ R rfl) (i_one _) (by unfold maxLen; omega) (by omega) (by simp; omega) ?_)
      intro v' w12 hown3 hgrow3 _ hat3
      have hB3 := (HB2.out.below ((Below.refl _ w11).alloc (Nat.le_refl _) (.cells #[.int .i64 R] 3))).turn HH4.out (fun k hk => (Hown2.out.lt k hk).1) hgrow3 (by rcases hat3 with e | e; exact .inl e; exact .inr ⟨_, e, by simp⟩) (fun g hg => (hown3.lt g hg).2)
      have HB3' := Lib.hid hB3
      have Hown3 := Lib.hid hown3
      clear hB3 hown3 hgrow3 hat3
      go_wp2_with fail
      refine ⟨⟨k + 1, s2, T' ++ [R], by omega, by simp, ?_, HF2.out, HG2.out, Hp2.out, ?_, by simp [hTl], Hset.out⟩, by simp only [intOf]; omega⟩
      · rw [show N + 12 + 2 * (k + 1) = N + 12 + 2 * k + 2 from by omega]; exact HB3'.out
      · have h3 := Hown3.out
        rw [← hTl] at h3
        rw [List.length_append, iCells, List.map_append]; exact h3
    · have hkn : k = W.length := by omega
      rw [hkn, List.drop_length, setF] at hset
      have hpa : p.1 = s' := by rw [← hset]
      have hpb : p.2 = T' := by rw [← hset]
      have X11 := hB.done
      obtain ⟨xt, ct, rfl, hct, hLt, hgt⟩ := own_LSl hown rfl
      have hS1 := HS1.out
      rw [hpa, hpb] at hS1
      have hfp := Hfp.out
      have hpp2 := Hpp.out
      rw [hpa] at hfp hpp2
      have X11b := (HB4.out _ _ _ _ X11).1
      obtain ⟨X11c, hvf⟩ := HB3.out _ _ _ _ X11b
      obtain ⟨hO11, hl11, hl11'⟩ := hbox.out _ _ _ _ X11c
      obtain ⟨k0, k1, k2, k3, k4, k5, k6, k7⟩ := hO11.cells
      have hLf2 : LSl wr xf F := HLf.out.same (fun g hg => hvf g (HGf.out g hg).2)
      have hmk := make_any o.K o.N xt xf T'.length ct U.length cf T' F wr hLt hLf2 rfl HFl.out (by omega) (by omega) (fun g hg => (hgt g hg).1) (fun g hg => (hvf g (HGf.out g hg).2).1)
      generalize padV T' 0 = P0 at hmk hS1
      generalize padV T' 1 = P1 at hmk hS1
      generalize padV F 0 = Q0 at hmk hS1
      generalize padV F 1 = Q1 at hmk hS1
      generalize padV F 2 = Q2 at hmk hS1
      generalize padV F 3 = Q3 at hmk hS1
      have HMk := Lib.hid hmk
      have HX11 := Lib.hid X11
      have HS1b := Lib.hid hS1
      have Hfp2 := Lib.hid hfp
      have K04 := Lib.hid ((HK2.out.trans HK3.out).trans HK4.out)
      clear hmk X11 X11b X11c hvf hO11 hLf2 hS1 hfp hset hB hG' hF' hown hLt hgt hct HS1 hTl hkn hpa hpb hpo
      go_wp2_with fail
      refine HMk.out.mono ?_
      rintro e w12 ⟨rfl, hbm⟩
      have X12 := HX11.out.below hbm
      have HX12 := Lib.hid X12
      clear X12 hbm
      go_wp2_with fail
      refine (add_at HH4.out HX12.out ⟨o.K, P0, P1, Q0, Q1, Q2, Q3, o.N⟩ (by omega) eab4).mono ?_
      rintro e w13 ⟨rfl, X13⟩
      have hend := end_at HH4.out X13 ⟨Hfp2.out.g8, Hfp2.out.gO, Hfp2.out.tO, Hfp2.out.gb, Hfp2.out.tb⟩ (by show s'.pos < 1000; omega) eab4
      rw [K04.out.last, K04.out.ln, ← HS1b.out] at hend
      have HEnd := Lib.hid hend
      clear hend X13
      go_wp2_with fail
      refine HEnd.out.mono ?_
      rintro e w14 ⟨rfl, X14⟩
      have X15 := (HB2.out _ _ _ _ (HB3.out _ _ _ _ (HB4.out _ _ _ _ X14).1).1).1
      have HX15 := Lib.hid (X15.mono (N' := N + 20) (by omega) (by omega))
      clear X14 X15
      go_wp2_with fail
      go_end0
      exact ⟨rfl, _, HX15.out⟩
end Go.Proofs.YtmkencdkglbpbaaDoor
