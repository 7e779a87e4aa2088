/- The document's Alloc. -/
import Derived.Test.YtmkencdkglbpbaaDoorRfC
import Derived.Test.YtmkencdkglbpbaaDoorRefL
import Derived.Test.YtmkencdkglbpbaaDoorAlV
import Derived.Deep.QuietTactic
import Derived.BigQuiet
set_option maxRecDepth 100000
set_option linter.unusedVariables false
namespace Go.Proofs.YtmkencdkglbpbaaDoor
open Go.RowKit Go.Maps

/-- Between two steps of the document's Alloc. -/
structure AlR (w0 : World) (ba B : Nat) (x : Option Addr) (n c : Nat) (L : List Op8) (base : Int) (k : Nat) (Sf : AS) (pos g0 g1 g2 g3 g4 g5 g6 g7 m er : Int) (vs vo : Value) (T : List Int) (O : List Op8) (S : List Int) (w : World) : Prop where
  hp : pos = k
  blk : w.heap[ba]? = some (.cells #[.slice x n c, .int .i64 base, .int .i64 pos, .int .i64 g0, .int .i64 g1, .int .i64 g2, .int .i64 g3, .int .i64 g4, .int .i64 g5, .int .i64 g6, .int .i64 g7, vs, vo, .int .i64 m, .int .i64 er] 86 (0, 0))
  rows : RowsA w B vs vo T O (20 * k)
  bel : Below w0.heap.size w0 w
  run : runF (lastF L 0) L.length base (L.drop k) ⟨pos, [g0, g1, g2, g3, g4, g5, g6, g7], T, O, m, er⟩ = Sf
  good : er = 0 → RunI L (L.take k) base S ⟨pos, [g0, g1, g2, g3, g4, g5, g6, g7], T, O, m, er⟩ ∧ listV S (L.drop k) = true
  sl : 0 ≤ m ∧ m ≤ (20 * k : Nat)
theorem AlR.last {w0 : World} {ba B : Nat} {x : Option Addr} {n c : Nat} {L : List Op8} {base : Int} {k : Nat} {Sf : AS} {pos g0 g1 g2 g3 g4 g5 g6 g7 m er : Int} {vs vo : Value} {T : List Int} {O : List Op8} {S : List Int} {w : World} (h : AlR w0 ba B x n c L base k Sf pos g0 g1 g2 g3 g4 g5 g6 g7 m er vs vo T O S w) (hk : k = L.length ∨ er ≠ 0) : Sf.e = er ∧ Sf.slots = m ∧ Sf.out = O := by
  have hr := h.run
  rcases hk with rfl | hk
  · rw [List.drop_length, runF] at hr
    rw [← hr]; exact ⟨rfl, rfl, rfl⟩
  · rw [runF_stuck _ _ hk] at hr
    rw [← hr]; exact ⟨rfl, rfl, rfl⟩
theorem AlR.step {w0 : World} {ba B : Nat} {x : Option Addr} {n c : Nat} {L : List Op8} {base : Int} {k : Nat} {Sf : AS} {g0 g1 g2 g3 g4 g5 g6 g7 m er : Int} {vs vo : Value} {T : List Int} {O : List Op8} {S : List Int} {w : World} (h : AlR w0 ba B x n c L base k Sf (k : Int) g0 g1 g2 g3 g4 g5 g6 g7 m er vs vo T O S w) (hk : k < L.length) (he : er = 0) (hba : w0.heap.size ≤ ba) (hB : ba < B) (hB2 : B ≤ w.heap.size)
    {S1 : AS} (hS1 : S1 = stepF (lastF L 0) L.length base ⟨k, [g0, g1, g2, g3, g4, g5, g6, g7], T, O, m, er⟩ L[k]) {w' : World} {h0 h1 h2 h3 h4 h5 h6 h7 : Int} {vs' vo' : Value} (hG : S1.G = [h0, h1, h2, h3, h4, h5, h6, h7]) (hr : RowsA w' B vs' vo' S1.T S1.out (20 * k + 20)) (hg : w.grownBy w' vo.ownBlock) (hm : 0 ≤ S1.slots ∧ S1.slots ≤ (20 * k + 20 : Nat)) :
    w'.heap[ba]? = some (.cells #[.slice x n c, .int .i64 base, .int .i64 (k : Int), .int .i64 g0, .int .i64 g1, .int .i64 g2, .int .i64 g3, .int .i64 g4, .int .i64 g5, .int .i64 g6, .int .i64 g7, vs, vo, .int .i64 m, .int .i64 er] 86 (0, 0)) ∧ AlR w0 ba B x n c L base (k + 1) Sf ((k : Int) + 1) h0 h1 h2 h3 h4 h5 h6 h7 S1.slots S1.e vs' vo' S1.T S1.out (S ++ regsOf [L[k].t0, L[k].t1]) (w'.setRow ba #[.slice x n c, .int .i64 base, .int .i64 ((k : Int) + 1), .int .i64 h0, .int .i64 h1, .int .i64 h2, .int .i64 h3, .int .i64 h4, .int .i64 h5, .int .i64 h6, .int .i64 h7, vs', vo', .int .i64 S1.slots, .int .i64 S1.e]) := by
  have hbl := lt_of_block h.blk
  have hvo : ∀ j, vo.ownBlock = some j → B ≤ j := fun j e => (h.rows.ro.lt j e).1
  have k1 := (hg.block ba hbl (fun e => by have := hvo _ e.symm; omega)).trans h.blk
  have g2 := setRow_grown w' ba #[.slice x n c, .int .i64 base, .int .i64 ((k : Int) + 1), .int .i64 h0, .int .i64 h1, .int .i64 h2, .int .i64 h3, .int .i64 h4, .int .i64 h5, .int .i64 h6, .int .i64 h7, vs', vo', .int .i64 S1.slots, .int .i64 S1.e]
  obtain ⟨hR, hv⟩ := h.good he
  have hd : L.drop k = L[k] :: L.drop (k + 1) := List.drop_eq_getElem_cons hk
  have hrun := h.run
  rw [hd] at hv hrun
  obtain ⟨ho, hv2⟩ := listV_cons hv
  have hst := hR.step (l := L.drop (k + 1)) (o := L[k]) (by rw [← hd, List.take_append_drop]) ho
  have heta : S1 = ⟨(k : Int) + 1, [h0, h1, h2, h3, h4, h5, h6, h7], S1.T, S1.out, S1.slots, S1.e⟩ := by
    refine as_eta ?_ hG
    rw [hS1]
    exact (stepF_fine hR.fine hR.inG ho).2.2
  rw [runF, if_pos he, ← hS1, heta] at hrun
  rw [← hS1, heta, ← List.take_succ_eq_append_getElem hk] at hst
  refine ⟨k1, ⟨by simp, setRow_heap w' ba _ _ _ _ k1, ?_, ?_, hrun, fun _ => ⟨hst, hv2⟩, by have := hm; push_cast at this ⊢; omega⟩⟩
  · refine RowsA.mono ?_ (show 20 * k + 20 ≤ 20 * (k + 1) by omega)
    exact hr.off g2 (off_of fun j e => by have := (hr.rt.lt j e).1; omega) (off_of fun j e => by have := (hr.ro.lt j e).1; omega)
  · refine ⟨g2.os.trans (hg.os.trans h.bel.os), g2.tape.trans (hg.tape.trans h.bel.tape), g2.output.trans (hg.output.trans h.bel.output), Nat.le_trans h.bel.size (Nat.le_trans hg.size g2.size), fun j hj => ?_⟩
    have hjl : j < w.heap.size := by omega
    exact ((g2.block j (Nat.lt_of_lt_of_le hjl hg.size) (by simp; omega)).trans (hg.block j hjl (fun e => by have := hvo _ e.symm; omega))).trans (h.bel.block j hj)

set_option maxHeartbeats 8000000 in
theorem allocR_any (x : Option Addr) (n c : Nat) (L : List Op8) (base : Int) (w : World) (hL : OpsSl w x L) (hn : L.length = n) (hl : n ≤ 60) (hnc : n ≤ c) (hN : ∀ o ∈ L, 0 ≤ o.N ∧ o.N < 4294967296) :
    Calls Tryd.prog 13 #[.slice x n c, .int .i64 base] w fun e w' => ∃ vo, e = .returned (.tuple #[vo, .int .i64 (allocF L base).2.1, .int .i64 (allocF L base).2.2]) ∧ w'.ownsRow w.heap.size 38 8 vo (allocF L base).1.length (outC (allocF L base).1) ∧ Below w.heap.size w w' := by
  obtain ⟨V, hV⟩ : ∃ V, V = allocF L base := ⟨_, rfl⟩
  rw [← hV]
  have hr := refRight_list x n c L w hL hn (by omega) hnc hN
  have HL := Lib.hid hL
  have HV := Lib.hid hV
  have HN := Lib.hid hn
  have HNN := Lib.hid hN
  clear hL hV hn hN
  cases hv : listV [] L
  · rw [hv] at hr
    have hV2 := HV.out
    unfold allocF at hV2
    rw [if_pos hv] at hV2
    have HV2 := Lib.hid hV2
    have HRt := Lib.hid hr
    clear hv hr hV2
    go_enter Tryd.func13, Tryd.ntmps13
    go_wp2_with fail
    refine HRt.out.mono ?_
    rintro e w2 ⟨rfl, hb2⟩
    have HB2 := Lib.hid hb2
    have HV3 := Lib.hid (show V.1 = [] ∧ V.2.1 = 0 ∧ V.2.2 = 10 by rw [HV2.out]; exact ⟨rfl, rfl, rfl⟩)
    clear hb2 HV2 HV
    go_wp2_with fail
    go_ret3
    obtain ⟨v1, v2, v3⟩ := HV3.out
    exact ⟨.slice none 0 0, by rw [v2, v3]; rfl, by rw [v1]; exact World.ownsRow_nil _ _ _ _, HB2.out⟩
  · have hV2 := HV.out
    unfold allocF at hV2
    rw [if_neg (by rw [hv]; simp)] at hV2
    rw [hv] at hr
    have HRt := Lib.hid hr
    have Hlv := Lib.hid hv
    by_cases hbad : base < 0 ∨ base > 1020 ∨ base % 4 ≠ 0
    · rw [if_pos hbad] at hV2
      have HV2 := Lib.hid hV2
      clear hV2 hr hv
      have HV3 := Lib.hid (show V.1 = [] ∧ V.2.1 = 0 ∧ V.2.2 = 11 by rw [HV2.out]; exact ⟨rfl, rfl, rfl⟩)
      clear HV2 HV
      go_enter Tryd.func13, Tryd.ntmps13
      go_wp2_with fail
      refine HRt.out.mono ?_
      rintro e w2 ⟨rfl, hb2⟩
      have HB2 := Lib.hid hb2
      have e5 : (decide (base < 0) || decide (1020 < base) || base % 4 != 0) = true := by simp; omega
      clear hb2 hbad
      go_wp2_with fail
      all_goals
        go_ret3
        obtain ⟨v1, v2, v3⟩ := HV3.out
        exact ⟨.slice none 0 0, by rw [v2, v3]; rfl, by rw [v1]; exact World.ownsRow_nil _ _ _ _, HB2.out⟩
    · rw [if_neg hbad] at hV2
      have HV2 := Lib.hid hV2
      clear hV2 hr hv
      go_enter Tryd.func13, Tryd.ntmps13
      go_wp2_with fail
      refine HRt.out.mono ?_
      rintro e w2 ⟨rfl, hb2⟩
      have e5 : (decide (base < 0) || decide (1020 < base) || base % 4 != 0) = false := by simp; omega
      have hb0 : 0 ≤ base ∧ base ≤ 1020 := by omega
      have HB2 := Lib.hid hb2
      clear hbad hb2
      go_upto_region 6 with fail
      obtain ⟨Sf, hSf⟩ : ∃ Sf, Sf = runF (lastF L 0) L.length base L AS0 := ⟨_, rfl⟩
      have hVf : V = if Sf.e = 0 then (Sf.out, Sf.slots, 0) else ([], 0, Sf.e) := by rw [HV2.out, hSf]; rfl
      have hA0 : AlR w w2.heap.size (w2.heap.size + 1) x n c L base 0 Sf 0 (-1) (-1) (-1) (-1) (-1) (-1) (-1) (-1) 0 0 (.slice none 0 0) (.slice none 0 0) [] [] [] (w2.alloc (.cells #[.slice x n c, .int .i64 base, .int .i64 0, .int .i64 (-1), .int .i64 (-1), .int .i64 (-1), .int .i64 (-1), .int .i64 (-1), .int .i64 (-1), .int .i64 (-1), .int .i64 (-1), (.slice none 0 0), (.slice none 0 0), .int .i64 0, .int .i64 0] 86)) :=
        ⟨rfl, heap_alloc_last w2 _, ⟨World.ownsRow_nil _ _ _ _, World.ownsRow_nil _ _ _ _, .inl rfl, Nat.zero_le _, Nat.zero_le _⟩, HB2.out.trans (((Below.refl _ w2).alloc (Nat.le_refl _) _).mono HB2.out.size), hSf.symm, fun _ => ⟨runI0 hb0.2, Hlv.out⟩, by omega⟩
      have hsz2 : w2.heap.size + 1 ≤ (w2.alloc (.cells #[.slice x n c, .int .i64 base, .int .i64 0, .int .i64 (-1), .int .i64 (-1), .int .i64 (-1), .int .i64 (-1), .int .i64 (-1), .int .i64 (-1), .int .i64 (-1), .int .i64 (-1), (.slice none 0 0), (.slice none 0 0), .int .i64 0, .int .i64 0] 86)).heap.size := by simp
      generalize w2.alloc _ = w3 at hA0 hsz2 ⊢
      have hw2 := HB2.out.size
      have HVf := Lib.hid hVf
      have HA0 := Lib.hid hA0
      clear hVf hA0 hSf HV2 HV e5
      go_wp2_with fail
      go_loopw [8] (fun iv wr => ∃ (k : Nat) (pos g0 g1 g2 g3 g4 g5 g6 g7 m er : Int) (vs vo : Value) (T : List Int) (O : List Op8) (S : List Int), k ≤ n ∧ iv = .int .i64 k ∧ w2.heap.size + 1 ≤ wr.heap.size ∧ AlR w w2.heap.size (w2.heap.size + 1) x n c L base k Sf pos g0 g1 g2 g3 g4 g5 g6 g7 m er vs vo T O S wr) (fun iv _ => n - (intOf iv).toNat)
      case atStart => exact ⟨0, _, _, _, _, _, _, _, _, _, _, _, _, _, _, _, _, Nat.zero_le _, rfl, hsz2, HA0.out⟩
      case round =>
        obtain ⟨k, pos, g0, g1, g2, g3, g4, g5, g6, g7, m, er, vs, vo, T, O, S, hk, rfl, hsr, hA⟩ := hrel
        obtain rfl := hA.hp
        obtain ⟨xs, cs, rfl, hcs⟩ := own_slice hA.rows.rt
        obtain ⟨xo, co, rfl, hco⟩ := own_slice hA.rows.ro
        obtain ⟨z0, z1, z2, z3, z4, z5, z6, z7, z8, z9, z10, z11, z12, z13, z14⟩ := blockA_cells hA.blk
        have hlb := lt_of_block hA.blk
        have hm := hA.sl
        by_cases he : er = 0
        · by_cases hlt : k < n
          · subst he
            have hlt' : k < L.length := by rw [HN.out]; exact hlt
            have hkI : (k : Int) < (n : Int) := by omega
            obtain ⟨hRI, hlv⟩ := hA.good rfl
            rw [List.drop_eq_getElem_cons hlt'] at hlv
            obtain ⟨ho, _⟩ := listV_cons hlv
            have hst := stepR_any x n c L base g0 g1 g2 g3 g4 g5 g6 g7 m 0 (.slice xs T.length cs) (.slice xo O.length co) T O (w2.heap.size + 1) (20 * k) k S wr (HL.out.below hA.bel) HN.out (by omega) hlt' (fun b o e => by
              obtain ⟨b', o', e', hb', _⟩ := HL.out.resolve_left (by omega)
              rw [e] at e'
              injection e' with e'
              injection e' with e' _ _
              omega) hA.rows hsr hRI ho (HNN.out _ (List.getElem_mem hlt')) hb0 hm (by omega) _ rfl
            obtain ⟨S1, hS1⟩ : ∃ S1, S1 = stepF (lastF L 0) L.length base ⟨k, [g0, g1, g2, g3, g4, g5, g6, g7], T, O, m, 0⟩ L[k] := ⟨_, rfl⟩
            rw [← hS1] at hst
            have HA := Lib.hid hA
            have HS1 := Lib.hid hS1
            have HSt := Lib.hid hst
            have wi : IntKind.i64.wrap ((k : Int) + 1) = (k : Int) + 1 := IntWalk.i64_in _ (by omega)
            clear hA hS1 hst hRI hlv ho hm
            go_wp2_with fail
            refine HSt.out.mono ?_
            rintro e w6 ⟨h0, h1, h2, h3, h4, h5, h6, h7, vs', vo', rfl, hG, hr, hg, e15, e25, hm6⟩
            obtain ⟨hk6, hA6⟩ := HA.out.step hlt' rfl hw2 (Nat.lt_succ_self _) hsr HS1.out hG hr hg hm6
            have hs6 : w2.heap.size + 1 ≤ w6.heap.size := Nat.le_trans hsr hg.size
            obtain ⟨xs6, cs6, rfl, _⟩ := own_slice hr.rt
            obtain ⟨xo6, co6, rfl, _⟩ := own_slice hr.ro
            have HA6 := Lib.hid hA6
            have hs7 : w2.heap.size + 1 ≤ (w6.setRow w2.heap.size #[.slice x n c, .int .i64 base, .int .i64 ((k : Int) + 1), .int .i64 h0, .int .i64 h1, .int .i64 h2, .int .i64 h3, .int .i64 h4, .int .i64 h5, .int .i64 h6, .int .i64 h7, (.slice xs6 S1.T.length cs6), (.slice xo6 S1.out.length co6), .int .i64 S1.slots, .int .i64 S1.e]).heap.size := by simpa [World.setRow] using hs6
            have Hs7 := Lib.hid hs7
            clear hG hr hg e15 e25 hm6 hA6 HSt hs7 z0 z1 z2 z3 z4 z5 z6 z7 z8 z9 z10 z11 z12 z13 z14
            go_wp2_with (refine wpList_store_row rfl 86 (.tmp 7) (.tmp 39) (by rfl) w2.heap.size #[.slice x n c, .int .i64 base, .int .i64 ((k : Int) + 1), .int .i64 h0, .int .i64 h1, .int .i64 h2, .int .i64 h3, .int .i64 h4, .int .i64 h5, .int .i64 h6, .int .i64 h7, (.slice xs6 S1.T.length cs6), (.slice xo6 S1.out.length co6), .int .i64 S1.slots, .int .i64 S1.e] (by rfl) (by rfl) 86 _ hk6 sizeA rfl (by simp [Value.oneCell']) ?_)
            exact ⟨⟨k + 1, _, _, _, _, _, _, _, _, _, _, _, _, _, _, _, _, by omega, by simp, Hs7.out, HA6.out⟩, by simp only [intOf]; omega⟩
          · have hkn : k = L.length := by rw [HN.out]; omega
            obtain ⟨f1, f2, f3⟩ := hA.last (.inl hkn)
            have HA := Lib.hid hA
            have hV := HVf.out
            rw [f1, if_pos he, f2, f3] at hV
            have HV := Lib.hid hV
            clear hV f1 f2 f3 hkn hA hm
            subst he
            go_wp2_with fail
            go_quiet (fail)
            go_wp2_with fail
            go_ret3
            have hB := below_drewN (Below.refl wr.heap.size wr) nq
            refine ⟨.slice xo O.length co, by rw [HV.out]; rfl, ?_, HA.out.bel.trans (hB.mono HA.out.bel.size)⟩
            rw [HV.out]
            exact ownsRow_lower (ownsRow_below HA.out.rows.ro hB) (by omega)
        · have e7 : (er == (0 : Int)) = false := by simpa using he
          have e8 : (er != (0 : Int)) = true := by simpa using he
          obtain ⟨f1, f2, f3⟩ := hA.last (.inr he)
          have HA := Lib.hid hA
          have hV := HVf.out
          rw [f1, if_neg he] at hV
          have HV := Lib.hid hV
          clear hV f1 f2 f3 hA hm he
          by_cases hlt : k < n
          all_goals
            go_wp2_with fail
            go_quiet (fail)
            go_wp2_with fail
            go_ret3
            have hB := below_drewN (Below.refl wr.heap.size wr) nq
            refine ⟨.slice none 0 0, by rw [HV.out]; rfl, ?_, HA.out.bel.trans (hB.mono HA.out.bel.size)⟩
            rw [HV.out]
            exact World.ownsRow_nil _ _ _ _
end Go.Proofs.YtmkencdkglbpbaaDoor
