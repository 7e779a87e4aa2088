/- VopLists: the walk. -/
import Derived.Test.YtmkencdkglbpbaaDoorRefL
import Derived.Test.YtmkencdkglbpbaaDoorVopN
set_option maxRecDepth 100000
set_option linter.unusedVariables false
namespace Go.Proofs.YtmkencdkglbpbaaDoor
open Go.RowKit Go.Maps

theorem Tryd.infoO : (Tryd.prog.info? 38).map (fun i => (i.zero, i.size, i.bytes)) = some (some (.agg #[.int .i64 0, .int .i64 0, .int .i64 0, .int .i64 0, .int .i64 0, .int .i64 0, .int .i64 0, .int .u32 0]), 8, 64) := by kernel_rfl
/-- An operation's cells. -/
def opCells (o : Op8) : List Value := [.int .i64 o.K, .int .i64 o.t0, .int .i64 o.t1, .int .i64 o.f0, .int .i64 o.f1, .int .i64 o.f2, .int .i64 o.f3, .int .u32 o.N]
def opsCells (L : List Op8) : List Value := L.flatMap opCells
theorem opsCells_length (L : List Op8) : (opsCells L).length = L.length * 8 := by
  induction L with
  | nil => rfl
  | cons o L ih => rw [opsCells, List.flatMap_cons, List.length_append]; change 8 + (opsCells L).length = _; rw [ih, List.length_cons]; omega
theorem opsCells_get : ∀ (L : List Op8) (i : Nat) (hi : i < L.length) (j : Nat), j < 8 → (opsCells L)[i * 8 + j]? = (opCells L[i])[j]?
  | o :: L, 0, _, j, hj => by
    rw [opsCells, List.flatMap_cons, Nat.zero_mul, Nat.zero_add, List.getElem?_append_left (by exact hj)]; rfl
  | o :: L, i + 1, hi, j, hj => by
    rw [opsCells, List.flatMap_cons, List.getElem?_append_right (by change 8 ≤ _; omega)]
    have := opsCells_get L i (by simpa using hi) j hj
    rw [show (i + 1) * 8 + j - (opCells o).length = i * 8 + j from by change (i + 1) * 8 + j - 8 = _; omega]
    exact this
theorem op_all (o : Op8) : ∀ u ∈ opCells o, u.oneCell' = true := by
  intro u hu
  simp only [opCells, List.mem_cons, List.not_mem_nil, or_false] at hu
  rcases hu with rfl | rfl | rfl | rfl | rfl | rfl | rfl | rfl <;> rfl
theorem op_new (W : World) (o : Op8) (t : TypeId) : ∀ (j : Nat) (u : Value), (opCells o)[j]? = some u →
    (W.alloc (.cells #[.int .i64 o.K, .int .i64 o.t0, .int .i64 o.t1, .int .i64 o.f0, .int .i64 o.f1, .int .i64 o.f2, .int .i64 o.f3, .int .u32 o.N] t)).cell? ((⟨W.heap.size, 0, none⟩ : Addr).add j) = some u := by
  intro j u hj
  have e : (⟨W.heap.size, 0, none⟩ : Addr).add j = ⟨W.heap.size, j, none⟩ := by unfold Addr.add; split <;> simp_all
  rw [e, World.cell?_alloc_at _ _ _ _ rfl, ← Array.getElem?_toList]
  exact hj
theorem opsSl_own {w : World} {B : Nat} {t : TypeId} {v : Value} {L : List Op8} {n : Nat} (h : w.ownsRow B t 8 v n (opsCells L)) (hn : L.length = n) : ∃ x c, v = .slice x n c ∧ n ≤ c ∧ OpsSl w x L := by
  rcases h.2 with ⟨rfl, h0⟩ | ⟨g, cap, cur, rfl, hg, hh, hc, _⟩
  · subst h0; exact ⟨none, 0, rfl, Nat.le_refl _, .inl hn⟩
  · refine ⟨_, cap, rfl, hc, .inr ⟨g, 0, rfl, lt_of_block hh, fun i hi => ?_⟩⟩
    have q : ∀ j, j < 8 → w.cell? ⟨g, 0 + i * 8 + j, none⟩ = (opCells L[i])[j]? := fun j hj => by
      rw [Nat.zero_add, h.cellAt (i * 8 + j) (by omega)]
      exact opsCells_get L i hi j hj
    exact ⟨q 0 (by omega), q 1 (by omega), q 2 (by omega), q 3 (by omega), q 4 (by omega), q 5 (by omega), q 6 (by omega), q 7 (by omega)⟩

set_option maxHeartbeats 8000000 in
theorem vopLists_walk (x : Option Addr) (n c : Nat) (L : List Op8) (w : World) (hS : HasRows w) (hL : OpsSl w x L) (hn : L.length = n) (hnc : n ≤ c) (hN : ∀ o ∈ L, 0 ≤ o.N ∧ o.N < 4294967296) :
    Calls Tryd.prog 9 #[.slice x n c] w fun e w' => e = .returned (.bool true) ∧ Below w.heap.size w w' := by
  obtain ⟨i0, hi, hz0, hz1, hz2⟩ := info_parts Tryd.infoO
  have HS := Lib.hid hS
  have HL := Lib.hid hL
  have HN := Lib.hid hn
  have HB := Lib.hid hN
  clear hS hL hn hN
  go_enter Tryd.func9, Tryd.ntmps9
  go_wp2_with fail
  refine (anchor_any w).mono ?_
  rintro e w1 ⟨rfl, hb1⟩
  have HB1 := Lib.hid hb1
  clear hb1
  by_cases h60 : 60 < (n : Int)
  · have e1 : decide (60 < (n : Int)) = true := by simpa using h60
    go_wp2_with fail
    go_ret
    exact ⟨rfl, HB1.out⟩
  have e1 : decide (60 < (n : Int)) = false := by simpa using h60
  have hn60 : n ≤ 60 := by omega
  clear h60
  go_wp2_with fail
  go_loopw [3, 13] (fun mv i wr => ∃ k : Nat, k ≤ n ∧ i = .int .i64 k ∧ wr.ownsRow w.heap.size 38 8 mv k (opsCells (L.take k)) ∧ Below w.heap.size w wr) (fun _ i _ => n - (intOf i).toNat)
  case atStart => exact ⟨0, Nat.zero_le _, rfl, World.ownsRow_nil _ _ _ _, HB1.out⟩
  case round =>
    obtain ⟨k, hk, rfl, hown, hb⟩ := hrel
    have HOWN := Lib.hid hown
    have HBr := Lib.hid hb
    clear hown hb
    by_cases hlt : k < n
    · have hlt' : k < L.length := by rw [HN.out]; exact hlt
      obtain ⟨b, o, rfl, hb, hc⟩ := HL.out.resolve_left (by have := HN.out; omega)
      obtain ⟨d0, d1, d2, d3, d4, d5, d6, d7⟩ := hc k hlt'
      have hst : L.take (k + 1) = L.take k ++ [L[k]] := List.take_succ_eq_append_getElem hlt'
      generalize L[k]'hlt' = p at d0 d1 d2 d3 d4 d5 d6 d7 hst
      have Hst := Lib.hid hst
      have c0 := (HBr.out.cell (p := ⟨b, o + k * 8, none⟩) hb).trans d0
      have c1 := (HBr.out.cell (p := ⟨b, o + k * 8 + 1, none⟩) hb).trans d1
      have c2 := (HBr.out.cell (p := ⟨b, o + k * 8 + 2, none⟩) hb).trans d2
      have c3 := (HBr.out.cell (p := ⟨b, o + k * 8 + 3, none⟩) hb).trans d3
      have c4 := (HBr.out.cell (p := ⟨b, o + k * 8 + 4, none⟩) hb).trans d4
      have c5 := (HBr.out.cell (p := ⟨b, o + k * 8 + 5, none⟩) hb).trans d5
      have c6 := (HBr.out.cell (p := ⟨b, o + k * 8 + 6, none⟩) hb).trans d6
      have c7 := (HBr.out.cell (p := ⟨b, o + k * 8 + 7, none⟩) hb).trans d7
      have wq : IntKind.i64.wrap ((k : Int) + 1) = (k : Int) + 1 := IntWalk.i64_in _ (by omega)
      have hbs := HBr.out.size
      have dlt : b ≠ wr.heap.size := by omega
      have hB2 := HBr.out.alloc HBr.out.size (.cells #[.int .i64 p.K, .int .i64 p.t0, .int .i64 p.t1, .int .i64 p.f0, .int .i64 p.f1, .int .i64 p.f2, .int .i64 p.f3, .int .u32 p.N] 37)
      have hO2 := opAt_new wr p.K p.t0 p.t1 p.f0 p.f1 p.f2 p.f3 p.N
      have hW2 := HOWN.out.alloc (.cells #[.int .i64 p.K, .int .i64 p.t0, .int .i64 p.t1, .int .i64 p.f0, .int .i64 p.f1, .int .i64 p.f2, .int .i64 p.f3, .int .u32 p.N] 37)
      have HB2 := Lib.hid hB2
      have HO2 := Lib.hid hO2
      have HW2 := Lib.hid hW2
      clear hc hst d0 d1 d2 d3 d4 d5 d6 d7 hB2 hO2 hW2
      go_wp2_with (at_builtin; refine wpList_append_own _ rfl (.tmp 17) (.tmp 19) 29 rfl w.heap.size 38 i0 (.agg #[.int .i64 0, .int .i64 0, .int .i64 0, .int .i64 0, .int .i64 0, .int .i64 0, .int .i64 0, .int .u32 0]) 8 64 Tryd.underlying29 hi hz0 hz1 hz2 rfl (by decide) _ k _ rfl (HW2.out.alloc _) ⟨wr.heap.size + 1, 0, none⟩ 1 1 (opCells p) rfl rfl ?c1 ?c2 ?c3 ?c4 ?c5 ?_)
      case c1 =>
        have := op_new (wr.alloc (.cells #[.int .i64 p.K, .int .i64 p.t0, .int .i64 p.t1, .int .i64 p.f0, .int .i64 p.f1, .int .i64 p.f2, .int .i64 p.f3, .int .u32 p.N] 37)) p 38
        rwa [World.size_alloc] at this
      case c2 => exact op_all p
      case c3 => unfold maxLen; omega
      case c4 => omega
      case c5 => simp; omega
      intro v3 w3 hown3 hgrow3 _
      have hne3 := (HW2.out.alloc (.cells #[.int .i64 p.K, .int .i64 p.t0, .int .i64 p.t1, .int .i64 p.f0, .int .i64 p.f1, .int .i64 p.f2, .int .i64 p.f3, .int .u32 p.N] 38)).lt
      have HB3 := Lib.hid ((HB2.out.alloc HB2.out.size (.cells #[.int .i64 p.K, .int .i64 p.t0, .int .i64 p.t1, .int .i64 p.f0, .int .i64 p.f1, .int .i64 p.f2, .int .i64 p.f3, .int .u32 p.N] 38)).grown hgrow3 (by simp; omega) (fun b e => (hne3 b e).1))
      have HOWN3 := Lib.hid hown3
      clear hown3 hgrow3 hne3 c0 c1 c2 c3 c4 c5 c6 c7
      go_wp2_with fail
      refine ⟨⟨k + 1, by omega, by simp, ?_, HB3.out⟩, by simp only [intOf]; omega⟩
      rw [Hst.out, opsCells, List.flatMap_append, List.flatMap_singleton]
      exact HOWN3.out
    · have hkn : k = n := by omega
      have hown := HOWN.out
      rw [hkn, List.take_of_length_le (by have := HN.out; omega)] at hown
      obtain ⟨mx, mc, rfl, hmc, hms⟩ := opsSl_own hown HN.out
      have HMS := Lib.hid hms
      have HLr := Lib.hid (HL.out.below HBr.out)
      clear hown hms hkn
      go_wp2_with fail
      refine (right_list x n c L wr (HS.out.below HBr.out) HLr.out HN.out (by omega) hnc HB.out).mono ?_
      rintro e w4 ⟨rfl, hb4⟩
      have HB4 := Lib.hid (HBr.out.trans (hb4.mono HBr.out.size))
      have HM4 := Lib.hid (HMS.out.below hb4)
      clear hb4
      go_wp2_with fail
      refine (refRight_list mx n mc L w4 HM4.out HN.out (by omega) hmc HB.out).mono ?_
      rintro e w5 ⟨rfl, hb5⟩
      have HB5 := Lib.hid (HB4.out.trans (hb5.mono HB4.out.size))
      clear hb5
      generalize listV [] L = V
      go_wp2_with fail
      go_ret
      exact ⟨by cases V <;> rfl, HB5.out⟩
end Go.Proofs.YtmkencdkglbpbaaDoor
