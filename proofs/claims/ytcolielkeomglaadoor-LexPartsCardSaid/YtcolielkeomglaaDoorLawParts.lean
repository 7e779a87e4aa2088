/- LexParts: the walk. -/
import Derived.Test.YtcolielkeomglaaDoorLawJoins
import Derived.Test.YtcolielkeomglaaDoorLexParts
set_option maxRecDepth 100000
set_option linter.unusedVariables false
namespace Go.Proofs.YtcolielkeomglaaDoor
open Go.RowKit

/-- Where a part of a slice begins. -/
def subAd (a : Option Addr) (l cap : Nat) : Option Addr := if cap = l then a else Option.map (fun x => x.add l) a

theorem byteRow_sub {w : World} {a : Option Addr} {n cap : Nat} {F : List Int} (h : ByteRow w a n F) (hcap : a = none → n = 0 ∧ cap = 0) (hn : n ≤ cap) (l r : Nat) (hl : l ≤ r) (hr : r ≤ n) :
    ByteRow w (subAd a l cap) (r - l) ((F.drop l).take (r - l)) ∧ (subAd a l cap = none → r - l = 0 ∧ cap - l = 0) := by
  obtain ⟨h1, h2, h3⟩ := h
  refine ⟨⟨by simp; omega, fun x hx => h2 x (List.mem_of_mem_drop (List.mem_of_mem_take hx)), ?_⟩, ?_⟩
  · by_cases h0 : r - l = 0
    · exact .inl h0
    · right
      rcases h3 with h3 | ⟨b, o, rfl, hb, hc⟩
      · omega
      · refine ⟨b, o + l, ?_, hb, fun i hi => ?_⟩
        · unfold subAd
          rw [if_neg (by omega)]
          simp [Addr.add]
        · rw [Nat.add_assoc, hc (l + i) (by omega)]
          simp only [List.getD_eq_getElem?_getD, List.getElem?_take, List.getElem?_drop]
          rw [if_pos hi]
  · intro e
    have : a = none := by
      unfold subAd at e
      split at e
      · exact e
      · simpa using e
    obtain ⟨h5, h6⟩ := hcap this
    omega

theorem bytesOf_sub (F : List Int) (l k : Nat) : bytesOf ((F.drop l).take k) = ((bytesOf F).drop l).take k := by
  simp [bytesOf, List.map_take, List.map_drop]

theorem parts_pos {s : List UInt8} {p : Nat} {r : List Tok} (h : Parts s p r) : p ≤ s.length := by
  cases r with
  | nil => exact Nat.le_of_eq h
  | cons t r => obtain ⟨h1, h2, _⟩ := h; omega

theorem below_drewN {B : Nat} {a w : World} (h : Below B a w) (n : Nat) : Below B a (w.drewN n) := ⟨h.os, h.tape, h.output, h.size, h.block⟩

set_option maxHeartbeats 4000000 in
theorem lexParts_walk (a : Option Addr) (n cap : Nat) (F : List Int) (w : World) (hF : ByteRow w a n F) (hcap : a = none → n = 0 ∧ cap = 0) (hnc : n ≤ cap) (hmax : cap ≤ maxLen) (hS : HasSigns w) :
    Calls Tryd.prog 4 #[.slice a n cap] w fun e w' => e = .returned (.bool true) ∧ Below w.heap.size w w' := by
  unfold maxLen at hmax
  have HF := Lib.hid hF
  have Hcap := Lib.hid hcap
  have HS := Lib.hid hS
  clear hF hcap hS
  by_cases hbig : 20000 < n
  · go_enter Tryd.func4, Tryd.ntmps4
    go_wp2_with fail
    refine (anchor09 w HS.out).mono ?_
    rintro ee w1 ⟨rfl, hb1⟩
    go_wp2
    go_ret
    exact ⟨rfl, hb1⟩
  · go_enter Tryd.func4, Tryd.ntmps4
    go_wp2_with fail
    refine (anchor09 w HS.out).mono ?_
    rintro ee w1 ⟨rfl, hb1⟩
    have HB1 := Lib.hid hb1
    clear hb1
    go_wp2_with fail
    refine (tokens_any a n cap F w1 (HF.out.below HB1.out) Hcap.out (by omega) (HS.out.below HB1.out)).mono ?_
    intro ee w2 h1
    unfold LexPost at h1
    cases hl : lexF (bytesOf F) with
    | inl x =>
      obtain ⟨c, p⟩ := x
      rw [hl] at h1
      obtain ⟨rfl, hb2⟩ := h1
      have HB2 := Lib.hid (HB1.out.trans (hb2.mono HB1.out.size))
      have hc0 : ((c : Int) != 0) = true := by
        have := (lexF_bad hl).1
        simp; omega
      have Hl := Lib.hid hl
      clear hb2 hl
      go_wp2_with fail
      go_ret
      exact ⟨rfl, HB2.out⟩
    | inr ts =>
      rw [hl] at h1
      obtain ⟨v, rfl, hown2, hb2⟩ := h1
      have HB2 := Lib.hid (HB1.out.trans (hb2.mono HB1.out.size))
      have hP := lexF_parts hl
      have hn0 := lexF_pos hl
      have hqm := own_len hown2
      obtain ⟨g, cg, rfl, hcg, hg, -, hcl⟩ := toks_at hown2 hn0
      have HP := Lib.hid hP
      have HT := Lib.hid (tok_at rfl hcl)
      clear hb2 hl hown2 hP hcl
      obtain ⟨q, hq⟩ : ∃ q, q = ts.length := ⟨_, rfl⟩
      have Hq := Lib.hid hq
      rw [← hq] at hcg hn0 hqm ⊢
      clear hq
      go_wp2_with fail
      go_loopw [27, 6] (fun i p wr => ∃ (k pp : Nat), k ≤ q ∧ i = .int .i64 k ∧ p = .int .i64 pp ∧ Parts (bytesOf F) pp (ts.drop k) ∧ Below w2.heap.size w2 wr) (fun i _ _ => q - (intOf i).toNat)
      case atStart => exact ⟨0, 0, Nat.zero_le _, rfl, rfl, HP.out, Below.refl _ _⟩
      case round =>
        obtain ⟨k, pp, hk, rfl, rfl, hpk, hB⟩ := hrel
        have HB := Lib.hid hB
        have hpp := parts_pos hpk
        rw [bytesOf_len, HF.out.1] at hpp
        clear hB
        by_cases hlt : k < q
        · have hlt' : k < ts.length := by rw [← Hq.out]; exact hlt
          obtain ⟨a1, a2, a3, a4⟩ := (HT.out k hlt').below HB.out hg
          rw [List.drop_eq_getElem_cons hlt'] at hpk
          generalize ts[k]'hlt' = t at *
          obtain ⟨p1, p2, p3, p4, p5, p6⟩ := hpk
          rw [bytesOf_len, HF.out.1] at p2
          obtain ⟨bl, hb1, hb2⟩ : ∃ bl, ((t.kind : Int) == 4) = bl ∧ ((k : Int) == (q : Int) - 1) = bl := by
            have e1 : ((t.kind : Int) == 4) = (t.kind == 4) := by
              rw [Bool.eq_iff_iff]; simp only [beq_iff_eq]; omega
            refine ⟨_, e1.trans p4, ?_⟩
            have e2 : (ts.drop (k + 1)).isEmpty = decide (ts.length ≤ k + 1) := by
              rw [Bool.eq_iff_iff]; simp
            rw [e2, ← Hq.out, Bool.eq_iff_iff]
            simp only [beq_iff_eq, decide_eq_true_eq]
            omega
          have P3 := Lib.hid p3
          have P4 := Lib.hid p4
          have P5 := Lib.hid p5
          have P6 := Lib.hid p6
          clear p3 p4 p5 p6
          have hpl : pp ≤ n := hpp
          have htl : t.text.length ≤ n - t.ad := by omega
          have q1 : decide (t.ad < pp) = false := by simp; omega
          have q2 : decide (n < t.ad) = false := by simp; omega
          have wq1 : IntKind.i64.wrap ((n : Int) - (t.ad : Int)) = (n : Int) - (t.ad : Int) := IntWalk.i64_in _ (by omega)
          have wq2 : IntKind.i64.wrap ((t.ad : Int) + (t.text.length : Int)) = (t.ad : Int) + (t.text.length : Int) := IntWalk.i64_in _ (by omega)
          have wq3 : IntKind.i64.wrap ((q : Int) - 1) = (q : Int) - 1 := IntWalk.i64_in _ (by omega)
          have s0 : (0 : Int) ≤ (t.ad : Int) := by omega
          have s1 : (t.ad : Int) ≤ (t.ad : Int) + (t.text.length : Int) := by omega
          have s2 : (t.ad : Int) + (t.text.length : Int) ≤ (cap : Int) := by omega
          have s3 : ((t.ad : Int) + (t.text.length : Int)).toNat = t.ad + t.text.length := by omega
          have cv : ∀ nd : Nat, (convert 22 9 (.slice (subAd a t.ad cap) t.text.length (cap - t.ad))).run Tryd.prog ((wr.alloc (.cells #[.int .i64 t.kind, .int .i64 t.ad, .string ⟨t.text.toArray⟩, .int .u32 t.num] 33)).drewN nd) = .ok (.string ⟨t.text.toArray⟩) ((wr.alloc (.cells #[.int .i64 t.kind, .int .i64 t.ad, .string ⟨t.text.toArray⟩, .int .u32 t.num] 33)).drewN nd) := by
            intro nd
            obtain ⟨h1, h2⟩ := byteRow_sub (HF.out.below (HB2.out.trans (below_drewN ((HB.out.mono HB2.out.size).alloc (by have := HB.out.size; have := HB2.out.size; omega) (.cells #[.int .i64 t.kind, .int .i64 t.ad, .string ⟨t.text.toArray⟩, .int .u32 t.num] 33)) nd))) Hcap.out hnc t.ad (t.ad + t.text.length) (by omega) (by omega)
            rw [Nat.add_sub_cancel_left] at h1 h2
            have h3 := conv_row h1 (c := cap - t.ad) h2
            have h4 : strOfNums ((F.drop t.ad).take t.text.length) = ⟨t.text.toArray⟩ := by
              have := bytesOf_sub F t.ad t.text.length
              rw [P3.out] at this
              unfold strOfNums
              rw [show ((F.drop t.ad).take t.text.length).map (fun n => UInt8.ofNat n.toNat) = t.text from this]
            rw [h4] at h3
            exact h3
          have q3 : decide ((n : Int) - (t.ad : Int) < (t.text.length : Int)) = false := by simp; omega
          go_wp2_with fail
          have ift : (if cap = t.ad then a else Option.map (fun x => x.add t.ad) a) = subAd a t.ad cap := rfl
          have ifp : (if cap = pp then a else Option.map (fun x => x.add pp) a) = subAd a pp cap := rfl
          have s4 : (0 : Int) ≤ (pp : Int) := by omega
          have s5 : (pp : Int) ≤ (t.ad : Int) := by omega
          have s6 : (t.ad : Int) ≤ (cap : Int) := by omega
          go_quiet (fail)
          clear cv
          have HBq : Hid (Below w2.heap.size w2 ((wr.alloc (.cells #[.int .i64 t.kind, .int .i64 t.ad, .string ⟨t.text.toArray⟩, .int .u32 t.num] 33)).drewN nq)) := below_drewN (HB.out.alloc HB.out.size _) nq
          have HBw := Lib.hid (HB2.out.trans (HBq.out.mono HB2.out.size))
          obtain ⟨r1, r2⟩ := byteRow_sub (HF.out.below HBw.out) Hcap.out hnc pp t.ad (by omega) (by omega)
          have R1 := Lib.hid r1
          have R2 := Lib.hid r2
          clear r1 r2
          have hgap : Hid (lexF (bytesOf ((F.drop pp).take (t.ad - pp))) = .inr [⟨4, t.ad - pp, [], 0⟩]) := by
            have h1 : (bytesOf ((F.drop pp).take (t.ad - pp))).length = t.ad - pp := by rw [bytesOf_len, R1.out.1]
            have h2 := lexF_gap (g := bytesOf ((F.drop pp).take (t.ad - pp))) (by rw [h1, bytesOf_sub]; exact P5.out) (by omega)
            rw [h1] at h2
            exact h2
          go_wp2_with fail
          refine (tokens_any (subAd a pp cap) (t.ad - pp) (cap - pp) _ _ R1.out R2.out (by omega) (HS.out.below HBw.out)).mono ?_
          intro ee w5 h5
          unfold LexPost at h5
          rw [hgap.out] at h5
          obtain ⟨v5, rfl, hown5, hb5⟩ := h5
          obtain ⟨g5, c5, rfl, _, _, _, hc5⟩ := toks_at hown5 (by simp)
          have HB5 := Lib.hid (HBq.out.trans (hb5.mono HBq.out.size))
          have hcell1 : w5.cell? { block := wr.heap.size, off := 1 } = some (.int .i64 t.ad) := by
            refine (hb5.cell (p := { block := wr.heap.size, off := _ }) (by simp [World.drewN])).trans ?_
            exact World.cell?_alloc_at _ _ _ _ rfl
          have hcell2 : w5.cell? { block := wr.heap.size, off := 2 } = some (.string ⟨t.text.toArray⟩) := by
            refine (hb5.cell (p := { block := wr.heap.size, off := _ }) (by simp [World.drewN])).trans ?_
            exact World.cell?_alloc_at _ _ _ _ rfl
          have wq4 : IntKind.i64.wrap ((k : Int) + 1) = (k : Int) + 1 := IntWalk.i64_in _ (by omega)
          clear hown5 hb5 hc5
          simp only [List.length_singleton]
          go_wp2_with fail
          refine ⟨⟨k + 1, t.ad + t.text.length, by omega, by simp, by simp, P6.out, HB5.out⟩, ?_⟩
          simp only [intOf]
          omega
        · have hk2 : k = q := by omega
          have hend : ((pp : Int) == (n : Int)) = true := by
            rw [hk2, Hq.out, List.drop_length] at hpk
            have : pp = n := by rw [← HF.out.1, ← bytesOf_len]; exact hpk
            simp [this]
          clear hpk hk2
          go_wp2
          go_ret
          exact ⟨rfl, HB2.out.trans (HB.out.mono HB2.out.size)⟩
end Go.Proofs.YtcolielkeomglaaDoor
