/- LexShows: the walk. -/
import Derived.Test.YtcolielkeomglaaDoorLawJoins
import Derived.Test.YtcolielkeomglaaDoorLexS2
import Derived.Lib.ConvBytes
import Derived.Laws.StructEq
set_option maxRecDepth 100000
set_option linter.unusedVariables false
namespace Go.Proofs.YtcolielkeomglaaDoor
open Go.RowKit

theorem below_bytes (B : Nat) (w : World) (e : TypeId) (s : ByteArray) (h : B ≤ w.heap.size) : Below B w (Lib.bytesWorld w e s) := by
  refine ⟨?_, ?_, ?_, ?_, fun k hk => Lib.bytesWorld_at_old w e s k (by omega)⟩
  · simp [Lib.bytesWorld, World.freeze, World.alloc, World.drew, -World.alloc_eq, -World.drew_eq]
  · simp [Lib.bytesWorld, World.freeze, World.alloc, World.drew, -World.alloc_eq, -World.drew_eq]
  · simp [Lib.bytesWorld, World.freeze, World.alloc, World.drew, -World.alloc_eq, -World.drew_eq]
  · rw [Lib.bytesWorld_size]; omega

/-- A string's bytes, as numbers. -/
def numsOf (l : List UInt8) : List Int := l.map fun b => (b.toNat : Int)
theorem bytesOf_nums (l : List UInt8) : bytesOf (numsOf l) = l := by
  unfold bytesOf numsOf
  rw [List.map_map]
  conv => rhs; rw [← List.map_id l]
  exact List.map_congr_left (fun b _ => by simp)

theorem byteRow_bytes (w : World) (e : TypeId) (l : List UInt8) : ByteRow (Lib.bytesWorld w e ⟨l.toArray⟩) (some ⟨w.heap.size, 0, none⟩) l.length (numsOf l) := by
  refine ⟨by simp [numsOf], ?_, .inr ⟨w.heap.size, 0, rfl, by rw [Lib.bytesWorld_size]; omega, fun i hi => ?_⟩⟩
  · intro x hx
    simp only [numsOf, List.mem_map] at hx
    obtain ⟨b, _, rfl⟩ := hx
    have := b.toNat_lt
    omega
  · rw [Nat.zero_add, Lib.bytesWorld_cell w e ⟨l.toArray⟩ i hi]
    simp only [numsOf, List.getD_eq_getElem?_getD, List.getElem?_map]
    rw [List.getElem?_eq_getElem hi]
    rfl

set_option maxHeartbeats 4000000 in
theorem lexShows_walk (a : Option Addr) (n cap : Nat) (F : List Int) (w : World) (hF : ByteRow w a n F) (hcap : a = none → n = 0 ∧ cap = 0) (hnc : n ≤ cap) (hmax : cap ≤ maxLen) (hS : HasSigns w) :
    Calls Tryd.prog 7 #[.slice a n cap] w fun e w' => e = .returned (.bool true) ∧ Below w.heap.size w w' := by
  unfold maxLen at hmax
  have HF := Lib.hid hF
  have Hcap := Lib.hid hcap
  have HS := Lib.hid hS
  clear hF hcap hS
  by_cases hbig : 20000 < n
  · go_enter Tryd.func7, Tryd.ntmps7
    go_wp2_with fail
    refine (anchor09 w HS.out).mono ?_
    rintro ee w1 ⟨rfl, hb1⟩
    go_wp2
    go_ret
    exact ⟨rfl, hb1⟩
  · go_enter Tryd.func7, Tryd.ntmps7
    go_wp2_with fail
    refine (anchor09 w HS.out).mono ?_
    rintro ee w1 ⟨rfl, hb1⟩
    have HB1 := Lib.hid hb1
    clear hb1
    go_wp2_with fail
    refine (tokens_any a n cap F w1 (HF.out.below HB1.out) Hcap.out (by omega) (HS.out.below HB1.out)).mono ?_
    intro ee w2 h1
    unfold LexPost at h1
    cases hl : lexF (bytesOf F) with
    | inl x =>
      obtain ⟨c, p⟩ := x
      rw [hl] at h1
      obtain ⟨rfl, hb2⟩ := h1
      have HB2 := Lib.hid (HB1.out.trans (hb2.mono HB1.out.size))
      have hc0 : ((c : Int) != 0) = true := by
        have := (lexF_bad hl).1
        simp; omega
      have Hl := Lib.hid hl
      clear hb2 hl
      go_wp2_with fail
      go_ret
      exact ⟨rfl, HB2.out⟩
    | inr ts =>
      rw [hl] at h1
      obtain ⟨v, rfl, hown2, hb2⟩ := h1
      have HB2 := Lib.hid (HB1.out.trans (hb2.mono HB1.out.size))
      obtain ⟨us, hus, hbare, hlen⟩ := lexF_show hl (by rw [bytesOf_len, HF.out.1]; omega)
      have hn0 := lexF_pos hl
      have hm0 := lexF_pos hus
      have hqm := own_len hown2
      obtain ⟨g, cg, rfl, hcg, hg, -, hcl⟩ := toks_at hown2 hn0
      have HT := Lib.hid (tok_at rfl hcl)
      have Hus := Lib.hid hus
      have Hbare := Lib.hid hbare
      have Hlen := Lib.hid hlen
      clear hb2 hl hown2 hcl hus hlen
      have hql : us.length = ts.length := by
        have := congrArg List.length hbare
        simpa using this
      clear hbare
      obtain ⟨q, hq⟩ : ∃ q, q = ts.length := ⟨_, rfl⟩
      have Hq := Lib.hid hq
      have Hql := Lib.hid (hql.trans hq.symm)
      rw [← hq] at hcg hn0 hqm ⊢
      clear hq hql
      go_wp2_with fail
      refine (show_any g q cg ts w2 Hq.out hg HT.out hqm hcg Hlen.out).mono ?_
      rintro ee w3 ⟨rfl, hb3⟩
      have HB3 := Lib.hid (HB2.out.trans (hb3.mono HB2.out.size))
      have HB23 := Lib.hid hb3
      clear hb3
      have cv := Lib.run_convert_string_bytes (P := Tryd.prog) w3 9 22 5 ⟨(showF ts).toArray⟩ Tryd.underlying9 Tryd.underlying22 Tryd.underlying5
      go_wp2_with fail
      clear cv
      refine (tokens_any (some ⟨w3.heap.size, 0, none⟩) (showF ts).length _ (numsOf (showF ts)) _ (byteRow_bytes w3 5 (showF ts)) (fun e => by cases e) (by have := Hlen.out; omega) (HS.out.below (HB3.out.trans (below_bytes w.heap.size w3 5 _ HB3.out.size)))).mono ?_
      intro ee w5 h5
      unfold LexPost at h5
      rw [bytesOf_nums, Hus.out] at h5
      obtain ⟨v5, rfl, hown5, hb5⟩ := h5
      have HB25 := Lib.hid ((HB23.out.trans (below_bytes w2.heap.size w3 5 ⟨(showF ts).toArray⟩ HB23.out.size)).trans (hb5.mono (by rw [Lib.bytesWorld_size]; have := HB23.out.size; omega)))
      obtain ⟨g5, c5, rfl, hc5, hg5, -, hcl5⟩ := toks_at hown5 hm0
      have HT5 := Lib.hid (tok_at rfl hcl5)
      have hqm5 := own_len hown5
      rw [Hql.out] at hm0 hc5 hqm5 ⊢
      clear hb5 hown5 hcl5
      go_wp2_with fail
      go_loopw [46] (fun i wr => ∃ k : Nat, k ≤ q ∧ i = .int .i64 k ∧ Below w5.heap.size w5 wr) (fun i _ => q - (intOf i).toNat)
      case atStart => exact ⟨0, Nat.zero_le _, rfl, Below.refl _ _⟩
      case round =>
        obtain ⟨k, hk, rfl, hB⟩ := hrel
        have HB := Lib.hid hB
        clear hB
        by_cases hlt : k < q
        · have hlt1 : k < ts.length := by rw [← Hq.out]; exact hlt
          have hlt2 : k < us.length := by rw [Hql.out]; exact hlt
          obtain ⟨a1, a2, a3, a4⟩ := ((HT.out k hlt1).below HB25.out hg).below HB.out (by have := HB25.out.size; omega)
          obtain ⟨b1, b2, b3, b4⟩ := (HT5.out k hlt2).below HB.out hg5
          have hbk : Tok.bare (us[k]'hlt2) = Tok.bare (ts[k]'hlt1) := by
            have := congrArg (fun l => l[k]?) Hbare.out
            simpa [hlt1, hlt2] using this
          generalize ts[k]'hlt1 = t at *
          generalize us[k]'hlt2 = u at *
          obtain ⟨uk, ua, ut, un⟩ := u
          simp only [Tok.bare, Prod.mk.injEq] at hbk
          obtain ⟨rfl, rfl, rfl⟩ := hbk
          simp only at b1 b2 b3 b4
          have hgl : g < wr.heap.size := by have := HB25.out.size; have := HB.out.size; omega
          have hgn : g ≠ wr.heap.size := by omega
          have hgn' : wr.heap.size ≠ g := by omega
          have wq4 : IntKind.i64.wrap ((k : Int) + 1) = (k : Int) + 1 := IntWalk.i64_in _ (by omega)
          go_wp2_with fail
          go_quiet (fail)
          go_wp2_with fail
          refine ⟨⟨k + 1, by omega, by simp, ?_⟩, by simp only [intOf]; omega⟩
          have h := HB.out.alloc HB.out.size (.cells #[.int .i64 t.kind, .int .i64 t.ad, .string ⟨t.text.toArray⟩, .int .u32 t.num] 33)
          exact ⟨h.os, h.tape, h.output, h.size, h.block⟩
        · have hke : k = q := by omega
          have HBz := Lib.hid (HB2.out.trans ((HB25.out.trans (HB.out.mono HB25.out.size)).mono HB2.out.size))
          go_wp2_with fail
          go_ret
          exact ⟨rfl, HBz.out⟩
end Go.Proofs.YtcolielkeomglaaDoor
