/- vop: small functions by contracts. -/
import Derived.Test.YtmkencdkglbpbaaMemE
set_option maxRecDepth 100000
set_option linter.unusedVariables false
namespace Go.Proofs.Ytmkencdkglbpbaa
open Go.RowKit

theorem Try.infoInt : (Try.prog.info? 3).map (fun i => (i.zero, i.size, i.bytes)) = some (some (.int .i64 0), 1, 8) := by kernel_rfl

/-- Numbers in memory. -/
def IRow (w : World) (b o : Nat) (F : List Int) : Prop :=
  b < w.heap.size ∧ ∀ i (hi : i < F.length), w.cell? ⟨b, o + i, none⟩ = some (.int .i64 F[i])
theorem IRow.below {w w' : World} {b o : Nat} {F : List Int} (h : IRow w b o F) (hb : Below w.heap.size w w') : IRow w' b o F :=
  ⟨Nat.lt_of_lt_of_le h.1 hb.size, fun i hi => (hb.cell (p := ⟨b, o + i, none⟩) h.1).trans (h.2 i hi)⟩

def iCells (F : List Int) : List Value := F.map (Value.int .i64)
theorem i_one (x : Int) : ∀ u ∈ ([.int .i64 x] : List Value), u.oneCell' = true := by
  intro u hu
  simp at hu
  subst hu; rfl
theorem i_new (W : World) (b : Nat) (x : Int) (hb : b = W.heap.size) : ∀ (j : Nat) (u : Value), ([.int .i64 x] : List Value)[j]? = some u →
    (W.alloc (.cells #[.int .i64 x] 3)).cell? ((⟨b, 0, none⟩ : Addr).add j) = some u := by
  subst hb
  intro j u hj
  match j, hj with
  | 0, hj => simp at hj; subst hj; simp [Addr.add]

set_option maxHeartbeats 1000000 in
/-- named: those that aren't -1. -/
theorem named_any (b o n cap : Nat) (F : List Int) (w : World) (hF : IRow w b o F) (hn : F.length = n) (hn2 : n ≤ 1000) :
    Calls Try.prog 41 #[.slice (some ⟨b, o, none⟩) n cap] w fun e w' => ∃ v, e = .returned v ∧ w'.ownsRow w.heap.size 3 1 v (F.filter (fun x => x != -1)).length (iCells (F.filter (fun x => x != -1))) ∧ Below w.heap.size w w' := by
  obtain ⟨i0, hi, hz0, hz1, hz2⟩ := info_parts Try.infoInt
  have HF := Lib.hid hF
  have Hn := Lib.hid hn
  clear hF hn
  go_enter Try.func41, Try.ntmps41
  go_wp2_with fail
  go_loopw [3, 8] (fun l i wr => ∃ k : Nat, k ≤ n ∧ i = .int .i64 k ∧ wr.ownsRow w.heap.size 3 1 l ((F.take k).filter (fun x => x != -1)).length (iCells ((F.take k).filter (fun x => x != -1))) ∧ Below w.heap.size w wr) (fun _ i _ => n - (intOf i).toNat)
  case atStart => exact ⟨0, Nat.zero_le _, rfl, World.ownsRow_nil _ _ _ _, Below.refl _ _⟩
  case round =>
    obtain ⟨k, hk, rfl, hown, hB⟩ := hrel
    have HB := Lib.hid hB
    have Hown := Lib.hid hown
    have hfl := List.length_filter_le (fun x : Int => x != -1) (F.take k)
    have htl : (F.take k).length = k := by rw [List.length_take]; have := Hn.out; omega
    have hsz := HB.out.size
    clear hown hB
    by_cases hlt : k < n
    · have hlt' : k < F.length := by rw [Hn.out]; exact hlt
      have c0 := (HB.out.cell (p := ⟨b, o + k, none⟩) HF.out.1).trans (HF.out.2 k hlt')
      have hst : (F.take (k + 1)).filter (fun x => x != -1) = (F.take k).filter (fun x => x != -1) ++ (if F[k] != -1 then [F[k]] else []) := by
        rw [List.take_succ_eq_append_getElem hlt', List.filter_append]
        simp [List.filter_cons]
      obtain ⟨X, hX⟩ : ∃ X, F[k]'hlt' = X := ⟨_, rfl⟩
      rw [hX] at c0 hst
      have Hst := Lib.hid hst
      have wq : IntKind.i64.wrap ((k : Int) + 1) = (k : Int) + 1 := IntWalk.i64_in _ (by omega)
      clear hst hX
      by_cases hx : X = -1
      · have hb : (X != -1) = false := by simpa using hx
        have HBq := Lib.hid hb
        clear hx
        go_wp2_with fail
        refine ⟨⟨k + 1, by omega, by simp, ?_, HB.out⟩, by simp only [intOf]; omega⟩
        rw [Hst.out, if_neg (by rw [HBq.out]; simp), List.append_nil]
        exact Hown.out
      · have hb : (X != -1) = true := by simpa using hx
        have HBq := Lib.hid hb
        clear hx
        go_wp2_with (at_builtin; refine wpList_append_own _ rfl (.tmp 14) (.tmp 16) 42 rfl w.heap.size 3 i0 (.int .i64 0) 1 8 Try.underlying42 hi hz0 hz1 hz2 rfl (by decide) _ _ _ rfl (Hown.out.alloc _) ⟨wr.heap.size, 0, none⟩ 1 1 [.int .i64 X] rfl rfl ?c1 ?c2 ?c3 ?c4 ?c5 ?_)
        case c1 => exact i_new _ _ X rfl
        case c2 => exact i_one _
        case c3 => unfold maxLen; omega
        case c4 => omega
        case c5 => simp; omega
        intro v' w3 hown3 hgrow3 _
        have hne := (Hown.out.alloc (.cells #[.int .i64 X] 3)).lt
        have HB3 := Lib.hid ((HB.out.alloc HB.out.size (.cells #[.int .i64 X] 3)).grown hgrow3 (by simp; omega) (fun b e => (hne b e).1))
        have Hown3 := Lib.hid hown3
        clear hown3 hgrow3 hne
        go_wp2_with fail
        refine ⟨⟨k + 1, by omega, by simp, ?_, HB3.out⟩, by simp only [intOf]; omega⟩
        rw [Hst.out, if_pos HBq.out, iCells, List.map_append, List.length_append]
        exact Hown3.out
    · have hkq : k = n := by omega
      have htk : F.take k = F := by rw [hkq, ← Hn.out, List.take_length]
      have hown4 := Hown.out
      rw [htk] at hown4
      have Hown4 := Lib.hid hown4
      clear hown4 htk htl hfl
      go_wp2_with fail
      go_ret
      exact ⟨_, rfl, Hown4.out, HB.out⟩

/-- An operation's value. -/
abbrev opV (K t0 t1 f0 f1 f2 f3 N : Int) : Value := .agg #[.int .i64 K, .int .i64 t0, .int .i64 t1, .int .i64 f0, .int .i64 f1, .int .i64 f2, .int .i64 f3, .int .u32 N]

theorem op_rows (w : World) (K t0 t1 f0 f1 f2 f3 N : Int) (t : TypeId) :
    IRow (w.alloc (.cells #[.int .i64 K, .int .i64 t0, .int .i64 t1, .int .i64 f0, .int .i64 f1, .int .i64 f2, .int .i64 f3, .int .u32 N] t)) w.heap.size 1 [t0, t1] ∧
    IRow (w.alloc (.cells #[.int .i64 K, .int .i64 t0, .int .i64 t1, .int .i64 f0, .int .i64 f1, .int .i64 f2, .int .i64 f3, .int .u32 N] t)) w.heap.size 3 [f0, f1, f2, f3] := by
  refine ⟨⟨by simp, fun i hi => ?_⟩, by simp, fun i hi => ?_⟩
  · rw [World.cell?_alloc_at _ _ _ _ rfl]
    match i, hi with
    | 0, _ => rfl
    | 1, _ => rfl
  · rw [World.cell?_alloc_at _ _ _ _ rfl]
    match i, hi with
    | 0, _ => rfl
    | 1, _ => rfl
    | 2, _ => rfl
    | 3, _ => rfl

/-- Those of some numbers that aren't -1. -/
abbrev regsOf (F : List Int) : List Int := F.filter (fun x => x != -1)

theorem uses_any (K t0 t1 f0 f1 f2 f3 N : Int) (w : World) :
    Calls Try.prog 34 #[opV K t0 t1 f0 f1 f2 f3 N] w fun e w' => ∃ v, e = .returned v ∧ w'.ownsRow w.heap.size 3 1 v (regsOf [f0, f1, f2, f3]).length (iCells (regsOf [f0, f1, f2, f3])) ∧ Below w.heap.size w w' := by
  have hr := Lib.hid (op_rows w K t0 t1 f0 f1 f2 f3 N 40).2
  go_enter Try.func34, Try.ntmps34
  go_wp2_with fail
  refine (named_any w.heap.size 3 4 4 [f0, f1, f2, f3] _ hr.out rfl (by omega)).mono ?_
  rintro e w' ⟨v, rfl, hown, hb⟩
  go_wp2
  go_ret
  exact ⟨v, rfl, ownsRow_base hown (by simp), ((Below.refl _ w).alloc (Nat.le_refl _) _).trans (hb.mono (by simp))⟩
theorem sets_any (K t0 t1 f0 f1 f2 f3 N : Int) (w : World) :
    Calls Try.prog 35 #[opV K t0 t1 f0 f1 f2 f3 N] w fun e w' => ∃ v, e = .returned v ∧ w'.ownsRow w.heap.size 3 1 v (regsOf [t0, t1]).length (iCells (regsOf [t0, t1])) ∧ Below w.heap.size w w' := by
  have hr := Lib.hid (op_rows w K t0 t1 f0 f1 f2 f3 N 40).1
  go_enter Try.func35, Try.ntmps35
  go_wp2_with fail
  refine (named_any w.heap.size 1 2 2 [t0, t1] _ hr.out rfl (by omega)).mono ?_
  rintro e w' ⟨v, rfl, hown, hb⟩
  go_wp2
  go_ret
  exact ⟨v, rfl, ownsRow_base hown (by simp), ((Below.refl _ w).alloc (Nat.le_refl _) _).trans (hb.mono (by simp))⟩
end Go.Proofs.Ytmkencdkglbpbaa
