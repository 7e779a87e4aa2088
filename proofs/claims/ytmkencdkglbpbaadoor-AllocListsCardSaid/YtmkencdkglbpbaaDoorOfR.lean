/- The document's operations; where a register is read next, as the document has it. -/
import Derived.Test.YtmkencdkglbpbaaDoorAlQ
import Derived.Test.YtmkencdkglbpbaaDoorAlU
set_option maxRecDepth 100000
set_option linter.unusedVariables false
namespace Go.Proofs.YtmkencdkglbpbaaDoor
open Go.RowKit Go.Maps

theorem Tryd.infoO : (Tryd.prog.info? 38).map (fun i => (i.zero, i.size, i.bytes)) = some (some (opV 0 0 0 0 0 0 0 0), 8, 64) := by kernel_rfl
set_option maxHeartbeats 2000000 in
theorem of_any (x : Option Addr) (n c : Nat) (L : List Op8) (w : World) (hL : OpsSl w x L) (hn : L.length = n) (hn2 : n ≤ 1000) :
    Calls Tryd.prog 14 #[.slice x n c] w fun e w' => ∃ v, e = .returned v ∧ w'.ownsRow w.heap.size 38 8 v n (outC L) ∧ Below w.heap.size w w' := by
  obtain ⟨i0, hi, hz0, hz1, hz2⟩ := info_parts Tryd.infoO
  have HL := Lib.hid hL
  have HN := Lib.hid hn
  clear hL hn
  go_enter Tryd.func14, Tryd.ntmps14
  go_wp2_with fail
  go_loopw [3, 8] (fun l i wr => ∃ k : Nat, k ≤ n ∧ i = .int .i64 k ∧ wr.ownsRow w.heap.size 38 8 l k (outC (L.take k)) ∧ Below w.heap.size w wr) (fun _ i _ => n - (intOf i).toNat)
  case atStart => exact ⟨0, Nat.zero_le _, rfl, World.ownsRow_nil _ _ _ _, Below.refl _ _⟩
  case round =>
    obtain ⟨k, hk, rfl, hown, hB⟩ := hrel
    have HB := Lib.hid hB
    have Hown := Lib.hid hown
    have hsz := hB.size
    have hLr := HL.out.below hB
    clear hown hB
    by_cases hlt : k < n
    · have hlt' : k < L.length := by rw [HN.out]; exact hlt
      obtain ⟨b, o, rfl, hb, hc⟩ := hLr.resolve_left (by omega)
      obtain ⟨c0, c1, c2, c3, c4, c5, c6, c7⟩ := hc k hlt'
      have hst : L.take (k + 1) = L.take k ++ [L[k]] := List.take_succ_eq_append_getElem hlt'
      generalize L[k]'hlt' = p at c0 c1 c2 c3 c4 c5 c6 c7 hst
      have Hst := Lib.hid hst
      have wq : IntKind.i64.wrap ((k : Int) + 1) = (k : Int) + 1 := IntWalk.i64_in _ (by omega)
      have hbA := (Below.refl _ wr).alloc (Nat.le_refl _) (.cells #[.int .i64 p.K, .int .i64 p.t0, .int .i64 p.t1, .int .i64 p.f0, .int .i64 p.f1, .int .i64 p.f2, .int .i64 p.f3, .int .u32 p.N] 37)
      have hOA := opAt_new wr p.K p.t0 p.t1 p.f0 p.f1 p.f2 p.f3 p.N
      have dlt : b ≠ wr.heap.size := by omega
      obtain ⟨d0, d1, d2, d3, d4, d5, d6, d7⟩ := hOA.cells
      have hownA := (Hown.out.alloc (.cells #[.int .i64 p.K, .int .i64 p.t0, .int .i64 p.t1, .int .i64 p.f0, .int .i64 p.f1, .int .i64 p.f2, .int .i64 p.f3, .int .u32 p.N] 37)).alloc (.cells (opCellsA p).toArray 38)
      have HownA := Lib.hid hownA
      have HbA := Lib.hid ((HB.out.trans (hbA.mono hsz)).alloc (Nat.le_trans hsz hbA.size) (.cells (opCellsA p).toArray 38))
      have hszA : w.heap.size ≤ (wr.alloc (.cells #[.int .i64 p.K, .int .i64 p.t0, .int .i64 p.t1, .int .i64 p.f0, .int .i64 p.f1, .int .i64 p.f2, .int .i64 p.f3, .int .u32 p.N] 37)).heap.size := Nat.le_trans hsz hbA.size
      clear hc hst hLr hbA hOA hownA
      go_wp2_with (at_builtin; refine wpList_append_own _ rfl (.tmp 12) (.tmp 14) 29 rfl w.heap.size 38 i0 (opV 0 0 0 0 0 0 0 0) 8 64 Tryd.underlying29 hi hz0 hz1 hz2 rfl (by decide) _ _ _ rfl HownA.out ⟨wr.heap.size + 1, 0, none⟩ 1 1 (opCellsA p) rfl rfl ?c1 ?c2 ?c3 ?c4 ?c5 ?_)
      case c1 => exact opA_new _ _ p _ (by simp)
      case c2 => exact opA_all p
      case c3 => unfold maxLen; omega
      case c4 => omega
      case c5 => simp; omega
      intro v' w3 hown3 hgrow3 _
      have hne := HownA.out.lt
      have HB3 := Lib.hid (HbA.out.grown hgrow3 HbA.out.size (fun b e => (hne b e).1))
      have Hown3 := Lib.hid hown3
      clear hown3 hgrow3 hne
      go_wp2_with fail
      refine ⟨⟨k + 1, by omega, by simp, ?_, HB3.out⟩, by simp only [intOf]; omega⟩
      rw [Hst.out, outC_append]
      exact Hown3.out
    · have hkn : k = n := by omega
      have hown4 := Hown.out
      rw [hkn, ← HN.out, List.take_length] at hown4
      have Hown4 := Lib.hid hown4
      clear hown4 hkn
      go_wp2_with fail
      go_ret
      refine ⟨_, rfl, ?_, HB.out⟩
      have := Hown4.out
      rw [HN.out] at this
      exact this

theorem nextF_skip {n p : Int} {v : Int} : ∀ (l : List Op8) (k i : Nat), (k : Int) + i = p → i ≤ l.length → nextF n p (lastF l k v) = nextF n p (lastF (l.drop i) (k + i) v)
  | l, k, 0, h, _ => rfl
  | o :: l, k, i + 1, h, hi => by
    rw [List.drop_succ_cons, lastF]
    have hsk : ∀ (A B : List Int), (∀ x ∈ A, x < p) → nextF n p (A ++ B) = nextF n p B := fun A => by
      induction A with
      | nil => intro B _; rfl
      | cons a A ih =>
        intro B hA
        rw [List.cons_append, nextF, if_neg (by have := hA a (by simp); omega)]
        exact ih B (fun x hx => hA x (by simp [hx]))
    rw [hsk _ _ (fun x hx => by obtain ⟨_, _, rfl⟩ := List.mem_map.1 hx; push_cast at h ⊢; omega)]
    have := nextF_skip (n := n) (p := p) (v := v) l (k + 1) i (by push_cast at h ⊢; omega) (by simpa using hi)
    rw [this]
    congr 2
    omega
theorem nextF_at (L : List Op8) (v : Int) (k : Nat) (hk : k < L.length) : nextF L.length k (lastF L 0 v) = if v ∈ regsOf [L[k].f0, L[k].f1, L[k].f2, L[k].f3] then (k : Int) else nextF L.length ((k + 1 : Nat) : Int) (lastF L 0 v) := by
  have h1 := nextF_skip (n := L.length) (p := (k : Int)) (v := v) L 0 k (by simp) (by omega)
  have h2 := nextF_skip (n := L.length) (p := ((k + 1 : Nat) : Int)) (v := v) L 0 (k + 1) (by simp) (by omega)
  rw [h1, h2, List.drop_eq_getElem_cons hk, Nat.zero_add, Nat.zero_add]
  have hhi : ∀ x ∈ lastF (L.drop (k + 1)) (k + 1) v, ((k + 1 : Nat) : Int) ≤ x := fun x hx => (lastF_lt _ _ _ _ hx).1
  have hsame : ∀ (A : List Int), (∀ x ∈ A, ((k + 1 : Nat) : Int) ≤ x) → nextF L.length (k : Int) A = nextF L.length ((k + 1 : Nat) : Int) A := fun A => by
    intro hA
    cases A with
    | nil => rfl
    | cons a A =>
      have := hA a (by simp)
      rw [nextF, nextF, if_pos (by push_cast at this; omega), if_pos this]
  rw [lastF]
  by_cases hm : v ∈ regsOf [L[k].f0, L[k].f1, L[k].f2, L[k].f3]
  · rw [if_pos hm]
    obtain ⟨y, hy⟩ : ∃ y, y ∈ (regsOf [L[k].f0, L[k].f1, L[k].f2, L[k].f3]).filter (fun x => x == v) := ⟨v, List.mem_filter.2 ⟨hm, by simp⟩⟩
    cases hf : (regsOf [L[k].f0, L[k].f1, L[k].f2, L[k].f3]).filter (fun x => x == v) with
    | nil => rw [hf] at hy; simp at hy
    | cons z zs => rw [List.map_cons, List.cons_append, nextF, if_pos (by omega)]
  · rw [if_neg hm]
    have hf : (regsOf [L[k].f0, L[k].f1, L[k].f2, L[k].f3]).filter (fun x => x == v) = [] := by
      rw [List.filter_eq_nil_iff]
      intro y hy hyv
      have : y = v := by simpa using hyv
      exact hm (this ▸ hy)
    rw [hf, List.map_nil, List.nil_append]
    exact hsame _ hhi
theorem nextF_end (L : List Op8) (v : Int) : nextF L.length L.length (lastF L 0 v) = L.length := by
  rcases nextF_bd L.length L.length (lastF L 0 v) with h | h
  · exact h
  · have := lastF_lt L 0 v _ h
    have h2 : ¬ (nextF L.length L.length (lastF L 0 v) < L.length) := by
      rw [nextF_lt (fun i hi => by have := lastF_lt L 0 v i hi; omega)]
      rintro ⟨i, hi, h3⟩
      have := lastF_lt L 0 v i hi
      omega
    omega
theorem mem_regs4 {a b c d v : Int} (hv : v ≠ -1) : v ∈ regsOf [a, b, c, d] ↔ a = v ∨ b = v ∨ c = v ∨ d = v := by
  unfold regsOf
  rw [List.mem_filter]
  simp
  constructor
  · rintro ⟨h, _⟩
    rcases h with h | h | h | h <;> simp [h]
  · rintro (h | h | h | h) <;> (subst h; simp [hv])

set_option maxHeartbeats 2000000 in
theorem nextR_any (x : Option Addr) (n c : Nat) (L : List Op8) (a1 a2 g0 g1 g2 g3 g4 g5 g6 g7 m e0 : Int) (xs xo : Option Addr) (ns cs no co : Nat) (v : Int) (at0 : Nat) (w : World) (hL : OpsSl w x L) (hn : L.length = n) (hn2 : n ≤ 1000) (hv : v ≠ -1) (hat : at0 ≤ n) :
    Calls Tryd.prog 43 #[.agg #[.slice x n c, .int .i64 a1, .int .i64 a2, .int .i64 g0, .int .i64 g1, .int .i64 g2, .int .i64 g3, .int .i64 g4, .int .i64 g5, .int .i64 g6, .int .i64 g7, .slice xs ns cs, .slice xo no co, .int .i64 m, .int .i64 e0], .int .i64 v, .int .i64 at0] w fun e w' => e = .returned (.int .i64 (nextF n at0 (lastF L 0 v))) ∧ Below w.heap.size w w' := by
  obtain ⟨V, hV⟩ : ∃ V, V = nextF n at0 (lastF L 0 v) := ⟨_, rfl⟩
  rw [← hV]
  have HV := Lib.hid hV
  have HL := Lib.hid hL
  have HN := Lib.hid hn
  clear hL hn hV
  go_enter Tryd.func43, Tryd.ntmps43
  go_wp2_with fail
  have hbA := (Below.refl _ w).alloc (Nat.le_refl _) (.cells #[.slice x n c, .int .i64 a1, .int .i64 a2, .int .i64 g0, .int .i64 g1, .int .i64 g2, .int .i64 g3, .int .i64 g4, .int .i64 g5, .int .i64 g6, .int .i64 g7, .slice xs ns cs, .slice xo no co, .int .i64 m, .int .i64 e0] 86)
  have z0 : (w.alloc (.cells #[.slice x n c, .int .i64 a1, .int .i64 a2, .int .i64 g0, .int .i64 g1, .int .i64 g2, .int .i64 g3, .int .i64 g4, .int .i64 g5, .int .i64 g6, .int .i64 g7, .slice xs ns cs, .slice xo no co, .int .i64 m, .int .i64 e0] 86)).cell? ⟨w.heap.size, 0, none⟩ = some (.slice x n c) := by rw [World.cell?_alloc_at _ _ _ _ rfl]; rfl
  have zl : w.heap.size < (w.alloc (.cells #[.slice x n c, .int .i64 a1, .int .i64 a2, .int .i64 g0, .int .i64 g1, .int .i64 g2, .int .i64 g3, .int .i64 g4, .int .i64 g5, .int .i64 g6, .int .i64 g7, .slice xs ns cs, .slice xo no co, .int .i64 m, .int .i64 e0] 86)).heap.size := by simp
  generalize w.alloc _ = w1 at hbA z0 zl ⊢
  have HLB := Lib.hid (HL.out.below hbA)
  have HB := Lib.hid hbA
  clear hbA HL
  go_loopw [7] (fun i wr => ∃ k : Nat, k ≤ n ∧ i = .int .i64 k ∧ w1 = wr ∧ nextF n k (lastF L 0 v) = V) (fun i _ => n - (intOf i).toNat)
  case atStart => exact ⟨at0, hat, rfl, rfl, HV.out.symm⟩
  case round =>
    obtain ⟨k, hk, rfl, rfl, hnx⟩ := hrel
    by_cases hlt : k < n
    · have hlt' : k < L.length := by rw [HN.out]; exact hlt
      obtain ⟨b, o, rfl, hb, hc⟩ := HLB.out.resolve_left (by omega)
      obtain ⟨c0, c1, c2, c3, c4, c5, c6, c7⟩ := hc k hlt'
      have hat2 := nextF_at L v k hlt'
      rw [HN.out, hnx] at hat2
      generalize L[k]'hlt' = p at c0 c1 c2 c3 c4 c5 c6 c7 hat2
      simp only [mem_regs4 hv] at hat2
      have Hat := Lib.hid hat2
      have wq : IntKind.i64.wrap ((k : Int) + 1) = (k : Int) + 1 := IntWalk.i64_in _ (by omega)
      have hcell : ∀ j (hj : j < [p.f0, p.f1, p.f2, p.f3].length), w1.cell? ⟨b, o + k * 8 + 3 + j, none⟩ = some (.int .i64 [p.f0, p.f1, p.f2, p.f3][j]) := fun j hj => by
        match j, hj with
        | 0, _ => exact c3
        | 1, _ => exact c4
        | 2, _ => exact c5
        | 3, _ => exact c6
      have Hcell := Lib.hid hcell
      clear hc hat2 hnx c0 c1 c2 c3 c4 c5 c6 c7 hcell
      go_wp2_with fail
      go_loopw [8] (fun i wz => ∃ j : Nat, j ≤ 4 ∧ i = .int .i64 j ∧ w1 = wz ∧ ∀ y ∈ [p.f0, p.f1, p.f2, p.f3].take j, y ≠ v) (fun i _ => 4 - (intOf i).toNat)
      case atStart => exact ⟨0, by omega, rfl, rfl, by simp⟩
      case round =>
        obtain ⟨j, hj, rfl, rfl, hno⟩ := hrel
        have Hno := Lib.hid hno
        clear hno
        by_cases hlt2 : j < 4
        · have hlt3 : j < [p.f0, p.f1, p.f2, p.f3].length := by simpa using hlt2
          have hcc := Hcell.out j hlt3
          have hst : [p.f0, p.f1, p.f2, p.f3].take (j + 1) = [p.f0, p.f1, p.f2, p.f3].take j ++ [[p.f0, p.f1, p.f2, p.f3][j]] := List.take_succ_eq_append_getElem hlt3
          have hmem := List.getElem_mem hlt3
          generalize [p.f0, p.f1, p.f2, p.f3][j]'hlt3 = X at hcc hst hmem
          have Hst := Lib.hid hst
          have Hmem := Lib.hid hmem
          have wj : IntKind.i64.wrap ((j : Int) + 1) = (j : Int) + 1 := IntWalk.i64_in _ (by omega)
          clear hst hmem
          cases eX : (X == v)
          · have hne : X ≠ v := by simpa using eX
            have Hne := Lib.hid hne
            clear hne
            go_wp2_with fail
            refine ⟨⟨j + 1, by omega, by simp, trivial, ?_⟩, by simp only [intOf]; omega⟩
            intro y hy
            rw [Hst.out] at hy
            rcases List.mem_append.1 hy with hy | hy
            · exact Hno.out y hy
            · simp only [List.mem_singleton] at hy
              subst hy; exact Hne.out
          · have heq : X = v := by simpa using eX
            have hVk : V = k := by
              have h1 := Hat.out
              have h2 := Hmem.out
              rw [heq] at h2
              simp at h2
              rw [if_pos (by omega)] at h1
              exact h1
            have HVk := Lib.hid hVk
            clear heq hVk
            go_wp2_with fail
            go_ret
            exact ⟨by rw [HVk.out]; rfl, HB.out⟩
        · have hj4 : j = 4 := by omega
          have hVn : nextF n ((k + 1 : Nat) : Int) (lastF L 0 v) = V := by
            have h1 := Hat.out
            have h2 := Hno.out
            rw [hj4] at h2
            simp at h2
            rw [if_neg (by rintro (h | h | h | h) <;> simp [h] at h2)] at h1
            exact h1.symm
          have HVn := Lib.hid hVn
          clear hVn hj4
          go_wp2_with fail
          exact ⟨⟨k + 1, by omega, by simp, trivial, HVn.out⟩, by simp only [intOf]; omega⟩
    · have hkn : k = n := by omega
      have hVn : V = n := by
        have := nextF_end L v
        rw [HN.out] at this
        rw [← hnx, hkn]; exact this
      have HVn := Lib.hid hVn
      clear hVn hnx hkn
      go_wp2_with fail
      go_ret
      exact ⟨by rw [HVn.out]; rfl, HB.out⟩
end Go.Proofs.YtmkencdkglbpbaaDoor
