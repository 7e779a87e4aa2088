/- vop: reach: all registers of an operation are there. -/
import Derived.Test.YtmkencdkglbpbaaDoorVopH
import Derived.Deep.AppendLies
set_option maxRecDepth 100000
set_option linter.unusedVariables false
namespace Go.Proofs.YtmkencdkglbpbaaDoor
open Go.RowKit

theorem i_all (T : List Int) : ∀ u ∈ iCells T, u.oneCell' = true := by
  intro u hu
  simp only [iCells, List.mem_map] at hu
  obtain ⟨x, _, rfl⟩ := hu
  rfl
theorem ownsRow_below {w w' : World} {B : Nat} {e : TypeId} {size : Nat} {v : Value} {n : Nat} {xs : List Value} (h : w.ownsRow B e size v n xs) (hb : Below w.heap.size w w') : w'.ownsRow B e size v n xs := by
  obtain ⟨h1, h2⟩ := h
  refine ⟨h1, ?_⟩
  rcases h2 with h2 | ⟨g, cap, cur, hv, hg, hh, r⟩
  · exact .inl h2
  · exact .inr ⟨g, cap, cur, hv, hg, by rw [hb.block _ (lt_of_block hh)]; exact hh, r⟩
theorem run_append_rows {P : Program} (w : World) (base base2 : Nat) (t ty e : TypeId) (i : TypeInfo) (z : Value) (size bytes : Nat) (ht : P.underlying t = some (.slice e)) (hi : P.info? e = some i) (hz : i.zero = some z)
    (hsize : i.size = size) (hby : i.bytes = bytes) (hzs : z.cells.size = size) (hsz : 0 < size)
    (v : Value) (n : Nat) (xs : List Value) (hown : w.ownsRow base e size v n xs) (v2 : Value) (m : Nat) (news : List Value) (hown2 : w.ownsRow base2 e size v2 m news) (h1 : ∀ u ∈ news, u.oneCell' = true)
    (h63 : n + m ≤ maxLen) (hbytes : (n + m) * bytes ≤ 140737488355328) (hbase : base ≤ w.heap.size) :
    ∃ v' w', (Builtin.append_ #[t, t] ty #[v, v2]).run P w = .ok v' w' ∧ w'.ownsRow base e size v' (n + m) (xs ++ news) ∧ w.grownBy w' v.ownBlock := by
  rcases hown2.2 with ⟨rfl, rfl⟩ | ⟨g, cap, cur, rfl, hg, hh, hc, _⟩
  · have hn : news = [] := List.eq_nil_of_length_eq_zero (by simpa using hown2.1)
    subst hn
    refine ⟨v, w, run_append_owned_none (P := P) (w := w) base t ty e i size ht hi v n xs hown, ?_, ⟨rfl, rfl, rfl, Nat.le_refl _, fun _ _ _ => rfl⟩⟩
    rw [List.append_nil]; exact hown
  · obtain ⟨v', w', hr, h2, h3, _⟩ := run_append_own (P := P) w base t ty e i z size bytes ht hi hz hsize hby hzs hsz v n xs hown ⟨g, 0, none⟩ m cap news hown2.1 (hown2.cells (g := g) rfl) h1 h63 hbytes hbase
    exact ⟨v', w', hr, h2, h3⟩
theorem step_append_rows {P : Program} {ops : Array Oper} {o : Oper} {a : Act} {w : World} {K : Act → World → Prop} {Q : Exit → Act → World → Prop} {E : Prop} (hgd : o.guard = none) (s x : Operand) (t : TypeId)
    (ho : o.op = .call { callee := .builtin .append, args := #[s, x], argTypes := #[t, t] })
    (base base2 : Nat) (e : TypeId) (i : TypeInfo) (z : Value) (size bytes : Nat) (ht : P.underlying t = some (.slice e)) (hi : P.info? e = some i) (hz : i.zero = some z)
    (hsize : i.size = size) (hby : i.bytes = bytes) (hzs : z.cells.size = size) (hsz : 0 < size)
    (v : Value) (n : Nat) (xs : List Value) (hs : a.eval s = v) (hown : w.ownsRow base e size v n xs) (v2 : Value) (m : Nat) (news : List Value) (hx : a.eval x = v2) (hown2 : w.ownsRow base2 e size v2 m news) (h1 : ∀ u ∈ news, u.oneCell' = true)
    (h63 : n + m ≤ maxLen) (hbytes : (n + m) * bytes ≤ 140737488355328) (hbase : base ≤ w.heap.size)
    (h : ∀ v' w', w'.ownsRow base e size v' (n + m) (xs ++ news) → w.grownBy w' v.ownBlock → K (a.put o.dst v') w') :
    if Region.wanted o (yielded ops a.tmps) = true then Oper.wp P o a w K Q else E := by
  have hw : Region.wanted o (yielded ops a.tmps) = true := by simp [Region.wanted, hgd]
  rw [if_pos hw]
  obtain ⟨v', w', hr, h2, h3⟩ := run_append_rows (P := P) w base base2 t o.type e i z size bytes ht hi hz hsize hby hzs hsz v n xs hown v2 m news hown2 h1 h63 hbytes hbase
  unfold Oper.wp execOp
  simp only [ho, resolve, invoke, builtin, Sem.run_bind, Sem.run_pure, Result.andThen_ok, List.map_toArray, List.map_cons, List.map_nil, hs, hx, hr]
  exact h v' w' h2 h3
theorem own_form {w : World} {B : Nat} {v : Value} {n : Nat} {T : List Int} (h : w.ownsRow B 3 1 v n (iCells T)) (hn : n = T.length) : ∃ x c, v = .slice x n c ∧ n ≤ c ∧ (0 < n → ∃ g, x = some ⟨g, 0, none⟩ ∧ B ≤ g ∧ g < w.heap.size ∧ ∀ j (hj : j < T.length), w.cell? ⟨g, j, none⟩ = some (.int .i64 T[j])) := by
  rcases h.2 with ⟨hv, h0⟩ | ⟨g, cap, cur, rfl, hg, hh, hc, _⟩
  · subst h0
    exact ⟨none, 0, hv, Nat.le_refl _, fun h => absurd h (by omega)⟩
  · refine ⟨_, cap, rfl, hc, fun _ => ⟨g, rfl, hg, lt_of_block hh, fun j hj => ?_⟩⟩
    rw [h.cellAt j (by omega)]
    simp [iCells, hj]

set_option maxHeartbeats 2000000 in
/-- reach: whether all registers of an operation are there. -/
theorem reach_any (sb rb rc mb : Nat) (S : Int) (R : List Int) (K t0 t1 f0 f1 f2 f3 N : Int) (w : World) (hR : RegAt w sb rb rc mb S R) :
    Calls Tryd.prog 44 #[.pointer (some ⟨sb, 0, none⟩), opV K t0 t1 f0 f1 f2 f3 N] w fun e w' => e = .returned (.bool ((regsOf [f0, f1, f2, f3] ++ regsOf [t0, t1]).all fun x => decide (x < R.length))) ∧ Below w.heap.size w w' := by
  obtain ⟨i0, hi, hz0, hz1, hz2⟩ := info_parts Tryd.infoInt
  have HR := Lib.hid hR
  have hlu : (regsOf [f0, f1, f2, f3]).length ≤ 4 := by have := List.length_filter_le (fun x : Int => x != -1) [f0, f1, f2, f3]; simpa using this
  have hls : (regsOf [t0, t1]).length ≤ 2 := by have := List.length_filter_le (fun x : Int => x != -1) [t0, t1]; simpa using this
  obtain ⟨U, hU⟩ : ∃ U, U = regsOf [f0, f1, f2, f3] := ⟨_, rfl⟩
  obtain ⟨T, hT⟩ : ∃ T, T = regsOf [t0, t1] := ⟨_, rfl⟩
  rw [← hU] at hlu
  rw [← hT] at hls
  rw [← hU, ← hT]
  obtain ⟨V, hV⟩ : ∃ V, V = U ++ T := ⟨_, rfl⟩
  have hVl : V.length = U.length + T.length := by rw [hV]; simp
  rw [← hV]
  have HV := Lib.hid hV
  clear hV
  have HU := Lib.hid hU
  have HT := Lib.hid hT
  clear hR hU hT
  obtain ⟨w1, hw1⟩ : ∃ w1, w1 = w.alloc (.cells #[.int .i64 K, .int .i64 t0, .int .i64 t1, .int .i64 f0, .int .i64 f1, .int .i64 f2, .int .i64 f3, .int .u32 N] 37) := ⟨_, rfl⟩
  have hB1 : Below w.heap.size w w1 := by rw [hw1]; exact (Below.refl _ _).alloc (Nat.le_refl _) _
  have hs1 : w.heap.size < w1.heap.size := by rw [hw1]; simp
  have cells : ∀ j u, #[Value.int .i64 K, .int .i64 t0, .int .i64 t1, .int .i64 f0, .int .i64 f1, .int .i64 f2, .int .i64 f3, .int .u32 N][j]? = some u → w1.cell? ⟨w.heap.size, j, none⟩ = some u := by
    intro j u hu
    rw [hw1, World.cell?_alloc_at _ _ _ _ rfl]; exact hu
  have HB1 := Lib.hid hB1
  have HC := Lib.hid cells
  have k0 : w1.cell? ⟨w.heap.size, 0, none⟩ = some (.int .i64 K) := cells 0 _ rfl
  have k1 : w1.cell? ⟨w.heap.size, 1, none⟩ = some (.int .i64 t0) := cells 1 _ rfl
  have k2 : w1.cell? ⟨w.heap.size, 2, none⟩ = some (.int .i64 t1) := cells 2 _ rfl
  have k3 : w1.cell? ⟨w.heap.size, 3, none⟩ = some (.int .i64 f0) := cells 3 _ rfl
  have k4 : w1.cell? ⟨w.heap.size, 4, none⟩ = some (.int .i64 f1) := cells 4 _ rfl
  have k5 : w1.cell? ⟨w.heap.size, 5, none⟩ = some (.int .i64 f2) := cells 5 _ rfl
  have k6 : w1.cell? ⟨w.heap.size, 6, none⟩ = some (.int .i64 f3) := cells 6 _ rfl
  have k7 : w1.cell? ⟨w.heap.size, 7, none⟩ = some (.int .u32 N) := cells 7 _ rfl
  have Kp : Hid (∀ w', Below w1.heap.size w1 w' → w'.cell? ⟨w.heap.size, 0, none⟩ = some (.int .i64 K) ∧ w'.cell? ⟨w.heap.size, 1, none⟩ = some (.int .i64 t0) ∧ w'.cell? ⟨w.heap.size, 2, none⟩ = some (.int .i64 t1) ∧ w'.cell? ⟨w.heap.size, 3, none⟩ = some (.int .i64 f0) ∧ w'.cell? ⟨w.heap.size, 4, none⟩ = some (.int .i64 f1) ∧ w'.cell? ⟨w.heap.size, 5, none⟩ = some (.int .i64 f2) ∧ w'.cell? ⟨w.heap.size, 6, none⟩ = some (.int .i64 f3) ∧ w'.cell? ⟨w.heap.size, 7, none⟩ = some (.int .u32 N)) := fun w' h =>
    ⟨(h.cell (p := ⟨w.heap.size, 0, none⟩) hs1).trans k0, (h.cell (p := ⟨w.heap.size, 1, none⟩) hs1).trans k1, (h.cell (p := ⟨w.heap.size, 2, none⟩) hs1).trans k2, (h.cell (p := ⟨w.heap.size, 3, none⟩) hs1).trans k3, (h.cell (p := ⟨w.heap.size, 4, none⟩) hs1).trans k4, (h.cell (p := ⟨w.heap.size, 5, none⟩) hs1).trans k5, (h.cell (p := ⟨w.heap.size, 6, none⟩) hs1).trans k6, (h.cell (p := ⟨w.heap.size, 7, none⟩) hs1).trans k7⟩
  clear cells
  go_enter Tryd.func44, Tryd.ntmps44
  go_wp2_with fail
  rw [← hw1]
  clear hw1
  have hD : Below w1.heap.size w1 w1.drew := (Below.refl _ w1).drew
  go_region_held3 (fun w' => w'.cell? ⟨w.heap.size, 0, none⟩ = some (.int .i64 K) ∧ w'.cell? ⟨w.heap.size, 1, none⟩ = some (.int .i64 t0) ∧ w'.cell? ⟨w.heap.size, 2, none⟩ = some (.int .i64 t1) ∧ w'.cell? ⟨w.heap.size, 3, none⟩ = some (.int .i64 f0) ∧ w'.cell? ⟨w.heap.size, 4, none⟩ = some (.int .i64 f1) ∧ w'.cell? ⟨w.heap.size, 5, none⟩ = some (.int .i64 f2) ∧ w'.cell? ⟨w.heap.size, 6, none⟩ = some (.int .i64 f3) ∧ w'.cell? ⟨w.heap.size, 7, none⟩ = some (.int .u32 N))
    (first
      | go_keep
      | exact Kp.out _ hb5
      | exact Kp.out _ hbs2
      | exact Kp.out _ (hD.trans hbu))
    (first
      | (go_at_call 15; refine (uses_any K t0 t1 f0 f1 f2 f3 N _).mono ?_; rintro e wu ⟨vu, rfl, hou, hbu⟩; rw [← HU.out] at hou)
      | (go_at_call 16; refine (sets_any K t0 t1 f0 f1 f2 f3 N _).mono ?_; rintro e ws ⟨vs, rfl, hos, hbs⟩; rw [← HT.out] at hos; have hbs2 := (hD.trans hbu).trans (hbs.mono (hD.trans hbu).size); have hou2 := ownsRow_below hou hbs)
      | (refine step_append_rows (by rfl) _ _ _ (by rfl) w1.drew.heap.size wu.heap.size 3 i0 (.int .i64 0) 1 8 Tryd.underlying41 hi hz0 hz1 hz2 rfl (by omega) vu U.length (iCells U) (by rfl) hou2 vs T.length (iCells T) (by rfl) hos (i_all T) (by unfold maxLen; omega) (by omega) hbs2.size ?_; intro va w5 hown5 hgrow5; have hb5 := hbs2.grown hgrow5 hbs2.size (fun k e => (hou2.lt k e).1); rw [show iCells U ++ iCells T = iCells V from by rw [HV.out]; simp [iCells]] at hown5; obtain ⟨sx, sc, rfl, hsc, hform⟩ := own_form hown5 hVl.symm))
  have hbb := HB1.out.trans (hb5.mono HB1.out.size)
  have HBB := Lib.hid hbb
  have HR5 := Lib.hid (HR.out.below hbb)
  obtain ⟨s0, s1, s2⟩ := HR5.out.cells
  have hsm := HR5.out.small
  rw [show ((U.length : Int) + (T.length : Int)) = ((U.length + T.length : Nat) : Int) from by omega]
  rw [← hVl] at hform hsc ⊢
  have HF := Lib.hid hform
  have hV6 : V.length ≤ 6 := by omega
  clear hown5 hgrow5 hbb hb5 HV hVl hform hls hlu hos hou hou2 hbs2 hbu hbs hD HU HT
  go_wp2_with fail
  go_loopw [13] (fun i wr => ∃ k : Nat, k ≤ V.length ∧ i = .int .i64 k ∧ wr = w5 ∧ ∀ x ∈ V.take k, x < (R.length : Int)) (fun i _ => V.length - (intOf i).toNat)
  case atStart => exact ⟨0, Nat.zero_le _, rfl, rfl, by simp⟩
  case round =>
    obtain ⟨k, hk, rfl, rfl, hall⟩ := hrel
    have HA := Lib.hid hall
    clear hall
    by_cases hlt : k < V.length
    · obtain ⟨g, rfl, hg, hg2, hc⟩ := HF.out (by omega)
      have c0 := hc k hlt
      have hst : V.take (k + 1) = V.take k ++ [V[k]] := List.take_succ_eq_append_getElem hlt
      obtain ⟨X, hX⟩ : ∃ X, V[k]'hlt = X := ⟨_, rfl⟩
      have hmem : X ∈ V := hX ▸ List.getElem_mem hlt
      rw [hX] at c0 hst
      have Hst := Lib.hid hst
      have wq : IntKind.i64.wrap ((k : Int) + 1) = (k : Int) + 1 := IntWalk.i64_in _ (by omega)
      clear hst hX hc
      by_cases hx : X < (R.length : Int)
      · have hb : decide (X ≥ (R.length : Int)) = false := by simpa using hx
        have Hx := Lib.hid hx
        clear hx
        go_wp2_with fail
        refine ⟨⟨k + 1, by omega, by simp, trivial, ?_⟩, by simp only [intOf]; omega⟩
        rw [Hst.out]
        intro x hx
        rcases List.mem_append.1 hx with hx | hx
        · exact HA.out x hx
        · rw [List.mem_singleton.1 hx]; exact Hx.out
      · have hb : decide (X ≥ (R.length : Int)) = true := by simp; omega
        have Hx := Lib.hid hx
        clear hx
        go_wp2_with fail
        go_ret
        refine ⟨?_, HBB.out⟩
        rw [List.all_eq_false.2 ⟨X, hmem, by simpa using Hx.out⟩]; rfl
    · have hkq : k = V.length := by omega
      have htk : V.take k = V := by rw [hkq, List.take_length]
      have ha := HA.out
      rw [htk] at ha
      have HAA := Lib.hid ha
      clear ha htk
      go_wp2_with fail
      go_ret
      refine ⟨?_, HBB.out⟩
      rw [List.all_eq_true.2 fun x hx => by simpa using HAA.out x hx]; rfl
end Go.Proofs.YtmkencdkglbpbaaDoor
