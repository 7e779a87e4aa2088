/- alloc: Pressure. -/
import Derived.Test.YtmkencdkglbpbaaDoorAlPr
import Derived.Test.YtmkencdkglbpbaaDoorAlU
set_option maxRecDepth 100000
set_option linter.unusedVariables false
namespace Go.Proofs.YtmkencdkglbpbaaDoor
open Go.RowKit Go.Maps

theorem wpList_append_rows {P : Program} (w : World) {ops : Array Oper} {rest : List Oper} {o : Oper} {a : Act} {Q : Exit → Act → World → Prop} (hg : o.guard = none) (s x : Operand) (t : TypeId)
    (hop : o.op = Op.call { callee := Callee.builtin Builtin.append, args := #[s, x], argTypes := #[t, t] })
    (base base2 : Nat) (e : TypeId) (i : TypeInfo) (z : Value) (size bytes : Nat) (ht : P.underlying t = some (.slice e)) (hi : P.info? e = some i) (hz : i.zero = some z)
    (hsize : i.size = size) (hby : i.bytes = bytes) (hzs : z.cells.size = size) (hsz : 0 < size)
    (v : Value) (n : Nat) (xs : List Value) (hs : a.eval s = v) (hown : w.ownsRow base e size v n xs) (v2 : Value) (m : Nat) (news : List Value) (hx : a.eval x = v2) (hown2 : w.ownsRow base2 e size v2 m news) (h1 : ∀ u ∈ news, u.oneCell' = true)
    (h63 : n + m ≤ maxLen) (hbytes : (n + m) * bytes ≤ 140737488355328) (hbase : base ≤ w.heap.size)
    (hK : ∀ v' w', w'.ownsRow base e size v' (n + m) (xs ++ news) → w.grownBy w' v.ownBlock → wpList P ops Q rest (a.put o.dst v') w') :
    wpList P ops Q (o :: rest) a w := by
  refine wpList_plain hg fun K' hK' => ?_
  obtain ⟨v', w', hr, h2, h3, _⟩ := run_append_rows_at (P := P) w base base2 t o.type e i z size bytes ht hi hz hsize hby hzs hsz v n xs hown v2 m news hown2 h1 h63 hbytes hbase
  unfold Oper.wp
  simp only [execOp, hop, resolve, invoke, builtin, Sem.run_bind, Sem.run_pure, Result.andThen_ok, List.map_toArray, List.map_cons, List.map_nil, hs, hx, hr]
  exact hK' _ _ (hK v' w' h2 h3)

/-- The map says where each register is read the last time. -/
def LSays (D : DataW Unit) (f : Int → List Int) : Prop := IsMap D ∧ ∀ v : Int, 0 ≤ v → v ≤ 65535 → has D (.int .i64 v) = !(f v).isEmpty ∧ D.atKey (.int .i64 v) (.lit (.int .i64 0)) = .lit (.int .i64 ((f v).getLastD 0))
theorem lSays_nil : LSays (.map []) (fun _ => []) := ⟨⟨[], rfl⟩, fun v _ _ => ⟨rfl, rfl⟩⟩
theorem LSays.put {D : DataW Unit} {f : Int → List Int} (h : LSays D f) (v i : Int) : LSays (D.put (.int .i64 v) (.lit (.int .i64 i))) (fun y => if y = v then f v ++ [i] else f y) := by
  refine ⟨h.1.put _ _, fun y h0 h1 => ?_⟩
  by_cases hy : y = v
  · subst hy
    rw [has_put_same h.1 (by trivial), atKey_put_same h.1 (by trivial)]
    simp
  · rw [has_put_other (by intro e; injection e with _ e; exact hy e), atKey_put_other (by intro e; injection e with _ e; exact hy e)]
    simp only [if_neg hy]
    exact h.2 y h0 h1
theorem lastF_sorted : ∀ (l : List Op8) (k : Nat) (v : Int), (lastF l k v).Pairwise (· ≤ ·)
  | [], _, _ => .nil
  | o :: l, k, v => by
    rw [lastF]
    refine List.pairwise_append.2 ⟨?_, lastF_sorted l (k + 1) v, fun a ha b hb => ?_⟩
    · rw [List.pairwise_map]
      rw [List.pairwise_iff_getElem]
      intros
      exact Int.le_refl _
    · obtain ⟨_, _, rfl⟩ := List.mem_map.1 ha
      have := (lastF_lt _ _ _ _ hb).1
      push_cast at this; omega
theorem reads_last {L : List Op8} {i : Nat} {v : Int} : readsF L i v = (!(lastF L 0 v).isEmpty && decide ((i : Int) ≤ (lastF L 0 v).getLastD 0)) := by
  unfold readsF
  have hs := lastF_sorted L 0 v
  generalize lastF L 0 v = A at hs
  rcases List.eq_nil_or_concat A with rfl | ⟨B, x, rfl⟩
  · rfl
  · rw [List.concat_eq_append] at hs ⊢
    rw [Bool.eq_iff_iff]
    simp only [List.any_append, List.any_cons, List.any_nil, Bool.or_false, Bool.or_eq_true, List.any_eq_true, decide_eq_true_eq, Bool.and_eq_true]
    constructor
    · rintro (⟨y, hy, h⟩ | h)
      · have := (List.pairwise_append.1 hs).2.2 y hy x (by simp)
        simp; omega
      · simp; omega
    · rintro ⟨_, h⟩
      simp at h
      exact .inr h
theorem setsF_append (L : List Op8) (o : Op8) : setsF (L ++ [o]) = setsF L ++ regsOf [o.t0, o.t1] := by simp [setsF]
theorem setsF_len : ∀ L : List Op8, (setsF L).length ≤ 2 * L.length
  | [] => by simp [setsF]
  | o :: L => by
    have h1 := setsF_len L
    have h2 := regsOf_le2 o.t0 o.t1
    simp only [setsF, List.flatMap_cons, List.length_append, List.length_cons] at h1 ⊢
    omega
theorem setsF_mem {L : List Op8} {v : Int} (h : v ∈ setsF L) : ∃ o ∈ L, v ∈ regsOf [o.t0, o.t1] := by
  simpa [setsF] using h
set_option maxHeartbeats 8000000 in
theorem pressure_any (x : Option Addr) (n c : Nat) (L : List Op8) (w : World) (hL : OpsSl w x L) (hn : L.length = n) (hn2 : n ≤ 100) (hR : ∀ o ∈ L, rightV o.K o.t0 o.t1 o.f0 o.f1 o.f2 o.f3 o.N = true) :
    Calls Tryd.prog 18 #[.slice x n c] w fun e w' => e = .returned (.int .i64 (pressF L L 0 0)) ∧ Below w.heap.size w w' := by
  obtain ⟨i0, hi, hz0, hz1, hz2⟩ := info_parts Tryd.infoInt
  have hmm := @run_makeMap Tryd.prog
  obtain ⟨V, hV⟩ : ∃ V, V = pressF L L 0 0 := ⟨_, rfl⟩
  rw [← hV]
  have HV := Lib.hid hV
  have HL := Lib.hid hL
  have HN := Lib.hid hn
  have HRU : Hid (∀ o ∈ L, ∀ v ∈ regsOf [o.f0, o.f1, o.f2, o.f3], 0 ≤ v ∧ v ≤ 65535) := fun o ho => (Tryd.opOk_regs (hR o ho)).1
  have HRW : Hid (∀ v ∈ setsF L, 0 ≤ v ∧ v ≤ 65535) := fun v hv => by
    obtain ⟨o, ho, hm⟩ := setsF_mem hv
    exact (Tryd.opOk_regs (hR o ho)).2 v hm
  clear hL hn hV hR
  go_enter Tryd.func18, Tryd.ntmps18
  go_wp2_with fail
  have hbM := (Below.refl _ w).alloc (Nat.le_refl _) (.map #[] 0)
  have hmap := World.ownsMap_made (H := Unit) w Tryd.prog 3 (plainElem Tryd.prog 3)
  have hmsz : w.heap.size + 1 ≤ (w.alloc (.map #[] 0)).heap.size := by simp
  generalize w.alloc _ = w1 at hbM hmap hmsz ⊢
  have HBM := Lib.hid hbM
  have HMap := Lib.hid hmap
  clear hbM hmap hmm
  obtain ⟨mb, hmb⟩ : ∃ mb, mb = w.heap.size := ⟨_, rfl⟩
  have Hmb := Lib.hid hmb
  rw [← hmb] at HMap hmsz ⊢
  go_loopw [20] (fun i wr => ∃ (k q : Nat) (D : DataW Unit), k ≤ n ∧ i = .int .i64 k ∧ q ≤ 4 * k ∧ wr.ownsMap Tryd.prog 3 (plainElem Tryd.prog 3) mb q D ∧ LSays D (fun v => lastF (L.take k) 0 v) ∧ Below mb w wr ∧ mb + 1 ≤ wr.heap.size) (fun i _ => n - (intOf i).toNat)
  case atStart => exact ⟨0, 0, _, Nat.zero_le _, rfl, Nat.zero_le _, HMap.out, lSays_nil, by rw [Hmb.out]; exact HBM.out, hmsz⟩
  case round =>
    obtain ⟨k, q, D, hk, rfl, hq, hown, hls, hB, hsz⟩ := hrel
    have Hown := Lib.hid hown
    have Hls := Lib.hid hls
    have HB := Lib.hid hB
    have hLr := HL.out.below (by rw [← Hmb.out]; exact hB)
    clear hown hls hB hmb
    by_cases hlt : k < n
    · have hlt' : k < L.length := by rw [HN.out]; exact hlt
      obtain ⟨b, o, rfl, hb, hc⟩ := hLr.resolve_left (by omega)
      obtain ⟨c0, c1, c2, c3, c4, c5, c6, c7⟩ := hc k hlt'
      have hst : L.take (k + 1) = L.take k ++ [L[k]] := List.take_succ_eq_append_getElem hlt'
      have hrg := HRU.out _ (List.getElem_mem hlt')
      generalize L[k]'hlt' = p at c0 c1 c2 c3 c4 c5 c6 c7 hst hrg
      have Hst := Lib.hid hst
      have wq : IntKind.i64.wrap ((k : Int) + 1) = (k : Int) + 1 := IntWalk.i64_in _ (by omega)
      have hbA := (Below.refl _ wr).alloc (Nat.le_refl _) (.cells #[.int .i64 p.K, .int .i64 p.t0, .int .i64 p.t1, .int .i64 p.f0, .int .i64 p.f1, .int .i64 p.f2, .int .i64 p.f3, .int .u32 p.N] 37)
      have hOA := opAt_new wr p.K p.t0 p.t1 p.f0 p.f1 p.f2 p.f3 p.N
      have dlt : b ≠ wr.heap.size := by omega
      clear hc hst hLr
      go_wp2_with fail
      generalize wr.alloc _ = w5 at hbA hOA ⊢
      clear c0 c1 c2 c3 c4 c5 c6 c7
      obtain ⟨c0, c1, c2, c3, c4, c5, c6, c7⟩ := hOA.cells
      have HB5 := Lib.hid hbA
      clear hbA hOA
      refine (uses_any p.K p.t0 p.t1 p.f0 p.f1 p.f2 p.f3 p.N w5).mono ?_
      rintro e w6 ⟨vu, rfl, hou, hbu⟩
      obtain ⟨U, hU⟩ : ∃ U, U = regsOf [p.f0, p.f1, p.f2, p.f3] := ⟨_, rfl⟩
      have hlU := regsOf_le4 p.f0 p.f1 p.f2 p.f3
      rw [← hU] at hou hlU hrg
      obtain ⟨xu, cu, rfl, hcu, hLu, hgu⟩ := own_LSl hou rfl
      have hb6 := HB5.out.trans (hbu.mono HB5.out.size)
      have hgu2 : Hid (∀ g, xu = some ⟨g, 0, none⟩ → mb < g) := fun g hg => by
        have h1 := (hou.lt g (hgu g hg).2).1
        have h2 := HB5.out.size
        omega
      have Hown6 := Lib.hid (ownsMap_below Hown.out hb6)
      have HB6 := Lib.hid (HB.out.trans (hb6.mono (by omega)))
      have hsz6 : mb + 1 ≤ w6.heap.size := Nat.le_trans hsz hb6.size
      have HLu := Lib.hid hLu
      have Hrg := Lib.hid hrg
      have HU := Lib.hid hU
      clear hou hbu hgu hb6 hLu hrg hU c0 c1 c2 c3 c4 c5 c6 c7 Hown HB
      go_wp2_with fail
      go_loopw [28] (fun j wz => ∃ (jj q' : Nat) (D' : DataW Unit), jj ≤ U.length ∧ j = .int .i64 jj ∧ q' ≤ 4 * k + jj ∧ wz.ownsMap Tryd.prog 3 (plainElem Tryd.prog 3) mb q' D' ∧ LSays D' (fun v => lastF (L.take k) 0 v ++ ((U.take jj).filter (fun y => y == v)).map (fun _ => (k : Int))) ∧ Below mb w wz ∧ mb + 1 ≤ wz.heap.size ∧ LSl wz xu U) (fun j _ => U.length - (intOf j).toNat)
      case atStart => exact ⟨0, q, D, Nat.zero_le _, rfl, by omega, Hown6.out, by simpa using Hls.out, HB6.out, hsz6, HLu.out⟩
      case round =>
        obtain ⟨jj, q', D', hjj, rfl, hqj, hown, hls, hB, hsz7, hLz⟩ := hrel
        have Hown := Lib.hid hown
        have Hls2 := Lib.hid hls
        have HB := Lib.hid hB
        have HLz := Lib.hid hLz
        clear hown hls hB hLz
        by_cases hlt2 : jj < U.length
        · obtain ⟨g, rfl, hI⟩ := HLz.out.resolve_left (fun e => by rw [e] at hlt2; simp at hlt2)
          have y0 := hI.2 jj hlt2
          rw [Nat.zero_add] at y0
          have hgl := hI.1
          have hstU : U.take (jj + 1) = U.take jj ++ [U[jj]] := List.take_succ_eq_append_getElem hlt2
          have hv := Hrg.out _ (List.getElem_mem hlt2)
          generalize U[jj]'hlt2 = v at y0 hstU hv
          have wq2 : IntKind.i64.wrap ((jj : Int) + 1) = (jj : Int) + 1 := IntWalk.i64_in _ (by omega)
          have hkey : keyOf Tryd.prog 3 (.int .i64 v) = some (.int .i64 v) := keyOf_int_mk Tryd.underlying3 (WalkArith.wf_i64 (by omega))
          have HstU := Lib.hid hstU
          have hgm := hgu2.out g rfl
          clear hI hstU
          go_wp2_with (at_mapUpdate; refine wpList_mapUpdate_own _ rfl _ _ _ 80 rfl 3 3 law3 Tryd.underlying80 _ mb q' D' rfl Hown.out (by unfold maxLen; omega) _ (.int .i64 (k : Int)) _ rfl rfl hkey (.lit (.int .i64 (k : Int))) [] (plainElem_int Tryd.underlying3 (WalkArith.wf_i64 (by omega))) ?_; intro wu hownu hgrowu)
          have hL9 : LSl wu (some ⟨g, 0, none⟩) U := HLz.out.same (fun g' e => by
            injection e with e
            injection e with e _ _
            subst e
            exact ⟨Nat.lt_of_lt_of_le hgl hgrowu.size, hgrowu.block g hgl (by simp; omega)⟩)
          have hB9 := HB.out.grown hgrowu (by omega) (fun b e => by injection e with e; omega)
          have h9 := Hls2.out.put v (k : Int)
          refine ⟨⟨jj + 1, q' + 1, _, by omega, by simp, by omega, hownu, ?_, hB9, Nat.le_trans hsz7 hgrowu.size, hL9⟩, by simp only [intOf]; omega⟩
          refine Eq.mp ?_ h9
          congr 1
          funext y
          rw [HstU.out, List.filter_append, List.map_append]
          by_cases hy : y = v
          · subst hy
            rw [if_pos rfl, ← List.append_assoc]
            simp
          · rw [if_neg hy]
            simp [show (v == y) = false by simpa using fun e => hy e.symm]
        · have hjn : jj = U.length := by omega
          have hls := Hls2.out
          rw [hjn, List.take_length] at hls
          have hls2 : LSays D' (fun v => lastF (L.take (k + 1)) 0 v) := by
            refine Eq.mp ?_ hls
            congr 1
            funext y
            rw [Hst.out, lastF_append, ← HU.out]
            congr 2
            funext _
            rw [List.length_take, HN.out]
            congr 1
            omega
          have Hls3 := Lib.hid hls2
          clear hls hls2 hjn
          go_wp2_with fail
          exact ⟨⟨k + 1, q', D', by omega, by simp, by omega, Hown.out, Hls3.out, HB.out, hsz7⟩, by simp only [intOf]; omega⟩
    · have hkn : k = n := by omega
      have hls := Hls.out
      rw [hkn, ← HN.out, List.take_length] at hls
      have Hls4 := Lib.hid hls
      have hq2 : q ≤ 400 := by omega
      clear hls hLr hkn Hls
      go_wp2_with fail
      obtain ⟨w4, hw4⟩ : ∃ w4, w4 = wr := ⟨_, rfl⟩
      subst hw4
      go_loopw [8, 9, 39] (fun sv mv i wz => ∃ k m : Nat, k ≤ n ∧ i = .int .i64 k ∧ mv = .int .i64 (m : Int) ∧ m ≤ 1000 ∧ wz.ownsRow (mb + 1) 3 1 sv (setsF (L.take k)).length (iCells (setsF (L.take k))) ∧ wz.ownsMap Tryd.prog 3 (plainElem Tryd.prog 3) mb q D ∧ Below mb w wz ∧ mb + 1 ≤ wz.heap.size ∧ pressF L (L.drop k) k m = V) (fun _ _ i _ => n - (intOf i).toNat)
      case atStart => exact ⟨0, 0, Nat.zero_le _, rfl, rfl, by omega, World.ownsRow_nil _ _ _ _, Hown.out, HB.out, hsz, HV.out.symm⟩
      case round =>
        obtain ⟨k, m, hk, rfl, rfl, hm, hrow, hown, hB, hsz2, hv⟩ := hrel
        have Hown := Lib.hid hown
        have HB := Lib.hid hB
        have Hv := Lib.hid hv
        have hLr := HL.out.below (by rw [← Hmb.out]; exact hB)
        obtain ⟨xs, cs, rfl, hcs, hLs, hgs⟩ := own_LSl hrow rfl
        have Hrow := Lib.hid hrow
        have HLs := Lib.hid hLs
        clear hown hB hv hrow hLs
        by_cases hlt : k < n
        · have hlt' : k < L.length := by rw [HN.out]; exact hlt
          obtain ⟨b, o, rfl, hb, hc⟩ := hLr.resolve_left (by omega)
          obtain ⟨c0, c1, c2, c3, c4, c5, c6, c7⟩ := hc k hlt'
          have hst : L.take (k + 1) = L.take k ++ [L[k]] := List.take_succ_eq_append_getElem hlt'
          have hdr : L.drop k = L[k] :: L.drop (k + 1) := List.drop_eq_getElem_cons hlt'
          have hsl := setsF_len (L.take k)
          rw [List.length_take] at hsl
          have hbd : ∀ v ∈ setsF (L.take k), 0 ≤ v ∧ v ≤ 65535 := fun v hv => HRW.out v (by
            have : setsF L = setsF (L.take k) ++ setsF (L.drop k) := by
              simp only [setsF]
              rw [← List.flatMap_append, List.take_append_drop]
            rw [this]; exact List.mem_append.2 (.inl hv))
          have hv := Hv.out
          rw [hdr, pressF] at hv
          generalize L[k]'hlt' = p at c0 c1 c2 c3 c4 c5 c6 c7 hst hv
          have hpa : pressAt L k p = (regsOf [p.t0, p.t1]).length + ((setsF (L.take k)).filter (fun v => readsF L k v)).length := rfl
          obtain ⟨W, hW⟩ : ∃ W, W = regsOf [p.t0, p.t1] := ⟨_, rfl⟩
          have hlW := regsOf_le2 p.t0 p.t1
          have hstS : setsF (L.take (k + 1)) = setsF (L.take k) ++ W := by rw [hst, setsF_append, hW]
          rw [← hW] at hpa hlW
          have HW1 : Hid (∀ w, Calls Tryd.prog 16 #[opV p.K p.t0 p.t1 p.f0 p.f1 p.f2 p.f3 p.N] w fun e w' => ∃ v, e = .returned v ∧ w'.ownsRow w.heap.size 3 1 v W.length (iCells W) ∧ Below w.heap.size w w') := fun w => by
            rw [hW]; exact sets_any p.K p.t0 p.t1 p.f0 p.f1 p.f2 p.f3 p.N w
          obtain ⟨Sx, hSx⟩ : ∃ Sx, Sx = setsF (L.take k) := ⟨_, rfl⟩
          rw [← hSx] at hpa hstS hbd hsl hgs hcs ⊢
          have hLs2 := HLs.out
          have hrow2 := Hrow.out
          rw [← hSx] at hLs2 hrow2
          have HLs2 := Lib.hid hLs2
          have Hrow2 := Lib.hid hrow2
          have HstS := Lib.hid hstS
          have Hbd := Lib.hid hbd
          have Hpa := Lib.hid hpa
          have Hv2 := Lib.hid hv
          have hS200 : Sx.length ≤ 200 := by omega
          have wq : IntKind.i64.wrap ((k : Int) + 1) = (k : Int) + 1 := IntWalk.i64_in _ (by omega)
          have hbA := (Below.refl _ wr).alloc (Nat.le_refl _) (.cells #[.int .i64 p.K, .int .i64 p.t0, .int .i64 p.t1, .int .i64 p.f0, .int .i64 p.f1, .int .i64 p.f2, .int .i64 p.f3, .int .u32 p.N] 37)
          have hOA := opAt_new wr p.K p.t0 p.t1 p.f0 p.f1 p.f2 p.f3 p.N
          have hlA : wr.heap.size < (wr.alloc (.cells #[.int .i64 p.K, .int .i64 p.t0, .int .i64 p.t1, .int .i64 p.f0, .int .i64 p.f1, .int .i64 p.f2, .int .i64 p.f3, .int .u32 p.N] 37)).heap.size := by simp
          have dlt : b ≠ wr.heap.size := by omega
          clear hc hst hdr hLr hv hpa hstS hbd hsl hSx hW hLs2 hrow2 HLs Hrow Hv
          go_wp2_with fail
          generalize wr.alloc _ = w5 at hbA hOA hlA ⊢
          clear c0 c1 c2 c3 c4 c5 c6 c7
          obtain ⟨c0, c1, c2, c3, c4, c5, c6, c7⟩ := hOA.cells
          have HO5 := Lib.hid hOA
          have HB5 := Lib.hid hbA
          clear hbA hOA
          refine (HW1.out _).mono ?_
          rintro e w6 ⟨vs, rfl, hos, hbs⟩
          obtain ⟨xw, cw, rfl, hcw⟩ := own_slice hos
          have hb6 := HB5.out.trans (hbs.mono HB5.out.size)
          have Hown6 := Lib.hid (ownsMap_below Hown.out hb6)
          have HB6 := Lib.hid (HB.out.trans (hb6.mono (by omega)))
          have hL6 : LSl w6 xs Sx := LSl.below HLs2.out hb6
          have HL6 := Lib.hid hL6
          have Hrow6 := Lib.hid (ownsRow_below Hrow2.out hb6)
          have HO6 := Lib.hid (HO5.out.below hbs)
          have hsz6 : mb + 1 ≤ w6.heap.size := Nat.le_trans hsz2 hb6.size
          have hl6 : wr.heap.size < w6.heap.size := Nat.lt_of_lt_of_le hlA hbs.size
          clear hos hbs hb6 hL6 c0 c1 c2 c3 c4 c5 c6 c7 Hown HB
          go_wp2_with fail
          go_loopw [12, 49] (fun nv j wz => ∃ jj : Nat, jj ≤ Sx.length ∧ j = .int .i64 jj ∧ nv = .int .i64 ((W.length + ((Sx.take jj).filter (fun v => readsF L k v)).length : Nat) : Int) ∧ w6 = wz) (fun _ j _ => Sx.length - (intOf j).toNat)
          case atStart => exact ⟨0, Nat.zero_le _, rfl, by simp, rfl⟩
          case round =>
            obtain ⟨jj, hjj, rfl, rfl, rfl⟩ := hrel
            by_cases hlt2 : jj < Sx.length
            · obtain ⟨g, rfl, hI⟩ := HL6.out.resolve_left (fun e => by rw [e] at hlt2; simp at hlt2)
              have y0 := hI.2 jj hlt2
              rw [Nat.zero_add] at y0
              have hgl := hI.1
              have hstU : Sx.take (jj + 1) = Sx.take jj ++ [Sx[jj]] := List.take_succ_eq_append_getElem hlt2
              have hv := Hbd.out _ (List.getElem_mem hlt2)
              generalize Sx[jj]'hlt2 = v at y0 hstU hv
              have wq2 : IntKind.i64.wrap ((jj : Int) + 1) = (jj : Int) + 1 := IntWalk.i64_in _ (by omega)
              have hkey : keyOf Tryd.prog 3 (.int .i64 v) = some (.int .i64 v) := keyOf_int_mk Tryd.underlying3 (WalkArith.wf_i64 (by omega))
              have hrl := reads_last (L := L) (i := k) (v := v)
              obtain ⟨hhas, hatL⟩ := Hls4.out.2 v hv.1 hv.2
              simp only at hhas hatL
              obtain ⟨nn, hnn⟩ : ∃ nn : Nat, nn = W.length + ((Sx.take jj).filter (fun v => readsF L k v)).length := ⟨_, rfl⟩
              have hnl : nn ≤ 300 := by
                have := List.length_filter_le (fun v => readsF L k v) (Sx.take jj)
                rw [List.length_take] at this
                omega
              have wn : IntKind.i64.wrap ((nn : Int) + 1) = (nn : Int) + 1 := IntWalk.i64_in _ (by omega)
              have hnx : W.length + ((Sx.take (jj + 1)).filter (fun v => readsF L k v)).length = if readsF L k v then nn + 1 else nn := by
                rw [hstU, List.filter_append, List.length_append, hnn]
                cases hc : readsF L k v <;> simp [hc]
                omega
              rw [← hnn]
              have Hnx := Lib.hid hnx
              clear hI hstU hnx hnn
              generalize hlist : lastF L 0 v = A at hrl hhas hatL
              generalize hread : readsF L k v = rd at hrl Hnx
              clear hlist hread
              cases hA : A.isEmpty
              · rw [hA, Bool.not_false, Bool.true_and] at hrl
                rw [hA, Bool.not_false] at hhas
                obtain ⟨la, hla⟩ : ∃ la, la = A.getLastD 0 := ⟨_, rfl⟩
                rw [← hla] at hrl hatL
                by_cases hge : (k : Int) ≤ la
                · have hrd : rd = true := by rw [hrl]; simpa using hge
                  have Hrd := Lib.hid hrd
                  clear hrd hrl hla hA
                  go_wp2_with (at_lookup; refine wpList_lookup_own_ok_int _ rfl _ _ 80 rfl 3 3 .i64 law3 Tryd.underlying80 Tryd.underlying3 (zero3 _) mb q D rfl Hown6.out _ _ rfl hkey ?_; intro cc hat hwc; rw [hhas]; obtain rfl : cc = la := (by rw [hatL] at hat; injection hat with hat; injection hat with _ hat; exact hat.symm))
                  all_goals first | (exfalso; omega) | skip
                  refine ⟨⟨jj + 1, by omega, by simp, ?_, trivial⟩, by simp only [intOf]; omega⟩
                  rw [Hnx.out, Hrd.out]; simp
                · have hrd : rd = false := by rw [hrl]; simpa using hge
                  have Hrd := Lib.hid hrd
                  clear hrd hrl hla hA
                  go_wp2_with (at_lookup; refine wpList_lookup_own_ok_int _ rfl _ _ 80 rfl 3 3 .i64 law3 Tryd.underlying80 Tryd.underlying3 (zero3 _) mb q D rfl Hown6.out _ _ rfl hkey ?_; intro cc hat hwc; rw [hhas]; obtain rfl : cc = la := (by rw [hatL] at hat; injection hat with hat; injection hat with _ hat; exact hat.symm))
                  all_goals first | (exfalso; omega) | skip
                  refine ⟨⟨jj + 1, by omega, by simp, ?_, trivial⟩, by simp only [intOf]; omega⟩
                  rw [Hnx.out, Hrd.out]; simp
              · rw [hA, Bool.not_true, Bool.false_and] at hrl
                rw [hA, Bool.not_true] at hhas
                have Hrd := Lib.hid hrl
                clear hrl hA
                go_wp2_with (at_lookup; refine wpList_lookup_own_ok_int _ rfl _ _ 80 rfl 3 3 .i64 law3 Tryd.underlying80 Tryd.underlying3 (zero3 _) mb q D rfl Hown6.out _ _ rfl hkey ?_; intro cc hat hwc; rw [hhas])
                all_goals first | (exfalso; omega) | skip
                refine ⟨⟨jj + 1, by omega, by simp, ?_, trivial⟩, by simp only [intOf]; omega⟩
                rw [Hnx.out, Hrd.out]; simp
            · have hjn : jj = Sx.length := by omega
              rw [hjn, List.take_length, ← Hpa.out]
              obtain ⟨nn, hnn⟩ : ∃ nn, nn = pressAt L k p := ⟨_, rfl⟩
              have hnn2 : nn ≤ 1000 := by
                rw [hnn, Hpa.out]
                have := List.length_filter_le (fun v => readsF L k v) Sx
                omega
              rw [← hnn]
              have hv3 := Hv2.out
              rw [← hnn] at hv3
              have Hv3 := Lib.hid hv3
              clear hv3 hnn hjn
              obtain ⟨c0, c1, c2, c3, c4, c5, c6, c7⟩ := HO6.out.cells
              go_upto_region 24 with fail
              go_cut [9] (fun mv wx => mv = .int .i64 ((max m nn : Nat) : Int) ∧ wx = w6)
              case first =>
                go_wp2_with fail
                all_goals
                  rename_i hmx
                  go_meet
                  refine ⟨?_, rfl⟩
                  congr 1
                  omega
              obtain ⟨rfl, hwc⟩ := hcut
              rw [hwc]
              clear hwc
              go_wp2_with fail
              refine (HW1.out _).mono ?_
              rintro e w7 ⟨vs2, rfl, hos2, hbs2⟩
              have hb7 := HB6.out.trans (hbs2.mono (by omega))
              have hrow7 := ownsRow_below Hrow6.out hbs2
              have hsz7 : mb + 1 ≤ w7.heap.size := Nat.le_trans hsz6 hbs2.size
              have Hown7 := Lib.hid (ownsMap_below Hown6.out hbs2)
              have HB7 := Lib.hid hb7
              have Hrow7 := Lib.hid hrow7
              have Hos2 := Lib.hid hos2
              clear hb7 hrow7 hos2
              go_wp2_with (at_builtin; refine wpList_append_rows _ rfl (.tmp 71) (.tmp 73) 41 rfl (mb + 1) w6.heap.size 3 i0 (.int .i64 0) 1 8 Tryd.underlying41 hi hz0 hz1 hz2 rfl (by decide) _ _ _ rfl Hrow7.out _ _ _ rfl Hos2.out (i_all W) (by unfold maxLen; omega) (by omega) hsz7 ?_; intro v8 w8 hown8 hgrow8)
              have hne : ∀ k', (Value.slice xs Sx.length cs).ownBlock = some k' → mb + 1 ≤ k' := fun k' e => (Hrow7.out.lt k' e).1
              have hB8 := HB7.out.grown hgrow8 (by omega) (fun b e => by have := hne b e; omega)
              have hM8 := Hown7.out.kept hgrow8 (fun e => by have := hne mb e.symm; omega)
              have Hown8 := Lib.hid hown8
              have HB8 := Lib.hid hB8
              have HM8 := Lib.hid hM8
              have hsz8 : mb + 1 ≤ w8.heap.size := Nat.le_trans hsz7 hgrow8.size
              clear hown8 hgrow8 hB8 hM8 hne
              go_wp2_with fail
              refine ⟨⟨k + 1, max m nn, by omega, by simp, rfl, by omega, ?_, HM8.out, HB8.out, hsz8, Hv3.out⟩, by simp only [intOf]; omega⟩
              rw [HstS.out, List.length_append, iCells, List.map_append]
              exact Hown8.out
        · have hkn : k = n := by omega
          have hv := Hv.out
          rw [hkn, ← HN.out, List.drop_length, pressF] at hv
          have Hv4 := Lib.hid hv
          have HB9 := HB.out
          rw [Hmb.out] at HB9
          have HB9' := Lib.hid HB9
          clear hv HB9 hkn
          go_wp2_with fail
          go_ret
          exact ⟨by rw [← Hv4.out]; rfl, HB9'.out⟩
end Go.Proofs.YtmkencdkglbpbaaDoor
