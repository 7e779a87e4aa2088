/- vop: the statements' started; the anchor. -/
import Derived.Test.YtmkencdkglbpbaaDoorVopL
set_option maxRecDepth 100000
set_option linter.unusedVariables false
namespace Go.Proofs.YtmkencdkglbpbaaDoor
open Go.RowKit

/-- A slice of words. -/
def USl (w : World) (x : Option Addr) (L : List Int) : Prop := L.length = 0 ∨ ∃ b o, x = some ⟨b, o, none⟩ ∧ b < w.heap.size ∧ ∀ i (hi : i < L.length), w.cell? ⟨b, o + i, none⟩ = some (.int .u32 L[i])

theorem run_append_arg {P : Program} (w : World) (base : Nat) (t ty e : TypeId) (i : TypeInfo) (z : Value) (size bytes : Nat) (ht : P.underlying t = some (.slice e)) (hi : P.info? e = some i) (hz : i.zero = some z)
    (hsize : i.size = size) (hby : i.bytes = bytes) (hzs : z.cells.size = size) (hsz : 0 < size)
    (v : Value) (n : Nat) (xs : List Value) (hown : w.ownsRow base e size v n xs) (x : Option Addr) (m c : Nat) (news : List Value) (hl : news.length = m * size)
    (hx : m = 0 ∨ ∃ ad, x = some ad ∧ ∀ j u, news[j]? = some u → w.cell? (ad.add j) = some u) (h1 : ∀ u ∈ news, u.oneCell' = true)
    (h63 : n + m ≤ maxLen) (hbytes : (n + m) * bytes ≤ 140737488355328) (hbase : base ≤ w.heap.size) :
    ∃ v' w', (Builtin.append_ #[t, t] ty #[v, .slice x m c]).run P w = .ok v' w' ∧ w'.ownsRow base e size v' (n + m) (xs ++ news) ∧ w.grownBy w' v.ownBlock ∧ (v' = .slice none 0 0 ↔ v = .slice none 0 0 ∧ m = 0) := by
  by_cases hm : m = 0
  · subst hm
    have hn : news = [] := List.eq_nil_of_length_eq_zero (by simpa using hl)
    subst hn
    refine ⟨v, w, ?_, by rw [List.append_nil]; exact hown, ⟨rfl, rfl, rfl, Nat.le_refl _, fun _ _ _ => rfl⟩, by simp⟩
    rcases hown.2 with ⟨rfl, rfl⟩ | ⟨g, cap, cur, rfl, _, _, hnc, _⟩
    · cases x <;> simp [Builtin.append_, run_underlying ht, sizeOf, typeInfo, hi, Builtin.lenOf, Builtin.firstCells, storeCells, loadCellsFrom, loadCells]
    · cases x <;> simp [Builtin.append_, run_underlying ht, sizeOf, typeInfo, hi, Builtin.lenOf, Builtin.firstCells, hnc, storeCells, loadCellsFrom, loadCells]
  · obtain ⟨ad, rfl, hc⟩ := hx.resolve_left hm
    exact run_append_own (P := P) w base t ty e i z size bytes ht hi hz hsize hby hzs hsz v n xs hown ad m c news hl hc h1 h63 hbytes hbase
theorem wpList_append_uarg {P : Program} {w : World} {ops : Array Oper} {rest : List Oper} {o : Oper} {a : Act} {Q : Exit → Act → World → Prop} (hgd : o.guard = none) (s x : Operand) (t : TypeId)
    (ho : o.op = .call { callee := .builtin .append, args := #[s, x], argTypes := #[t, t] })
    (base : Nat) (e : TypeId) (i : TypeInfo) (z : Value) (size bytes : Nat) (ht : P.underlying t = some (.slice e)) (hi : P.info? e = some i) (hz : i.zero = some z)
    (hsize : i.size = size) (hby : i.bytes = bytes) (hzs : z.cells.size = size) (hsz : 0 < size)
    (v : Value) (n : Nat) (xs : List Value) (hs : a.eval s = v) (hown : w.ownsRow base e size v n xs)
    (xa : Option Addr) (m c : Nat) (news : List Value) (hx : a.eval x = .slice xa m c) (hl : news.length = m * size) (hnews : m = 0 ∨ ∃ ad, xa = some ad ∧ ∀ j u, news[j]? = some u → w.cell? (ad.add j) = some u) (h1 : ∀ u ∈ news, u.oneCell' = true)
    (h63 : n + m ≤ maxLen) (hbytes : (n + m) * bytes ≤ 140737488355328) (hbase : base ≤ w.heap.size)
    (h : ∀ v' w', w'.ownsRow base e size v' (n + m) (xs ++ news) → w.grownBy w' v.ownBlock → (v' = .slice none 0 0 ↔ v = .slice none 0 0 ∧ m = 0) → wpList P ops Q rest (a.put o.dst v') w') : wpList P ops Q (o :: rest) a w := by
  refine wpList_plain hgd fun _ hK => ?_
  obtain ⟨v', w', hr, h2, h3, h4⟩ := run_append_arg (P := P) w base t o.type e i z size bytes ht hi hz hsize hby hzs hsz v n xs hown xa m c news hl hnews h1 h63 hbytes hbase
  unfold Oper.wp execOp
  simp only [ho, resolve, invoke, builtin, Sem.run_bind, Sem.run_pure, Result.andThen_ok, List.map_toArray, List.map_cons, List.map_nil, hs, hx, hr]
  exact hK _ _ (h v' w' h2 h3 h4)

theorem Tryd.infoU32 : (Tryd.prog.info? 35).map (fun i => (i.zero, i.size, i.bytes)) = some (some (.int .u32 0), 1, 4) := by kernel_rfl
/-- Words as cells. -/
def uCells (L : List Int) : List Value := L.map (Value.int .u32)
theorem u_all (T : List Int) : ∀ u ∈ uCells T, u.oneCell' = true := by
  intro u hu
  simp only [uCells, List.mem_map] at hu
  obtain ⟨x, _, rfl⟩ := hu
  rfl
theorem USl.news {w : World} {x : Option Addr} {L : List Int} {n : Nat} (h : USl w x L) (hn : L.length = n) : n = 0 ∨ ∃ ad, x = some ad ∧ ∀ j u, (uCells L)[j]? = some u → w.cell? (ad.add j) = some u := by
  rcases h with h | ⟨b, o, rfl, hb, hc⟩
  · exact .inl (by omega)
  · refine .inr ⟨_, rfl, fun j u hj => ?_⟩
    obtain ⟨hlt, hj⟩ := List.getElem?_eq_some_iff.1 hj
    have hlt' : j < L.length := by simpa [uCells] using hlt
    have := hc j hlt'
    simp only [uCells, List.getElem_map] at hj
    rw [← hj]
    have e : (⟨b, o, none⟩ : Addr).add j = ⟨b, o + j, none⟩ := by unfold Addr.add; split <;> simp_all
    rw [e]
    exact this
theorem USl.below {w w' : World} {x : Option Addr} {L : List Int} (h : USl w x L) (hb : Below w.heap.size w w') : USl w' x L := by
  rcases h with h | ⟨b, o, rfl, hl, hc⟩
  · exact .inl h
  · exact .inr ⟨b, o, rfl, Nat.lt_of_lt_of_le hl hb.size, fun i hi => (hb.cell (p := ⟨b, o + i, none⟩) hl).trans (hc i hi)⟩

/-- What started leaves. -/
structure StartAt (w : World) (L : List Int) (A : Int) (sb rb rc mb : Nat) (fv : Value) (rg rb2 B m : Nat) (w' : World) : Prop where
  reg : RegAt w' sb rb rc mb A L
  mem : IsMem w' B mb fv rg [] (fun _ => 0)
  hB : w.heap.size ≤ B
  hm1 : mb < m
  hm2 : rg < m
  hm3 : ∀ g, fv.ownBlock = some g → g < m
  hm4 : m ≤ rb
  hm5 : m ≤ sb
  two : ∀ j (hj : j < L.length), w'.cell? ⟨rb2, j, none⟩ = some (.int .u32 L[j])
  lt2 : rb2 < w'.heap.size
  ne2 : rb2 ≠ rb
  ne3 : rb2 ≠ sb
  m2 : m ≤ rb2
  below : Below w.heap.size w w'

set_option maxHeartbeats 4000000 in
theorem started_any (x : Option Addr) (n c : Nat) (L : List Int) (A : Int) (w : World) (hx : USl w x L) (hn : L.length = n) (hb : ∀ x ∈ L, 0 ≤ x ∧ x < 4294967296) (hl : n ≤ 100) (hA : 0 ≤ A ∧ A < 4294967296) :
    Calls Tryd.prog 21 #[.slice x n c, .int .u32 A] w fun e w' => ∃ sb rb rc mb fv rg rb2 rc2 B m, e = .returned (.tuple #[.pointer (some ⟨sb, 0, none⟩), .agg #[.slice (some ⟨rb2, 0, none⟩) n rc2, .int .u32 A, .slice none 0 0, .slice none 0 0]]) ∧ n ≤ rc2 ∧ StartAt w L A sb rb rc mb fv rg rb2 B m w' := by
  obtain ⟨i0, hi, hz0, hz1, hz2⟩ := info_parts Tryd.infoU32
  have HX := Lib.hid hx
  have HN := Lib.hid hn
  have hul : (uCells L).length = n * 1 := by simp [uCells, hn]
  have HUL := Lib.hid hul
  clear hx hn hul
  go_enter Tryd.func21, Tryd.ntmps21
  go_wp2_with fail
  have hB1 := (Below.refl _ w).alloc (Nat.le_refl _) (.cells #[.slice none 0 0, .int .u32 0, .slice none 0 0, .slice none 0 0] 52)
  have hk1 := heap_alloc_new w (.cells #[.slice none 0 0, .int .u32 0, .slice none 0 0, .slice none 0 0] 52)
  generalize w.alloc _ = w1 at hB1 hk1 ⊢
  have HB1 := Lib.hid hB1
  have HK1 := Lib.hid hk1
  clear hB1 hk1
  refine (new_any none 0 0 [] w1 ⟨rfl, by simp, .inl rfl⟩ (by omega) (fun _ => ⟨rfl, rfl⟩)).mono ?_
  rintro e w2 ⟨mb, fv, rg, rfl, hM, hb2⟩
  have HB2 := Lib.hid (HB1.out.trans (hb2.mono HB1.out.size))
  have HK2 := Lib.hid ((hb2.block _ (lt_of_block HK1.out)).trans HK1.out)
  have HM := Lib.hid hM
  have HS2 := Lib.hid hb2.size
  clear hb2 hM
  have HX3 := Lib.hid (HX.out.below (HB2.out.alloc HB2.out.size (.cells #[] 35)))
  go_wp2_with (at_builtin; refine wpList_append_uarg rfl (.tmp 19) (.tmp 20) 45 rfl w2.heap.size 35 i0 (.int .u32 0) 1 4 Tryd.underlying45 hi hz0 hz1 hz2 rfl (by decide) _ 0 [] rfl (World.ownsRow_lit w2 #[] 0 (Nat.le_refl _) (by unfold maxLen; omega) rfl) x n c (uCells L) rfl HUL.out (HX3.out.news HN.out) (u_all L) (by unfold maxLen; omega) (by omega) (by simp) ?_)
  intro v4 w4 hown4 hgrow4 hnil4
  obtain ⟨rb, rc, rfl, hrb, hcap, hcell, hfz⟩ : ∃ rb rc, v4 = .slice (some ⟨rb, 0, none⟩) n rc ∧ w2.heap.size ≤ rb ∧ n ≤ rc ∧ (∀ j (hj : j < L.length), w4.cell? ⟨rb, j, none⟩ = some (.int .u32 L[j])) ∧ ∃ cur, w4.heap[rb]? = some (.cells cur 35 (0, 0)) := by
    rcases hown4.2 with ⟨h1, h2⟩ | ⟨g, cap, cur, rfl, hg, hh, hc, _⟩
    · exact (hnil4 h1).elim
    · refine ⟨g, cap, rfl, hg, by omega, fun j hj => ?_, cur, hh⟩
      rw [hown4.cellAt j (by have := HN.out; omega)]
      simp [uCells, hj]
  have HB4 := Lib.hid ((HB2.out.alloc HB2.out.size (.cells #[] 35)).grown hgrow4 (by have := HB2.out.size; simp; omega) (fun b e => by simp [Value.ownBlock] at e; subst e; exact HB2.out.size))
  have HC4 := Lib.hid hcell
  have HZ4 := Lib.hid hfz
  have HG4 := Lib.hid (show w2.grownBy w4 (some w2.heap.size) from ⟨hgrow4.os, hgrow4.tape, hgrow4.output, by have := hgrow4.size; simp at this; omega, fun i hi hne => by rw [hgrow4.block i (by simp; omega) (by simpa [Value.ownBlock] using hne), Below.heap_alloc _ _ _ hi]⟩)
  have hrl := lt_of_block hfz.choose_spec
  clear hown4 hgrow4 hnil4 hcell hfz
  have HX5 := Lib.hid (HX.out.below ((HB4.out.alloc HB4.out.size (.cells #[.slice (some ⟨rb, 0, none⟩) n rc, .int .u32 A, .pointer (some ⟨mb, 0, none⟩)] 59)).alloc (by have := HB4.out.size; simp; omega) (.cells #[] 35)))
  have hlit : ((w4.alloc (.cells #[.slice (some ⟨rb, 0, none⟩) n rc, .int .u32 A, .pointer (some ⟨mb, 0, none⟩)] 59)).alloc (.cells #[] 35)).ownsRow (w4.heap.size + 1) 35 1 (.slice (some ⟨w4.heap.size + 1, 0, none⟩) 0 0) 0 [] := by
    have := World.ownsRow_lit (base := w4.heap.size + 1) (e := 35) (size := 1) (w4.alloc (.cells #[.slice (some ⟨rb, 0, none⟩) n rc, .int .u32 A, .pointer (some ⟨mb, 0, none⟩)] 59)) #[] 0 (by simp) (by unfold maxLen; omega) rfl
    rwa [World.size_alloc] at this
  have HLIT := Lib.hid hlit
  clear hlit
  go_wp2_with (at_builtin; refine wpList_append_uarg rfl (.tmp 26) (.tmp 27) 45 rfl (w4.heap.size + 1) 35 i0 (.int .u32 0) 1 4 Tryd.underlying45 hi hz0 hz1 hz2 rfl (by decide) _ 0 [] rfl HLIT.out x n c (uCells L) rfl HUL.out (HX5.out.news HN.out) (u_all L) (by unfold maxLen; omega) (by omega) (by simp) ?_)
  intro v6 w6 hown6 hgrow6 hnil6
  obtain ⟨rb2, rc2, rfl, hrb2, hcap2, hcell2, hrl2⟩ : ∃ rb2 rc2, v6 = .slice (some ⟨rb2, 0, none⟩) n rc2 ∧ w4.heap.size + 1 ≤ rb2 ∧ n ≤ rc2 ∧ (∀ j (hj : j < L.length), w6.cell? ⟨rb2, j, none⟩ = some (.int .u32 L[j])) ∧ rb2 < w6.heap.size := by
    rcases hown6.2 with ⟨h1, h2⟩ | ⟨g, cap, cur, rfl, hg, hh, hc, _⟩
    · exact (hnil6 h1).elim
    · refine ⟨g, cap, rfl, hg, by omega, fun j hj => ?_, lt_of_block hh⟩
      rw [hown6.cellAt j (by have := HN.out; omega)]
      simp [uCells, hj]
  have hb6 : Below (w4.heap.size + 1) (w4.alloc (.cells #[.slice (some ⟨rb, 0, none⟩) n rc, .int .u32 A, .pointer (some ⟨mb, 0, none⟩)] 59)) w6 :=
    ((Below.refl _ _).alloc (by simp) (.cells #[] 35)).grown hgrow6 (by simp) (fun b e => by simp [Value.ownBlock] at e; omega)
  have hbS := (Below.refl _ w4).alloc (Nat.le_refl _) (.cells #[.slice (some ⟨rb, 0, none⟩) n rc, .int .u32 A, .pointer (some ⟨mb, 0, none⟩)] 59)
  have hkS := (hb6.block w4.heap.size (by omega)).trans (heap_alloc_new w4 (.cells #[.slice (some ⟨rb, 0, none⟩) n rc, .int .u32 A, .pointer (some ⟨mb, 0, none⟩)] 59))
  have hb46 : Below w4.heap.size w4 w6 := hbS.trans (hb6.mono (by omega))
  have HB46 := Lib.hid hb46
  have HKS := Lib.hid hkS
  have HB6 := Lib.hid (HB4.out.trans (hb46.mono HB4.out.size))
  have HC2 := Lib.hid hcell2
  have hk1 : w6.heap[w.heap.size]? = some (.cells #[.slice none 0 0, .int .u32 0, .slice none 0 0, .slice none 0 0] 52 (0, 0)) := by
    have h1 := lt_of_block HK2.out
    rw [hb46.block _ (by have := HG4.out.size; omega), HG4.out.block _ h1 (by intro e; injection e with e; omega)]
    exact HK2.out
  clear hown6 hgrow6 hnil6 hcell2 hb6 hbS hkS hb46
  have HK6 := Lib.hid hk1
  have y : ∀ j v, #[Value.slice none 0 0, .int .u32 0, .slice none 0 0, .slice none 0 0][j]? = some v → w6.cell? ⟨w.heap.size, j, none⟩ = some v := fun j v hv => by
    simp only [World.cell?, hk1]; rw [if_neg (by simp)]; exact hv
  have y0 := y 0 _ rfl
  have y1 := y 1 _ rfl
  have y2 := y 2 _ rfl
  have y3 := y 3 _ rfl
  have yf : ∀ j, w6.frozen? ⟨w.heap.size, j, none⟩ = false := fun j => by simp [World.frozen?, hk1]
  clear y hk1
  go_wp2_with fail
  have hz := (setCell_heap (setCell_heap (setCell_heap (setCell_heap HK6.out 0 (.slice (some ⟨rb2, 0, none⟩) n rc2)) 1 (.int .u32 A)) 2 (.slice none 0 0)) 3 (.slice none 0 0))
  have hBz := ((((HB6.out.setCell (p := ⟨w.heap.size, 0, none⟩) (by simp) (.slice (some ⟨rb2, 0, none⟩) n rc2)).setCell (p := ⟨w.heap.size, 1, none⟩) (by simp) (.int .u32 A)).setCell (p := ⟨w.heap.size, 2, none⟩) (by simp) (.slice none 0 0)).setCell (p := ⟨w.heap.size, 3, none⟩) (by simp) (.slice none 0 0))
  have hkz : ∀ k, k ≠ w.heap.size → ((((w6.setCell ⟨w.heap.size, 0, none⟩ (.slice (some ⟨rb2, 0, none⟩) n rc2)).setCell ⟨w.heap.size, 1, none⟩ (.int .u32 A)).setCell ⟨w.heap.size, 2, none⟩ (.slice none 0 0)).setCell ⟨w.heap.size, 3, none⟩ (.slice none 0 0)).heap[k]? = w6.heap[k]? := fun k hk => by
    rw [Below.heap_setCell _ _ _ _ hk, Below.heap_setCell _ _ _ _ hk, Below.heap_setCell _ _ _ _ hk, Below.heap_setCell _ _ _ _ hk]
  have hsz : ((((w6.setCell ⟨w.heap.size, 0, none⟩ (.slice (some ⟨rb2, 0, none⟩) n rc2)).setCell ⟨w.heap.size, 1, none⟩ (.int .u32 A)).setCell ⟨w.heap.size, 2, none⟩ (.slice none 0 0)).setCell ⟨w.heap.size, 3, none⟩ (.slice none 0 0)).heap.size = w6.heap.size := by simp
  generalize World.setCell _ _ _ = wz at hz hBz hkz hsz ⊢
  have zz : ∀ j v, #[Value.slice (some ⟨rb2, 0, none⟩) n rc2, .int .u32 A, .slice none 0 0, .slice none 0 0][j]? = some v → wz.cell? ⟨w.heap.size, j, none⟩ = some v := fun j v hv => by
    simp only [World.cell?, hz]; rw [if_neg (by simp)]; exact hv
  have z0 := zz 0 _ rfl
  have z1 := zz 1 _ rfl
  have z2 := zz 2 _ rfl
  have z3 := zz 3 _ rfl
  have hn := HN.out
  have hs1 := HB1.out.size
  have hk1 := lt_of_block HK1.out
  have hs2 := HS2.out
  have hs4 := HG4.out.size
  have hs6 := HB46.out.size
  have hfr := HZ4.out
  refine ⟨rfl, .tuple #[.pointer (some ⟨w4.heap.size, 0, none⟩), .agg #[.slice (some ⟨rb2, 0, none⟩) n rc2, .int .u32 A, .slice none 0 0, .slice none 0 0]], ?_, w4.heap.size, rb, rc, mb, fv, rg, rb2, rc2, w1.heap.size, w2.heap.size, rfl, hcap2, ?_⟩
  · simp [results, Tryd.f21, go_sem, z0, z1, z2, z3]
  · refine { reg := ?_, mem := ?_, hB := by omega, hm1 := lt_of_block HM.out.blk, hm2 := HM.out.hrs, hm3 := fun g hg => (HM.out.flash.lt g hg).2, hm4 := hrb, hm5 := by omega, two := fun j hj => ?_, lt2 := by omega, ne2 := by omega, ne3 := by omega, m2 := by omega, below := hBz }
    · obtain ⟨cur, hcur⟩ := hfr
      have hrbz : wz.heap[rb]? = some (.cells cur 35 (0, 0)) := by rw [hkz rb (by omega), HB46.out.block rb hrl]; exact hcur
      refine ⟨?_, fun i hi => ?_, fun i => by simp [World.frozen?, hrbz], by omega, by omega, by omega, by omega, hb, hA⟩
      · rw [hkz _ (by omega), HKS.out, hn]
      · rw [World.cell?_of_block (w := w4) (a := ⟨rb, i, none⟩) (by rw [hkz rb (by omega), HB46.out.block rb hrl])]
        exact HC4.out i hi
    · refine HM.out.kept (by omega) fun k h1 h2 => ?_
      rw [hkz k (by omega), HB46.out.block k (by omega), HG4.out.block k h2 (by intro e; injection e with e; omega)]
    · rw [World.cell?_of_block (w := w6) (a := ⟨rb2, j, none⟩) (hkz rb2 (by omega))]
      exact HC2.out j hj
end Go.Proofs.YtmkencdkglbpbaaDoor
