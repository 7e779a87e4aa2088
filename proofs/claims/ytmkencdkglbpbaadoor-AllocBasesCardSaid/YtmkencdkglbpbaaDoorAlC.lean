/- alloc: next, add. -/
import Derived.Deep.RegionLaw
import Derived.Test.YtmkencdkglbpbaaDoorAlB
set_option maxRecDepth 100000
set_option linter.unusedVariables false
namespace Go.Proofs.YtmkencdkglbpbaaDoor
open Go.RowKit Go.Maps

/-- Where each register is read next. -/
def AC.nx (c : AC) (p : Int) (v : Int) : Int := nextF c.ln p (c.last v)
theorem nextF_bd (n : Int) (p : Int) : ∀ l : List Int, nextF n p l = n ∨ nextF n p l ∈ l
  | [] => .inl rfl
  | i :: l => by
    unfold nextF
    split
    · exact .inr (by simp)
    · rcases nextF_bd n p l with h | h
      · exact .inl h
      · exact .inr (by simp [h])

set_option maxHeartbeats 1000000 in
theorem next_any {c : AC} (H : ACok c) {w : World} {vp vt vo : Value} {Pn : List Int} {q : Nat} {D : DataW Unit} {N : Nat} {s : AS} (h : AlIn c w vp vt vo Pn q D N s) (v : Int) (hv : -1 ≤ v ∧ v ≤ 65535) :
    Calls Tryd.prog 71 #[.pointer (some ⟨c.ab, 0, none⟩), .int .i64 v] w fun e w' => e = .returned (.int .i64 (c.nx s.pos v)) ∧ w' = w := by
  obtain ⟨x, n, cc, hrun, hL, hn, hn2⟩ := H.last w h.fr v hv.1 hv.2
  obtain ⟨c0, c1, c2, c3, c12, c13, c14, c15, c16, c17⟩ := h.cells
  have hls := lt_of_block h.blk
  obtain ⟨V, hV⟩ : ∃ V, V = c.nx s.pos v := ⟨_, rfl⟩
  rw [← hV]
  unfold AC.nx at hV
  have hln := H.ln
  generalize s.pos = P at hV c2
  generalize c.last v = L at hV hL hn
  have HV := Lib.hid hV
  have HL := Lib.hid hL
  have HN := Lib.hid hn
  clear hV hL hn h H
  go_enter Tryd.func71, Tryd.ntmps71
  go_wp2_with fail
  go_loopw [14] (fun i wr => ∃ k : Nat, k ≤ n ∧ i = .int .i64 k ∧ wr = w ∧ nextF c.ln P (L.drop k) = V) (fun i _ => n - (intOf i).toNat)
  case atStart => exact ⟨0, Nat.zero_le _, rfl, rfl, HV.out.symm⟩
  case round =>
    obtain ⟨k, hk, rfl, rfl, hv⟩ := hrel
    have Hv := Lib.hid hv
    clear hv
    by_cases hlt : k < n
    · have hlt' : k < L.length := by rw [HN.out]; exact hlt
      obtain ⟨g, rfl, hI⟩ := HL.out.resolve_left (fun e => by rw [e] at hlt'; simp at hlt')
      have d0 := hI.2 k hlt'
      rw [Nat.zero_add] at d0
      have hdr : L.drop k = L[k] :: L.drop (k + 1) := List.drop_eq_getElem_cons hlt'
      generalize L[k]'hlt' = X at d0 hdr
      have hv := Hv.out
      rw [hdr, nextF] at hv
      have wq : IntKind.i64.wrap ((k : Int) + 1) = (k : Int) + 1 := IntWalk.i64_in _ (by omega)
      clear hdr hI
      by_cases hx : P ≤ X
      · have e1 : decide (X ≥ P) = true := by simpa using hx
        rw [if_pos hx] at hv
        have HVV := Lib.hid hv
        clear hx hv
        go_wp2_with fail
        go_ret
        exact ⟨by rw [← HVV.out]; rfl, rfl⟩
      · have e1 : decide (X ≥ P) = false := by simpa using hx
        rw [if_neg hx] at hv
        have HVV := Lib.hid hv
        clear hx hv
        go_wp2_with fail
        exact ⟨⟨k + 1, by omega, by simp, trivial, HVV.out⟩, by simp only [intOf]; omega⟩
    · have hkn : k = n := by omega
      have hv := Hv.out
      rw [hkn, ← HN.out, List.drop_length, nextF] at hv
      have HVV := Lib.hid hv
      clear hv
      go_wp2_with fail
      go_ret
      exact ⟨by rw [← HVV.out]; rfl, rfl⟩

theorem opA_all (o : Op8) : ∀ u ∈ opCellsA o, u.oneCell' = true := by
  intro u hu
  simp only [opCellsA, List.mem_cons, List.not_mem_nil, or_false] at hu
  rcases hu with rfl | rfl | rfl | rfl | rfl | rfl | rfl | rfl <;> rfl
theorem Tryd.infoOp : (Tryd.prog.info? 37).map (fun i => (i.zero, i.size, i.bytes)) = some (some (opV 0 0 0 0 0 0 0 0), 8, 64) := by kernel_rfl


/-- append of a slice that was just built, in a drawn region. -/
theorem step_append_at {P : Program} {ops : Array Oper} {o : Oper} {a : Act} {w : World} {K : Act → World → Prop} {Q : Exit → Act → World → Prop} {E : Prop} (hgd : o.guard = none) (s x : Operand) (t : TypeId)
    (ho : o.op = .call { callee := .builtin .append, args := #[s, x], argTypes := #[t, t] })
    (base : Nat) (e : TypeId) (i : TypeInfo) (z : Value) (size bytes : Nat) (ht : P.underlying t = some (.slice e)) (hi : P.info? e = some i) (hz : i.zero = some z)
    (hsize : i.size = size) (hby : i.bytes = bytes) (hzs : z.cells.size = size) (hsz : 0 < size)
    (v : Value) (n : Nat) (xs : List Value) (hs : a.eval s = v) (hown : w.ownsRow base e size v n xs)
    (ad : Addr) (m c : Nat) (news : List Value) (hx : a.eval x = .slice (some ad) m c) (hl : news.length = m * size) (hnews : ∀ j u, news[j]? = some u → w.cell? (ad.add j) = some u) (h1 : ∀ u ∈ news, u.oneCell' = true)
    (h63 : n + m ≤ maxLen) (hbytes : (n + m) * bytes ≤ 140737488355328) (hbase : base ≤ w.heap.size)
    (h : ∀ v' w', w'.ownsRow base e size v' (n + m) (xs ++ news) → w.grownBy w' v.ownBlock → (v'.ownBlock = v.ownBlock ∨ v'.ownBlock = some w.heap.size) → K (a.put o.dst v') w') :
    if Region.wanted o (yielded ops a.tmps) = true then Oper.wp P o a w K Q else E := by
  have hw : Region.wanted o (yielded ops a.tmps) = true := by simp [Region.wanted, hgd]
  rw [if_pos hw]
  obtain ⟨v', w', hr, h2, h3, _, h5⟩ := run_append_own_at (P := P) w base t o.type e i z size bytes ht hi hz hsize hby hzs hsz v n xs hown ad m c news hl hnews h1 h63 hbytes hbase
  unfold Oper.wp execOp
  simp only [ho, resolve, invoke, builtin, Sem.run_bind, Sem.run_pure, Result.andThen_ok, List.map_toArray, List.map_cons, List.map_nil, hs, hx, hr]
  exact h v' w' h2 h3 h5
theorem own_slice {w : World} {B : Nat} {e : TypeId} {size : Nat} {v : Value} {n : Nat} {xs : List Value} (h : w.ownsRow B e size v n xs) : ∃ x cc, v = .slice x n cc ∧ n ≤ cc := by
  rcases h.2 with ⟨hv, h0⟩ | ⟨g, cap, cur, hv, hg, hh, hc, _⟩
  · exact ⟨none, 0, by rw [hv, h0], by omega⟩
  · exact ⟨_, cap, hv, hc⟩
theorem opA_new (W : World) (b : Nat) (o : Op8) (t : TypeId) (hb : b = W.heap.size) : ∀ (j : Nat) (u : Value), (opCellsA o)[j]? = some u → (W.alloc (.cells (opCellsA o).toArray t)).cell? ((⟨b, 0, none⟩ : Addr).add j) = some u := by
  subst hb
  intro j u hj
  have hadd : (⟨W.heap.size, 0, none⟩ : Addr).add j = ⟨W.heap.size, j, none⟩ := by unfold Addr.add; split <;> simp_all
  rw [hadd, World.cell?_alloc_at _ _ _ _ rfl]
  simpa using hj

set_option maxHeartbeats 2000000 in
theorem add_any {c : AC} (H : ACok c) {w : World} {vp vt vo : Value} {Pn : List Int} {q : Nat} {D : DataW Unit} {N : Nat} {s : AS} (h : AlIn c w vp vt vo Pn q D N s) (o : Op8) (hN : N < 10000) :
    Calls Tryd.prog 60 #[.pointer (some ⟨c.ab, 0, none⟩), opV o.K o.t0 o.t1 o.f0 o.f1 o.f2 o.f3 o.N] w fun e w' => e = .returned (.tuple #[]) ∧ ∃ vo', AlIn c w' vp vt vo' Pn q D (N + 1) { s with out := s.out ++ [o] } := by
  obtain ⟨i0, hi, hz0, hz1, hz2⟩ := info_parts Tryd.infoOp
  obtain ⟨w1, hw1⟩ : ∃ w1, w1 = w.alloc (.cells #[.int .i64 o.K, .int .i64 o.t0, .int .i64 o.t1, .int .i64 o.f0, .int .i64 o.f1, .int .i64 o.f2, .int .i64 o.f3, .int .u32 o.N] 37) := ⟨_, rfl⟩
  have hB1 : Below w.heap.size w w1 := by rw [hw1]; exact (Below.refl _ _).alloc (Nat.le_refl _) _
  have hs1 : w.heap.size < w1.heap.size := by rw [hw1]; simp
  have h1 := h.below hB1
  have cells : ∀ j u, #[Value.int .i64 o.K, .int .i64 o.t0, .int .i64 o.t1, .int .i64 o.f0, .int .i64 o.f1, .int .i64 o.f2, .int .i64 o.f3, .int .u32 o.N][j]? = some u → w1.cell? ⟨w.heap.size, j, none⟩ = some u := by
    intro j u hu
    rw [hw1, World.cell?_alloc_at _ _ _ _ rfl]; exact hu
  have k0 : w1.cell? ⟨w.heap.size, 0, none⟩ = some (.int .i64 o.K) := cells 0 _ rfl
  have k1 : w1.cell? ⟨w.heap.size, 1, none⟩ = some (.int .i64 o.t0) := cells 1 _ rfl
  have k2 : w1.cell? ⟨w.heap.size, 2, none⟩ = some (.int .i64 o.t1) := cells 2 _ rfl
  have k3 : w1.cell? ⟨w.heap.size, 3, none⟩ = some (.int .i64 o.f0) := cells 3 _ rfl
  have k4 : w1.cell? ⟨w.heap.size, 4, none⟩ = some (.int .i64 o.f1) := cells 4 _ rfl
  have k5 : w1.cell? ⟨w.heap.size, 5, none⟩ = some (.int .i64 o.f2) := cells 5 _ rfl
  have k6 : w1.cell? ⟨w.heap.size, 6, none⟩ = some (.int .i64 o.f3) := cells 6 _ rfl
  have k7 : w1.cell? ⟨w.heap.size, 7, none⟩ = some (.int .u32 o.N) := cells 7 _ rfl
  obtain ⟨c0, c1, c2, c3, c12, c13, c14, c15, c16, c17⟩ := h1.cells
  have f15 := h1.frozen 15
  have hdis : c.ab ≠ w.heap.size := by have := h.lt; omega
  have hls := h1.lt
  have hob : ∀ k, vo.ownBlock = some k → c.B ≤ k := fun k e => (h1.ro.lt k e).1
  have hab : some c.ab ≠ vo.ownBlock := fun e => by have := hob _ e.symm; have := H.ab; omega
  have HS := Lib.hid h1
  have HH := Lib.hid H
  have HAB := Lib.hid hab
  have hsz := h1.fr.size
  have hon := h1.on
  clear h1 cells hB1 hab hob H h
  go_enter Tryd.func60, Tryd.ntmps60
  go_wp2_with fail
  rw [← hw1]
  clear hw1
  have hD : Below w1.heap.size w1 w1.drew := (Below.refl _ w1).drew
  have HEnd : Hid (∀ (w5 : World) (va : Value), w5.ownsRow c.B 37 8 va (s.out.length + 1) (outC s.out ++ opCellsA o) → (w1.drew.alloc (.cells (opCellsA o).toArray 37)).grownBy w5 vo.ownBlock → (va.ownBlock = vo.ownBlock ∨ va.ownBlock = some (w1.alloc (.cells (opCellsA o).toArray 37)).heap.size) →
      AlIn c (w5.setCell ⟨c.ab, 15, none⟩ va) vp vt va Pn q D (N + 1) { s with out := s.out ++ [o] }) := by
    intro w5 va h1 h2 h3
    have gg : w1.grownBy w5 vo.ownBlock := grown_trans (⟨rfl, rfl, rfl, by simp, fun k hk _ => Below.heap_alloc _ _ _ hk⟩ : w1.grownBy (w1.drew.alloc (.cells (opCellsA o).toArray 37)) vo.ownBlock) h2
    have h1' : w5.ownsRow c.B 37 8 va (s.out ++ [o]).length (outC (s.out ++ [o])) := by
      rw [outC_append, List.length_append]; exact h1
    exact (HS.out.mono (Nat.le_succ N) hN).setO HH.out gg h1' (by rcases h3 with h3 | h3; exact .inl h3; exact .inr ⟨_, h3, by simp⟩) (by simp; omega)
  have Kf : Hid (∀ (w' : World), (w1.drew.alloc (.cells (opCellsA o).toArray 37)).grownBy w' vo.ownBlock → w'.frozen? ⟨c.ab, 15, none⟩ = false ∧ w'.cell? ⟨c.ab, 15, none⟩ = some vo) := by
    intro w' hg
    have gg : w1.grownBy w' vo.ownBlock := grown_trans (⟨rfl, rfl, rfl, by simp, fun k hk _ => Below.heap_alloc _ _ _ hk⟩ : w1.grownBy (w1.drew.alloc (.cells (opCellsA o).toArray 37)) vo.ownBlock) hg
    exact ⟨(World.frozen?_of_block (a := ⟨c.ab, 15, none⟩) (gg.block _ hls HAB.out)).trans f15, gg.cell c15 HAB.out⟩
  go_region_law (refine step_append_at (by rfl) _ _ _ (by rfl) c.B 37 i0 (opV 0 0 0 0 0 0 0 0) 8 64 Tryd.underlying22 hi hz0 hz1 hz2 rfl (by omega) vo s.out.length (outC s.out) (by rfl) ((ownsRow_below HS.out.ro hD).alloc (.cells (opCellsA o).toArray 37)) ⟨w1.heap.size, 0, none⟩ 1 1 (opCellsA o) (by rfl) (by rfl) (opA_new w1.drew _ o _ rfl) (opA_all o) (by unfold maxLen; omega) (by omega) (by simp; omega) ?_; intro va w5 hown5 hgrow5 hat5; obtain ⟨sx, sc, rfl, hsc⟩ := own_slice hown5; have f5 := (Kf.out _ hgrow5).1; have c5 := (Kf.out _ hgrow5).2)
  all_goals
    go_end0
    exact ⟨rfl, _, HEnd.out _ _ hown5 hgrow5 hat5⟩
end Go.Proofs.YtmkencdkglbpbaaDoor
