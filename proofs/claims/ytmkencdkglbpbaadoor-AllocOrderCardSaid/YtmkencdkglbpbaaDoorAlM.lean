/- alloc: frames around a step. -/
import Derived.Test.YtmkencdkglbpbaaDoorAlK
import Derived.Deep.RegionHeld3
import Derived.Deep.RegionLaw
set_option maxRecDepth 100000
set_option linter.unusedVariables false
namespace Go.Proofs.YtmkencdkglbpbaaDoor
open Go.RowKit Go.Maps

theorem run_append_rows_at {P : Program} (w : World) (base base2 : Nat) (t ty e : TypeId) (i : TypeInfo) (z : Value) (size bytes : Nat) (ht : P.underlying t = some (.slice e)) (hi : P.info? e = some i) (hz : i.zero = some z)
    (hsize : i.size = size) (hby : i.bytes = bytes) (hzs : z.cells.size = size) (hsz : 0 < size)
    (v : Value) (n : Nat) (xs : List Value) (hown : w.ownsRow base e size v n xs) (v2 : Value) (m : Nat) (news : List Value) (hown2 : w.ownsRow base2 e size v2 m news) (h1 : ∀ u ∈ news, u.oneCell' = true)
    (h63 : n + m ≤ maxLen) (hbytes : (n + m) * bytes ≤ 140737488355328) (hbase : base ≤ w.heap.size) :
    ∃ v' w', (Builtin.append_ #[t, t] ty #[v, v2]).run P w = .ok v' w' ∧ w'.ownsRow base e size v' (n + m) (xs ++ news) ∧ w.grownBy w' v.ownBlock ∧ (v'.ownBlock = v.ownBlock ∨ v'.ownBlock = some w.heap.size) := by
  rcases hown2.2 with ⟨rfl, rfl⟩ | ⟨g, cap, cur, rfl, hg, hh, hc, _⟩
  · have hn : news = [] := List.eq_nil_of_length_eq_zero (by simpa using hown2.1)
    subst hn
    refine ⟨v, w, run_append_owned_none (P := P) (w := w) base t ty e i size ht hi v n xs hown, ?_, ⟨rfl, rfl, rfl, Nat.le_refl _, fun _ _ _ => rfl⟩, .inl rfl⟩
    rw [List.append_nil]; exact hown
  · obtain ⟨v', w', hr, h2, h3, _, h5⟩ := run_append_own_at (P := P) w base t ty e i z size bytes ht hi hz hsize hby hzs hsz v n xs hown ⟨g, 0, none⟩ m cap news hown2.1 (hown2.cells (g := g) rfl) h1 h63 hbytes hbase
    exact ⟨v', w', hr, h2, h3, h5⟩
theorem step_append_rows_at {P : Program} {ops : Array Oper} {o : Oper} {a : Act} {w : World} {K : Act → World → Prop} {Q : Exit → Act → World → Prop} {E : Prop} (hgd : o.guard = none) (s x : Operand) (t : TypeId)
    (ho : o.op = .call { callee := .builtin .append, args := #[s, x], argTypes := #[t, t] })
    (base base2 : Nat) (e : TypeId) (i : TypeInfo) (z : Value) (size bytes : Nat) (ht : P.underlying t = some (.slice e)) (hi : P.info? e = some i) (hz : i.zero = some z)
    (hsize : i.size = size) (hby : i.bytes = bytes) (hzs : z.cells.size = size) (hsz : 0 < size)
    (v : Value) (n : Nat) (xs : List Value) (hs : a.eval s = v) (hown : w.ownsRow base e size v n xs) (v2 : Value) (m : Nat) (news : List Value) (hx : a.eval x = v2) (hown2 : w.ownsRow base2 e size v2 m news) (h1 : ∀ u ∈ news, u.oneCell' = true)
    (h63 : n + m ≤ maxLen) (hbytes : (n + m) * bytes ≤ 140737488355328) (hbase : base ≤ w.heap.size)
    (h : ∀ v' w', w'.ownsRow base e size v' (n + m) (xs ++ news) → w.grownBy w' v.ownBlock → (v'.ownBlock = v.ownBlock ∨ v'.ownBlock = some w.heap.size) → K (a.put o.dst v') w') :
    if Region.wanted o (yielded ops a.tmps) = true then Oper.wp P o a w K Q else E := by
  have hw : Region.wanted o (yielded ops a.tmps) = true := by simp [Region.wanted, hgd]
  rw [if_pos hw]
  obtain ⟨v', w', hr, h2, h3, h4⟩ := run_append_rows_at (P := P) w base base2 t o.type e i z size bytes ht hi hz hsize hby hzs hsz v n xs hown v2 m news hown2 h1 h63 hbytes hbase
  unfold Oper.wp execOp
  simp only [ho, resolve, invoke, builtin, Sem.run_bind, Sem.run_pure, Result.andThen_ok, List.map_toArray, List.map_cons, List.map_nil, hs, hx, hr]
  exact h v' w' h2 h3 h4
/-- The same allocator, with a block more to let be. -/
structure Kin (c c2 : AC) : Prop where
  ab : c2.ab = c.ab
  base : c2.base = c.base
  last : c2.last = c.last
  ln : c2.ln = c.ln
theorem Kin.nx {c c2 : AC} (h : Kin c c2) : c2.nx = c.nx := by
  funext p v; unfold AC.nx; rw [h.last, h.ln]
theorem Kin.trans {c c2 c3 : AC} (h : Kin c c2) (h' : Kin c2 c3) : Kin c c3 := ⟨h'.ab.trans h.ab, h'.base.trans h.base, h'.last.trans h.last, h'.ln.trans h.ln⟩
theorem AlX.open2 {c : AC} {w0 w1 : World} {Pn : List Int} {N : Nat} {s : AS} (h : AlX c w0 Pn N s) (H : ACok c) (hb : Below w0.heap.size w0 w1) (v : Value) (hv : ∀ k, v.ownBlock = some k → w0.heap.size ≤ k ∧ k < w1.heap.size) :
    ∃ c2, Kin c c2 ∧ ACok c2 ∧ AlX c2 w1 Pn N s ∧ (∀ (w2 : World) (Pn' : List Int) (N' : Nat) (s' : AS), AlX c2 w2 Pn' N' s' →
      AlX c w2 Pn' N' s' ∧ ∀ k, v.ownBlock = some k → k < w2.heap.size ∧ w2.heap[k]? = w1.heap[k]?) ∧ (∀ g, c.F g → c2.F g) ∧ ∀ g, v.ownBlock = some g → c2.F g := by
  obtain ⟨h1, h2⟩ := h.open_ H hb v hv
  exact ⟨c.fit (fun k => c.F k ∨ some k = v.ownBlock) w1, ⟨rfl, rfl, rfl, rfl⟩, H.fit _ _, h1, h2, fun g hg => .inl hg, fun g hg => .inr hg.symm⟩

/-- A row of the caller's that grows beside the books. -/
structure Beside (c : AC) (w : World) (Pn : List Int) (N : Nat) (s : AS) (v : Value) : Prop where
  x : AlX (c.fit (fun k => c.F k ∨ some k = v.ownBlock) w) w Pn N s
  old : ∀ g, c.F g → some g ≠ v.ownBlock ∧ g < w.heap.size ∧ w.heap[g]? = c.wf.heap[g]?
theorem Beside.start {c : AC} {w : World} {Pn : List Int} {N : Nat} {s : AS} (h : AlX c w Pn N s) : Beside c w Pn N s (.slice none 0 0) := by
  obtain ⟨vp, vt, vo, q, D, h, hS⟩ := h
  refine ⟨⟨vp, vt, vo, q, D, h.fit (fun g hg => ?_), hS⟩, fun g hg => ?_⟩
  · rcases hg with hg | hg
    · obtain ⟨a, b, d, e, f, l, k⟩ := h.kf g hg
      exact ⟨a, b, d, e, f, l, rfl⟩
    · simp [Value.ownBlock] at hg
  · obtain ⟨a, b, d, e, f, l, k⟩ := h.kf g hg
    exact ⟨by simp [Value.ownBlock], l, k⟩
/-- What the allocator does leaves the row as it is. -/
theorem Beside.after {c : AC} {w w2 : World} {Pn Pn' : List Int} {N N' : Nat} {s s' : AS} {v : Value} (h : Beside c w Pn N s v) (h2 : AlX (c.fit (fun k => c.F k ∨ some k = v.ownBlock) w) w2 Pn' N' s') :
    Beside c w2 Pn' N' s' v ∧ ∀ k, v.ownBlock = some k → k < w2.heap.size ∧ w2.heap[k]? = w.heap[k]? := by
  obtain ⟨vp, vt, vo, q, D, h2, hS⟩ := h2
  refine ⟨⟨⟨vp, vt, vo, q, D, h2.fit (F := fun k => c.F k ∨ some k = v.ownBlock) (wf := w2) (fun g hg => ?_), hS⟩, fun g hg => ?_⟩, fun k hk => ?_⟩
  · obtain ⟨a, b, d, e, f, l, k⟩ := h2.kf g hg
    exact ⟨a, b, d, e, f, l, rfl⟩
  · obtain ⟨a, b, d, e, f, l, k⟩ := h2.kf g (.inl hg)
    exact ⟨(h.old g hg).1, l, k.trans (h.old g hg).2.2⟩
  · obtain ⟨a, b, d, e, f, l, k⟩ := h2.kf k (.inr hk.symm)
    exact ⟨l, k⟩
theorem Beside.below {c : AC} {w w2 : World} {Pn : List Int} {N : Nat} {s : AS} {v : Value} (h : Beside c w Pn N s v) (hb : Below w.heap.size w w2) : Beside c w2 Pn N s v := (h.after (h.x.below hb)).1
/-- The row grows. -/
theorem Beside.turn {c : AC} (H : ACok c) {w w' : World} {Pn : List Int} {N : Nat} {s : AS} {v v' : Value} (h : Beside c w Pn N s v) (hv : ∀ k, v.ownBlock = some k → c.B ≤ k) (hg : w.grownBy w' v.ownBlock)
    (hat : v'.ownBlock = v.ownBlock ∨ ∃ g, v'.ownBlock = some g ∧ w.heap.size ≤ g) (hlt : ∀ g, v'.ownBlock = some g → g < w'.heap.size) : Beside c w' Pn N s v' := by
  obtain ⟨⟨vp, vt, vo, q, D, h1, hS⟩, old⟩ := h
  have hne : ∀ u : Value, (∀ k, v.ownBlock = some k → some k ≠ u.ownBlock) → u.ownBlock = none ∨ u.ownBlock ≠ v.ownBlock := fun u hu => by
    cases he : v.ownBlock with
    | none => cases u.ownBlock <;> simp
    | some k => exact .inr (fun e => hu k he (by rw [e]))
  have kf := fun k (hk : v.ownBlock = some k) => h1.kf k (.inr hk.symm)
  have hab : some c.ab ≠ v.ownBlock := fun e => (kf c.ab e.symm).1 rfl
  have hmb : some c.mb ≠ v.ownBlock := fun e => (kf c.mb e.symm).2.1 rfl
  have hoff : ∀ g, c.F g → some g ≠ v.ownBlock := fun g hF => (old g hF).1
  have n_t := hne vt (fun k hk => (kf k hk).2.2.1)
  have n_o := hne vo (fun k hk => (kf k hk).2.2.2.1)
  have n_p := hne vp (fun k hk => (kf k hk).2.2.2.2.1)
  refine ⟨⟨vp, vt, vo, q, D, ?_, hS⟩, fun g hF => ?_⟩
  · refine AlIn.fit (c := c) (F := fun k => c.F k ∨ some k = v'.ownBlock) (wf := w') ⟨?_, ?_, h1.g8, ?_, ?_, ?_, ?_, h1.tp, h1.tob, h1.po, h1.gb, h1.tb, h1.pn, h1.tn, h1.on, h1.qn, h1.n, h1.sl, h1.pos, ?_⟩ ?_
    · exact (show Fr c w from ⟨h1.fr.os, h1.fr.tape, h1.fr.output, h1.fr.size, h1.fr.block⟩).grown hg (fun k e => .inl (hv k e))
    · exact (hg.block _ h1.lt hab).trans h1.blk
    · exact h1.map.kept hg hmb
    · exact h1.rt.kept hg n_t
    · exact h1.rp.kept hg n_p
    · exact h1.ro.kept hg n_o
    · intro g hF
      obtain ⟨a, b, d, e, f, l, k⟩ := h1.kf g (.inl hF)
      exact ⟨a, b, d, e, f, Nat.lt_of_lt_of_le l hg.size, (hg.block g l (hoff g hF)).trans (old g hF).2.2⟩
    · intro g hF
      rcases hF with hF | hF
      · obtain ⟨a, b, d, e, f, l, k⟩ := h1.kf g (.inl hF)
        exact ⟨a, b, d, e, f, Nat.lt_of_lt_of_le l hg.size, rfl⟩
      · rcases hat with h2 | ⟨g', h2, h3⟩
        · obtain ⟨a, b, d, e, f, l, k⟩ := kf g (h2 ▸ hF.symm)
          exact ⟨a, b, d, e, f, Nat.lt_of_lt_of_le l hg.size, rfl⟩
        · obtain rfl : g = g' := by rw [h2] at hF; injection hF
          have l1 := h1.fr.size
          have l2 := H.ab
          have l3 := H.mb
          have e1 : (c.fit (fun k => c.F k ∨ some k = v.ownBlock) w).B = c.B := rfl
          refine ⟨by show g ≠ c.ab; omega, by show g ≠ c.mb; omega, fun e => ?_, fun e => ?_, fun e => ?_, hlt g h2, rfl⟩
          · have := (h1.rt.lt g e.symm).2; omega
          · have := (h1.ro.lt g e.symm).2; omega
          · have := (h1.rp.lt g e.symm).2; omega
  · refine ⟨?_, Nat.lt_of_lt_of_le (old g hF).2.1 hg.size, (hg.block g (old g hF).2.1 (hoff g hF)).trans (old g hF).2.2⟩
    rcases hat with h2 | ⟨g', h2, h3⟩
    · rw [h2]; exact hoff g hF
    · rw [h2]; intro e; injection e with e; have := (old g hF).2.1; omega
theorem Beside.done {c : AC} {w : World} {Pn : List Int} {N : Nat} {s : AS} {v : Value} (h : Beside c w Pn N s v) : AlX c w Pn N s := by
  obtain ⟨⟨vp, vt, vo, q, D, h1, hS⟩, old⟩ := h
  refine ⟨vp, vt, vo, q, D, h1.unfit (fun g hF => ?_), hS⟩
  obtain ⟨a, b, d, e, f, l, k⟩ := h1.kf g (.inl hF)
  exact ⟨a, b, d, e, f, l, (old g hF).2.2⟩

/-- Contracts at an allocator's address. -/
theorem take_at {c : AC} (H : ACok c) {w : World} {Pn : List Int} {N : Nat} {s : AS} {v : Value} (h : Beside c w Pn N s v) (hf : Fine s) (hN : N + 2 ≤ 10000) (x : Int) (hx : 0 ≤ x ∧ x ≤ 65535) {ab : Nat} (e1 : c.ab = ab) {nx : Int → Int} (e2 : c.nx s.pos = nx) {base : Int} (e3 : c.base = base) :
    Calls Tryd.prog 59 #[.pointer (some ⟨ab, 0, none⟩), .int .i64 x] w fun e w' => e = .returned (.int .i64 (pickF nx Pn s)) ∧ Beside c w' Pn (N + 2) (takeF nx base Pn s x) v ∧ ∀ k, v.ownBlock = some k → k < w'.heap.size ∧ w'.heap[k]? = w.heap[k]? := by
  subst e1; subst e2; subst e3
  refine (take_any (H.fit _ _) h.x hf hN x hx).mono ?_
  rintro e w' ⟨he, h2⟩
  exact ⟨he, h.after h2⟩
theorem aread_at {c : AC} (H : ACok c) {w : World} {Pn : List Int} {N : Nat} {s : AS} (h : AlX c w Pn N s) (hf : Fine s) (o : Op8) (hU : ∀ x ∈ regsOf [o.f0, o.f1, o.f2, o.f3], 0 ≤ x ∧ x ≤ 65535) (hN : N + 12 ≤ 10000) {ab : Nat} (e1 : c.ab = ab) {nx : Int → Int} (e2 : c.nx s.pos = nx) {base : Int} (e3 : c.base = base) :
    Calls Tryd.prog 57 #[.pointer (some ⟨ab, 0, none⟩), opV o.K o.t0 o.t1 o.f0 o.f1 o.f2 o.f3 o.N] w fun e w' => e = .returned (.tuple #[]) ∧ AlX c w' Pn (N + 12) (readF nx base Pn (regsOf [o.f0, o.f1, o.f2, o.f3]) s) := by
  subst e1; subst e2; subst e3
  exact aread_any H h hf o hU hN
theorem mapped_at {c : AC} {w : World} {Pn : List Int} {N : Nat} {s : AS} (h : AlX c w Pn N s) (x : Option Addr) (n cc : Nat) (L : List Int) (hL : LSl w x L) (hn : L.length = n) (hn2 : n ≤ 1000) {ab : Nat} (e1 : c.ab = ab) :
    Calls Tryd.prog 58 #[.pointer (some ⟨ab, 0, none⟩), .slice x n cc] w fun e w' => ∃ v, e = .returned v ∧ w'.ownsRow w.heap.size 3 1 v n (iCells (L.map fun u => idxV s.G u 0)) ∧ Below w.heap.size w w' := by
  subst e1
  exact mapped_any h x n cc L hL hn hn2
theorem add_at {c : AC} (H : ACok c) {w : World} {Pn : List Int} {N : Nat} {s : AS} (h : AlX c w Pn N s) (o : Op8) (hN : N < 10000) {ab : Nat} (e1 : c.ab = ab) :
    Calls Tryd.prog 60 #[.pointer (some ⟨ab, 0, none⟩), opV o.K o.t0 o.t1 o.f0 o.f1 o.f2 o.f3 o.N] w fun e w' => e = .returned (.tuple #[]) ∧ AlX c w' Pn (N + 1) { s with out := s.out ++ [o] } := by
  subst e1
  obtain ⟨vp, vt, vo, q, D, h, hS⟩ := h
  refine (add_any H h o hN).mono ?_
  rintro e w' ⟨he, vo', h2⟩
  exact ⟨he, vp, vt, vo', q, D, h2, hS⟩
theorem end_at {c : AC} (H : ACok c) {w : World} {Pn : List Int} {N : Nat} {s : AS} (h : AlX c w Pn N s) (hf : Fine s) (hp : s.pos < 1000) {ab : Nat} (e1 : c.ab = ab) :
    Calls Tryd.prog 61 #[.pointer (some ⟨ab, 0, none⟩)] w fun e w' => e = .returned (.tuple #[]) ∧ AlX c w' Pn N (endF c.last c.ln s) := by
  subst e1
  exact end_any H h hf hp
/-- The pinned are written anew. -/
theorem AlX.setP {c : AC} (H : ACok c) {w w1 : World} {Pn : List Int} {N : Nat} {s : AS} (h : AlX c w Pn N s) (hb : Below w.heap.size w w1) {vp' : Value} {P' : List Int} (ho : w1.ownsRow w.heap.size 3 1 vp' P'.length (iCells P')) (hn : P'.length ≤ 6) :
    AlX c (w1.setCell ⟨c.ab, 14, none⟩ vp') P' N s := by
  obtain ⟨vp, vt, vo, q, D, h, hS⟩ := h
  refine ⟨vp', vt, vo, q, D, h.setP H (row := none) ⟨hb.os, hb.tape, hb.output, hb.size, fun k hk _ => hb.block k hk⟩ (.inl rfl) (ownsRow_base ho h.fr.size) ?_ hn, hS⟩
  cases hv : vp'.ownBlock with
  | none => exact .inr (.inl rfl)
  | some g => exact .inr (.inr ⟨g, rfl, (ho.lt g hv).1⟩)
theorem AlX.pins {c : AC} {w : World} {Pn : List Int} {N : Nat} {s : AS} (h : AlX c w Pn N s) : ∃ vp, w.cell? ⟨c.ab, 14, none⟩ = some vp := by
  obtain ⟨vp, vt, vo, q, D, h, hS⟩ := h
  obtain ⟨c0, c1, c2, c3, c12, c13, c14, c15, c16, c17⟩ := h.cells
  exact ⟨_, c14⟩
theorem AlX.pinCell {c : AC} {w : World} {Pn : List Int} {N : Nat} {s : AS} (h : AlX c w Pn N s) : w.frozen? ⟨c.ab, 14, none⟩ = false ∧ c.ab < w.heap.size := by
  obtain ⟨vp, vt, vo, q, D, h, hS⟩ := h
  exact ⟨h.frozen _, h.lt⟩


theorem step_call {P : Program} {ops : Array Oper} {o : Oper} {a : Act} {w : World} {K : Act → World → Prop} {Q : Exit → Act → World → Prop} {E : Prop} (hgd : o.guard = none) (f : Nat) (vals : Array Value)
    (hrun : (execOp a.eval o).run P w = .ok (.enter f vals) w) (R : Ending → World → Prop) (hc : Calls P f vals w R)
    (hr : ∀ e w', R e w' → ∃ u, e = .returned u ∧ K (a.put o.dst u) w') :
    if Region.wanted o (yielded ops a.tmps) = true then Oper.wp P o a w K Q else E := by
  have hw : Region.wanted o (yielded ops a.tmps) = true := by simp [Region.wanted, hgd]
  rw [if_pos hw]
  unfold Oper.wp
  rw [hrun, Oper.upon_enter]
  refine hc.mono ?_
  intro e w' h
  obtain ⟨u, rfl, h2⟩ := hr e w' h
  exact h2
end Go.Proofs.YtmkencdkglbpbaaDoor
