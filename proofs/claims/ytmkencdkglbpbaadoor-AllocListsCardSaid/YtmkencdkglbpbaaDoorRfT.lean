/- The document's step: its four boxes and the rows. -/
import Derived.Test.YtmkencdkglbpbaaDoorRfB
set_option maxRecDepth 100000
set_option linter.unusedVariables false
namespace Go.Proofs.YtmkencdkglbpbaaDoor
open Go.RowKit Go.Maps

theorem AtR.trans {w w' : World} {v v' v'' : Value} (h : AtR w v v') (h' : AtR w' v' v'') (hs : w.heap.size ≤ w'.heap.size) : AtR w v v'' := by
  rcases h' with e | e | ⟨g, e, hg⟩
  · rcases h with e2 | e2 | ⟨g, e2, hg⟩
    · exact .inl (e.trans e2)
    · exact .inr (.inl (e.trans e2))
    · exact .inr (.inr ⟨g, e.trans e2, hg⟩)
  · exact .inr (.inl e)
  · exact .inr (.inr ⟨g, e, by omega⟩)
/-- A block that a row does not lie in. -/
def Off (w0 : World) (v : Value) : Prop := ∀ j, v.ownBlock = some j → j < w0.heap.size ∨ w0.heap.size + 4 ≤ j
theorem Off.at {w0 w : World} {v v' : Value} (h : Off w0 v) (ha : AtR w v v') (hs : w0.heap.size + 4 ≤ w.heap.size) : Off w0 v' := fun j e => by
  rcases ha with e2 | e2 | ⟨g, e2, hg⟩
  · exact h j (e2 ▸ e)
  · rw [e2] at e; cases e
  · rw [e2] at e; injection e with e; omega
theorem Off.ne {w0 : World} {v : Value} (h : Off w0 v) {b : Nat} (h1 : w0.heap.size ≤ b) (h2 : b < w0.heap.size + 4) : v.ownBlock = none ∨ v.ownBlock ≠ some b := off_of fun j e => by have := h j e; omega
/-- Between two pieces of a step. -/
structure StA (w0 : World) (B N : Nat) (x : Option Addr) (n c : Nat) (base pos : Int) (vs0 vo0 : Value) (o q : Op8) (s : AS) (g0 g1 g2 g3 g4 g5 g6 g7 : Int) (vs vo : Value) (w : World) : Prop where
  hG : s.G = [g0, g1, g2, g3, g4, g5, g6, g7]
  k5 : w.heap[w0.heap.size]? = some (.cells #[.slice x n c, .int .i64 base, .int .i64 pos, .int .i64 g0, .int .i64 g1, .int .i64 g2, .int .i64 g3, .int .i64 g4, .int .i64 g5, .int .i64 g6, .int .i64 g7, vs, vo, .int .i64 s.slots, .int .i64 s.e] 86 (0, 0))
  k6 : w.heap[w0.heap.size + 1]? = some (.cells #[.slice none 0 0, .int .i64 0, .int .i64 0, .int .i64 0, .int .i64 0, .int .i64 0, .int .i64 0, .int .i64 0, .int .i64 0, .int .i64 0, .int .i64 0, .slice none 0 0, .slice none 0 0, .int .i64 0, .int .i64 0] 86 (0, 0))
  kO : w.heap[w0.heap.size + 2]? = some (.cells #[.int .i64 o.K, .int .i64 o.t0, .int .i64 o.t1, .int .i64 o.f0, .int .i64 o.f1, .int .i64 o.f2, .int .i64 o.f3, .int .u32 o.N] 38 (0, 0))
  kN : w.heap[w0.heap.size + 3]? = some (.cells #[.int .i64 q.K, .int .i64 q.t0, .int .i64 q.t1, .int .i64 q.f0, .int .i64 q.f1, .int .i64 q.f2, .int .i64 q.f3, .int .u32 q.N] 38 (0, 0))
  rows : RowsA w B vs vo s.T s.out N
  gr : w0.grownBy w vo0.ownBlock
  a1 : AtR w0 vs0 vs
  a2 : AtR w0 vo0 vo
  o1 : Off w0 vs
  o2 : Off w0 vo
/-- Behind a take: its answer lies in a box of its own. -/
structure TkA (w0 : World) (B N : Nat) (x : Option Addr) (n c : Nat) (base pos : Int) (vs0 vo0 : Value) (o q : Op8) (s : AS) (b6 : Nat) (g0 g1 g2 g3 g4 g5 g6 g7 : Int) (vs vo : Value) (old : Array Value) (w : World) : Prop where
  hG : s.G = [g0, g1, g2, g3, g4, g5, g6, g7]
  kb : w.heap[b6]? = some (.cells #[.slice x n c, .int .i64 base, .int .i64 pos, .int .i64 g0, .int .i64 g1, .int .i64 g2, .int .i64 g3, .int .i64 g4, .int .i64 g5, .int .i64 g6, .int .i64 g7, vs, vo, .int .i64 s.slots, .int .i64 s.e] 86 (0, 0))
  k5 : w.heap[w0.heap.size]? = some (.cells old 86 (0, 0))
  old : old.size = 15
  k6 : w.heap[w0.heap.size + 1]? = some (.cells #[.slice none 0 0, .int .i64 0, .int .i64 0, .int .i64 0, .int .i64 0, .int .i64 0, .int .i64 0, .int .i64 0, .int .i64 0, .int .i64 0, .int .i64 0, .slice none 0 0, .slice none 0 0, .int .i64 0, .int .i64 0] 86 (0, 0))
  kO : w.heap[w0.heap.size + 2]? = some (.cells #[.int .i64 o.K, .int .i64 o.t0, .int .i64 o.t1, .int .i64 o.f0, .int .i64 o.f1, .int .i64 o.f2, .int .i64 o.f3, .int .u32 o.N] 38 (0, 0))
  kN : w.heap[w0.heap.size + 3]? = some (.cells #[.int .i64 q.K, .int .i64 q.t0, .int .i64 q.t1, .int .i64 q.f0, .int .i64 q.f1, .int .i64 q.f2, .int .i64 q.f3, .int .u32 q.N] 38 (0, 0))
  rows : RowsA w B vs vo s.T s.out N
  gr : w0.grownBy w vo0.ownBlock
  a1 : AtR w0 vs0 vs
  a2 : AtR w0 vo0 vo
  o1 : Off w0 vs
  o2 : Off w0 vo
section
variable {w0 : World} {B N : Nat} {x : Option Addr} {n c : Nat} {base pos : Int} {vs0 vo0 : Value} {o q : Op8} {s : AS} {g0 g1 g2 g3 g4 g5 g6 g7 : Int} {vs vo : Value} {w : World}
theorem StA.size (h : StA w0 B N x n c base pos vs0 vo0 o q s g0 g1 g2 g3 g4 g5 g6 g7 vs vo w) : w0.heap.size + 4 ≤ w.heap.size := by have := lt_of_block h.kN; omega
theorem StA.mono (h : StA w0 B N x n c base pos vs0 vo0 o q s g0 g1 g2 g3 g4 g5 g6 g7 vs vo w) {M : Nat} (hM : N ≤ M) : StA w0 B M x n c base pos vs0 vo0 o q s g0 g1 g2 g3 g4 g5 g6 g7 vs vo w :=
  ⟨h.hG, h.k5, h.k6, h.kO, h.kN, h.rows.mono hM, h.gr, h.a1, h.a2, h.o1, h.o2⟩
theorem StA.below (h : StA w0 B N x n c base pos vs0 vo0 o q s g0 g1 g2 g3 g4 g5 g6 g7 vs vo w) {w' : World} (hb : Below w.heap.size w w') : StA w0 B N x n c base pos vs0 vo0 o q s g0 g1 g2 g3 g4 g5 g6 g7 vs vo w' :=
  ⟨h.hG, (hb.block _ (lt_of_block h.k5)).trans h.k5, (hb.block _ (lt_of_block h.k6)).trans h.k6, (hb.block _ (lt_of_block h.kO)).trans h.kO, (hb.block _ (lt_of_block h.kN)).trans h.kN, h.rows.below hb, grown_then h.gr hb, h.a1, h.a2, h.o1, h.o2⟩
theorem grown_row2 {a b c : World} {v0 v : Value} (h : a.grownBy b v0.ownBlock) (ha : AtR a v0 v) (k : b.grownBy c v.ownBlock) : a.grownBy c v0.ownBlock :=
  grown_row h k fun j e => by
    rcases ha with e2 | e2 | ⟨g, e2, hg⟩
    · exact .inl (by rw [← e2]; exact e.symm)
    · rw [e2] at e; cases e
    · rw [e2] at e; injection e with e; exact .inr (by omega)
theorem Off.blk {v : Value} (h : Off w0 v) {w w' : World} (hg : w.grownBy w' v.ownBlock) {b : Nat} (h1 : w0.heap.size ≤ b) (h2 : b < w0.heap.size + 4) {ob : Obj} (hk : w.heap[b]? = some ob) : w'.heap[b]? = some ob :=
  (hg.block _ (by rcases Nat.lt_or_ge b w.heap.size with h | h; exact h; rw [Array.getElem?_eq_none h] at hk; cases hk) (fun e => by have := h b e.symm; omega)).trans hk
theorem StA.taken (h : StA w0 B N x n c base pos vs0 vo0 o q s g0 g1 g2 g3 g4 g5 g6 g7 vs vo w) {w' : World} {s1 : AS} {h0 h1 h2 h3 h4 h5 h6 h7 : Int} {vs' vo' : Value} {b6 : Nat} {M : Nat} (hG : s1.G = [h0, h1, h2, h3, h4, h5, h6, h7]) (hr : RowsA w' B vs' vo' s1.T s1.out M) (hg : w.grownBy w' vo.ownBlock) (e1 : AtR w vs vs') (e2 : AtR w vo vo')
    (hb : w'.heap[b6]? = some (.cells #[.slice x n c, .int .i64 base, .int .i64 pos, .int .i64 h0, .int .i64 h1, .int .i64 h2, .int .i64 h3, .int .i64 h4, .int .i64 h5, .int .i64 h6, .int .i64 h7, vs', vo', .int .i64 s1.slots, .int .i64 s1.e] 86 (0, 0))) :
    TkA w0 B M x n c base pos vs0 vo0 o q s1 b6 h0 h1 h2 h3 h4 h5 h6 h7 vs' vo' #[.slice x n c, .int .i64 base, .int .i64 pos, .int .i64 g0, .int .i64 g1, .int .i64 g2, .int .i64 g3, .int .i64 g4, .int .i64 g5, .int .i64 g6, .int .i64 g7, vs, vo, .int .i64 s.slots, .int .i64 s.e] w' :=
  ⟨hG, hb, h.o2.blk hg (Nat.le_refl _) (by omega) h.k5, rfl, h.o2.blk hg (by omega) (by omega) h.k6, h.o2.blk hg (by omega) (by omega) h.kO, h.o2.blk hg (by omega) (by omega) h.kN, hr, grown_row2 h.gr h.a2 hg,
    h.a1.trans e1 h.gr.size, h.a2.trans e2 h.gr.size, h.o1.at e1 h.size, h.o2.at e2 h.size⟩
theorem TkA.mono {b6 : Nat} {old : Array Value} (h : TkA w0 B N x n c base pos vs0 vo0 o q s b6 g0 g1 g2 g3 g4 g5 g6 g7 vs vo old w) {M : Nat} (hM : N ≤ M) : TkA w0 B M x n c base pos vs0 vo0 o q s b6 g0 g1 g2 g3 g4 g5 g6 g7 vs vo old w :=
  ⟨h.hG, h.kb, h.k5, h.old, h.k6, h.kO, h.kN, h.rows.mono hM, h.gr, h.a1, h.a2, h.o1, h.o2⟩
theorem TkA.below {b6 : Nat} {old : Array Value} (h : TkA w0 B N x n c base pos vs0 vo0 o q s b6 g0 g1 g2 g3 g4 g5 g6 g7 vs vo old w) {w' : World} (hb : Below w.heap.size w w') : TkA w0 B N x n c base pos vs0 vo0 o q s b6 g0 g1 g2 g3 g4 g5 g6 g7 vs vo old w' :=
  ⟨h.hG, (hb.block _ (lt_of_block h.kb)).trans h.kb, (hb.block _ (lt_of_block h.k5)).trans h.k5, h.old, (hb.block _ (lt_of_block h.k6)).trans h.k6, (hb.block _ (lt_of_block h.kO)).trans h.kO, (hb.block _ (lt_of_block h.kN)).trans h.kN, h.rows.below hb, grown_then h.gr hb, h.a1, h.a2, h.o1, h.o2⟩
/-- The answer is stored into the step's own box. -/
theorem TkA.back {b6 : Nat} {old : Array Value} (h : TkA w0 B N x n c base pos vs0 vo0 o q s b6 g0 g1 g2 g3 g4 g5 g6 g7 vs vo old w) : StA w0 B N x n c base pos vs0 vo0 o q s g0 g1 g2 g3 g4 g5 g6 g7 vs vo (w.setRow w0.heap.size #[.slice x n c, .int .i64 base, .int .i64 pos, .int .i64 g0, .int .i64 g1, .int .i64 g2, .int .i64 g3, .int .i64 g4, .int .i64 g5, .int .i64 g6, .int .i64 g7, vs, vo, .int .i64 s.slots, .int .i64 s.e]) := by
  have g2 := setRow_grown w w0.heap.size #[.slice x n c, .int .i64 base, .int .i64 pos, .int .i64 g0, .int .i64 g1, .int .i64 g2, .int .i64 g3, .int .i64 g4, .int .i64 g5, .int .i64 g6, .int .i64 g7, vs, vo, .int .i64 s.slots, .int .i64 s.e]
  exact ⟨h.hG, setRow_heap w w0.heap.size _ _ _ _ h.k5, (g2.block _ (lt_of_block h.k6) (by simp)).trans h.k6, (g2.block _ (lt_of_block h.kO) (by simp)).trans h.kO, (g2.block _ (lt_of_block h.kN) (by simp)).trans h.kN,
    h.rows.off g2 (h.o1.ne (Nat.le_refl _) (by omega)) (h.o2.ne (Nat.le_refl _) (by omega)), grown_row h.gr g2 (fun j e => .inr (by injection e with e; omega)), h.a1, h.a2, h.o1, h.o2⟩
/-- .. with an operation more put out. -/
theorem TkA.put {b6 : Nat} {old : Array Value} (h : TkA w0 B N x n c base pos vs0 vo0 o q s b6 g0 g1 g2 g3 g4 g5 g6 g7 vs vo old w) {w' : World} {vo' : Value} {O' : List Op8} (hro : w'.ownsRow B 38 8 vo' O'.length (outC O')) (hg : w.grownBy w' vo.ownBlock) (hat : vo'.ownBlock = vo.ownBlock ∨ ∃ g, vo'.ownBlock = some g ∧ w.heap.size ≤ g) (hN : O'.length ≤ N) :
    w'.heap[w0.heap.size]? = some (.cells old 86 (0, 0)) ∧ StA w0 B N x n c base pos vs0 vo0 o q { s with out := O' } g0 g1 g2 g3 g4 g5 g6 g7 vs vo' (w'.setRow w0.heap.size #[.slice x n c, .int .i64 base, .int .i64 pos, .int .i64 g0, .int .i64 g1, .int .i64 g2, .int .i64 g3, .int .i64 g4, .int .i64 g5, .int .i64 g6, .int .i64 g7, vs, vo', .int .i64 s.slots, .int .i64 s.e]) := by
  have hat' : AtR w vo vo' := hat.imp id .inr
  have hsz : w0.heap.size + 4 ≤ w.heap.size := by have := lt_of_block h.kN; omega
  have o2' := h.o2.at hat' hsz
  have k5 := h.o2.blk hg (Nat.le_refl _) (by omega) h.k5
  have k6 := h.o2.blk hg (by omega) (by omega) h.k6
  have kO := h.o2.blk hg (by omega) (by omega) h.kO
  have kN := h.o2.blk hg (by omega) (by omega) h.kN
  have g2 := setRow_grown w' w0.heap.size #[.slice x n c, .int .i64 base, .int .i64 pos, .int .i64 g0, .int .i64 g1, .int .i64 g2, .int .i64 g3, .int .i64 g4, .int .i64 g5, .int .i64 g6, .int .i64 g7, vs, vo', .int .i64 s.slots, .int .i64 s.e]
  have hrt := h.rows.rt.kept hg h.rows.sp
  refine ⟨k5, ⟨h.hG, setRow_heap w' w0.heap.size _ _ _ _ k5, (g2.block _ (lt_of_block k6) (by simp)).trans k6, (g2.block _ (lt_of_block kO) (by simp)).trans kO, (g2.block _ (lt_of_block kN) (by simp)).trans kN,
    ⟨hrt.kept g2 (h.o1.ne (Nat.le_refl _) (by omega)), hro.kept g2 (o2'.ne (Nat.le_refl _) (by omega)), ?_, h.rows.tn, hN⟩, grown_row (grown_row2 h.gr h.a2 hg) g2 (fun j e => .inr (by injection e with e; omega)), h.a1, h.a2.trans hat' h.gr.size, h.o1, o2'⟩⟩
  cases hv : vs.ownBlock with
  | none => exact .inl hv
  | some a =>
    refine .inr ?_
    rcases hat with e2 | ⟨g, e2, hg2⟩
    · rw [e2]
      rcases h.rows.sp with h0 | h0
      · rw [hv] at h0; cases h0
      · exact h0
    · rw [e2, hv]
      intro e; injection e with e
      have := (h.rows.rt.lt a hv).2; omega
/-- A cell of the operation that is put together. -/
theorem StA.setQ (h : StA w0 B N x n c base pos vs0 vo0 o q s g0 g1 g2 g3 g4 g5 g6 g7 vs vo w) (i : Nat) (v : Value) {q' : Op8} (hq : (#[.int .i64 q.K, .int .i64 q.t0, .int .i64 q.t1, .int .i64 q.f0, .int .i64 q.f1, .int .i64 q.f2, .int .i64 q.f3, .int .u32 q.N] : Array Value).setIfInBounds i v = #[.int .i64 q'.K, .int .i64 q'.t0, .int .i64 q'.t1, .int .i64 q'.f0, .int .i64 q'.f1, .int .i64 q'.f2, .int .i64 q'.f3, .int .u32 q'.N]) :
    StA w0 B N x n c base pos vs0 vo0 o q' s g0 g1 g2 g3 g4 g5 g6 g7 vs vo (w.setCell ⟨w0.heap.size + 3, i, none⟩ v) := by
  have g2 := setCell_grown w (w0.heap.size + 3) i v
  exact ⟨h.hG, (g2.block _ (lt_of_block h.k5) (by simp)).trans h.k5, (g2.block _ (lt_of_block h.k6) (by simp)).trans h.k6, (g2.block _ (lt_of_block h.kO) (by simp)).trans h.kO, by rw [← hq]; exact setCell_heap h.kN i v,
    h.rows.off g2 (h.o1.ne (by omega) (by omega)) (h.o2.ne (by omega) (by omega)), grown_row h.gr g2 (fun j e => .inr (by injection e with e; omega)), h.a1, h.a2, h.o1, h.o2⟩
/-- A cell of the step's own box. -/
theorem StA.own (h : StA w0 B N x n c base pos vs0 vo0 o q s g0 g1 g2 g3 g4 g5 g6 g7 vs vo w) {w' : World} (hg : w.grownBy w' (some w0.heap.size)) {s' : AS} {h0 h1 h2 h3 h4 h5 h6 h7 : Int} {pos' : Int} {vs' vo' : Value} {M : Nat} (hG : s'.G = [h0, h1, h2, h3, h4, h5, h6, h7]) (hk : w'.heap[w0.heap.size]? = some (.cells #[.slice x n c, .int .i64 base, .int .i64 pos', .int .i64 h0, .int .i64 h1, .int .i64 h2, .int .i64 h3, .int .i64 h4, .int .i64 h5, .int .i64 h6, .int .i64 h7, vs', vo', .int .i64 s'.slots, .int .i64 s'.e] 86 (0, 0))) (hr : RowsA w' B vs' vo' s'.T s'.out M) (a1 : AtR w0 vs0 vs') (a2 : AtR w0 vo0 vo') (o1 : Off w0 vs') (o2 : Off w0 vo') :
    StA w0 B M x n c base pos' vs0 vo0 o q s' h0 h1 h2 h3 h4 h5 h6 h7 vs' vo' w' :=
  ⟨hG, hk, (hg.block _ (lt_of_block h.k6) (by simp)).trans h.k6, (hg.block _ (lt_of_block h.kO) (by simp)).trans h.kO, (hg.block _ (lt_of_block h.kN) (by simp)).trans h.kN, hr, grown_row h.gr hg (fun j e => .inr (by injection e with e; omega)), a1, a2, o1, o2⟩
theorem StA.cell (h : StA w0 B N x n c base pos vs0 vo0 o q s g0 g1 g2 g3 g4 g5 g6 g7 vs vo w) (i : Nat) (u : Value) {s' : AS} {h0 h1 h2 h3 h4 h5 h6 h7 : Int} {pos' : Int} (hG : s'.G = [h0, h1, h2, h3, h4, h5, h6, h7]) (hT : s'.T = s.T) (hO : s'.out = s.out) (hk : (w.setCell ⟨w0.heap.size, i, none⟩ u).heap[w0.heap.size]? = some (.cells #[.slice x n c, .int .i64 base, .int .i64 pos', .int .i64 h0, .int .i64 h1, .int .i64 h2, .int .i64 h3, .int .i64 h4, .int .i64 h5, .int .i64 h6, .int .i64 h7, vs, vo, .int .i64 s'.slots, .int .i64 s'.e] 86 (0, 0))) :
    StA w0 B N x n c base pos' vs0 vo0 o q s' h0 h1 h2 h3 h4 h5 h6 h7 vs vo (w.setCell ⟨w0.heap.size, i, none⟩ u) :=
  h.own (setCell_grown w w0.heap.size i u) hG hk (by rw [hT, hO]; exact h.rows.off (setCell_grown w w0.heap.size i u) (h.o1.ne (Nat.le_refl _) (by omega)) (h.o2.ne (Nat.le_refl _) (by omega))) h.a1 h.a2 h.o1 h.o2
theorem StA.setPos (h : StA w0 B N x n c base pos vs0 vo0 o q s g0 g1 g2 g3 g4 g5 g6 g7 vs vo w) (p : Int) : StA w0 B N x n c base p vs0 vo0 o q s g0 g1 g2 g3 g4 g5 g6 g7 vs vo (w.setCell ⟨w0.heap.size, 2, none⟩ (.int .i64 p)) :=
  h.cell 2 _ h.hG rfl rfl (setCell_heap h.k5 2 (.int .i64 p))
theorem StA.setG (h : StA w0 B N x n c base pos vs0 vo0 o q s g0 g1 g2 g3 g4 g5 g6 g7 vs vo w) (r : Nat) (hr : r < 8) (v : Int) :
    ∃ h0 h1 h2 h3 h4 h5 h6 h7 : Int, [g0, g1, g2, g3, g4, g5, g6, g7].set r v = [h0, h1, h2, h3, h4, h5, h6, h7] ∧ StA w0 B N x n c base pos vs0 vo0 o q { s with G := [g0, g1, g2, g3, g4, g5, g6, g7].set r v } h0 h1 h2 h3 h4 h5 h6 h7 vs vo (w.setCell ⟨w0.heap.size, 3 + r, none⟩ (.int .i64 v)) := by
  obtain ⟨h0, h1, h2, h3, h4, h5, h6, h7, hset, k7⟩ := boxA_setG h.k5 r hr v
  exact ⟨h0, h1, h2, h3, h4, h5, h6, h7, hset, h.cell (3 + r) _ hset rfl rfl k7⟩
end
end Go.Proofs.YtmkencdkglbpbaaDoor
