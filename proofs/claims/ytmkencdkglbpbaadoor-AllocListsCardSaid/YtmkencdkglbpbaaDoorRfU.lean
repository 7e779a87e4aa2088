/- The document's step: contracts said of what stands between two pieces. -/
import Derived.Test.YtmkencdkglbpbaaDoorRfT
import Derived.Test.YtmkencdkglbpbaaDoorRfP
set_option maxRecDepth 100000
set_option linter.unusedVariables false
namespace Go.Proofs.YtmkencdkglbpbaaDoor
open Go.RowKit Go.Maps

theorem as_eta {s : AS} {p : Int} {G : List Int} (hp : s.pos = p) (hG : s.G = G) : s = ⟨p, G, s.T, s.out, s.slots, s.e⟩ := by
  cases s; simp at hp hG; subst hp hG; rfl
theorem RowsA.len {w : World} {B : Nat} {x : Option Addr} {n c : Nat} {vo : Value} {T : List Int} {O : List Op8} {N : Nat} (h : RowsA w B (.slice x n c) vo T O N) : n = T.length := by
  obtain ⟨x', c', he, _⟩ := own_slice h.rt
  injection he
theorem RowsA.lsl {w : World} {B : Nat} {x : Option Addr} {n c : Nat} {vo : Value} {T : List Int} {O : List Op8} {N : Nat} (h : RowsA w B (.slice x n c) vo T O N) : RSl w x T := by
  obtain ⟨x', c', he, _, hl, _⟩ := own_LSl h.rt rfl
  injection he with he
  rw [he]; exact .of hl
theorem OpsSl.grow {w w' : World} {x : Option Addr} {L : List Op8} {r : Option Nat} (h : OpsSl w x L) (hg : w.grownBy w' r) (hx : ∀ b o, x = some ⟨b, o, none⟩ → some b ≠ r) : OpsSl w' x L :=
  h.kept hg.size fun b o e hl => hg.block b hl (hx b o e)
section
variable {w0 : World} {B M : Nat} {x : Option Addr} {n c : Nat} {base : Int} {k : Nat} {vs0 vo0 : Value} {o q : Op8} {s : AS} {g0 g1 g2 g3 g4 g5 g6 g7 : Int} {vs vo : Value} {w : World} {L : List Op8}
theorem takeR_at (h : StA w0 B M x n c base k vs0 vo0 o q s g0 g1 g2 g3 g4 g5 g6 g7 vs vo w) (hp : s.pos = k) (hf : Fine s) (hk : k < L.length) (ho : L[k] = o) (hn : L.length = n) (hn2 : n ≤ 1000) (hB : B ≤ w0.heap.size) (hb : 0 ≤ base ∧ base ≤ 1020) (hm : 0 ≤ s.slots ∧ s.slots ≤ M) (hM : M + 2 ≤ 10000) (v : Int) (sets : Bool) {wX : World} (hX : Below w.heap.size w wX) (hL : OpsSl wX x L)
    {S : AS} (hS : S = takeF (fun y => nextF n k (lastF L 0 y)) base (pinsOf o sets) s v) {R : Int} (hR : R = pickF (fun y => nextF n k (lastF L 0 y)) (pinsOf o sets) s) :
    Calls Tryd.prog 63 #[.agg #[.slice x n c, .int .i64 base, .int .i64 (k : Int), .int .i64 g0, .int .i64 g1, .int .i64 g2, .int .i64 g3, .int .i64 g4, .int .i64 g5, .int .i64 g6, .int .i64 g7, vs, vo, .int .i64 s.slots, .int .i64 s.e], .int .i64 v, .bool sets] wX fun e w' => ∃ h0 h1 h2 h3 h4 h5 h6 h7 xs5 n5 cs5 xo5 m5 co5, e = .returned (.tuple #[.agg #[.slice x n c, .int .i64 base, .int .i64 (k : Int), .int .i64 h0, .int .i64 h1, .int .i64 h2, .int .i64 h3, .int .i64 h4, .int .i64 h5, .int .i64 h6, .int .i64 h7, .slice xs5 n5 cs5, .slice xo5 m5 co5, .int .i64 S.slots, .int .i64 S.e], .int .i64 R]) ∧ S.G = [h0, h1, h2, h3, h4, h5, h6, h7] ∧ RowsA w' B (.slice xs5 n5 cs5) (.slice xo5 m5 co5) S.T S.out (M + 1) ∧ wX.grownBy w' vo.ownBlock ∧ AtR wX vs (.slice xs5 n5 cs5) ∧ AtR wX vo (.slice xo5 m5 co5) := by
  have e := as_eta hp h.hG
  have hx := h.below hX
  refine (takeR_any x n c L base g0 g1 g2 g3 g4 g5 g6 g7 s.slots s.e vs vo s.T s.out B M k v sets wX hL hn hn2 hk hx.rows (by have := hx.gr.size; omega) (by rw [← e]; exact hf) hb hm hM S (by rw [ho, ← e]; exact hS) R (by rw [ho, ← e]; exact hR)).mono ?_
  rintro e w' ⟨h0, h1, h2, h3, h4, h5, h6, h7, vs', vo', rfl, hG, hr, hg, e1, e2⟩
  obtain ⟨xs5, cs5, rfl, _⟩ := own_slice hr.rt
  obtain ⟨xo5, co5, rfl, _⟩ := own_slice hr.ro
  exact ⟨h0, h1, h2, h3, h4, h5, h6, h7, xs5, _, cs5, xo5, _, co5, rfl, hG, hr, hg, e1, e2⟩
theorem StA.ops {w : World} (h : StA w0 B M x n c base k vs0 vo0 o q s g0 g1 g2 g3 g4 g5 g6 g7 vs vo w) (hL : OpsSl w0 x L) (hx : ∀ b o, x = some ⟨b, o, none⟩ → some b ≠ vo0.ownBlock) : OpsSl w x L := hL.grow h.gr hx
theorem whereG_at (h : StA w0 B M x n c base k vs0 vo0 o q s g0 g1 g2 g3 g4 g5 g6 g7 vs vo w) (v : Int) {wX : World} (hX : Below w.heap.size w wX) :
    Calls Tryd.prog 62 #[.slice (some ⟨w0.heap.size, 3, none⟩) 8 8, .int .i64 v] wX fun e w' => e = .returned (.int .i64 (idxV s.G v 0)) ∧ w' = wX := by
  have := (h.below hX).k5
  rw [h.hG]
  exact whereR_any (some ⟨w0.heap.size, 3, none⟩) 8 8 [g0, g1, g2, g3, g4, g5, g6, g7] v wX (.inr ⟨w0.heap.size, 3, rfl, boxA_regs this⟩) rfl (by omega)
theorem Calls.same_below {P : Program} {f : FuncId} {args : Array Value} {w : World} {v : Value} (h : Calls P f args w fun e w' => e = .returned v ∧ w' = w) : Calls P f args w fun e w' => e = .returned v ∧ Below w.heap.size w w' :=
  h.mono fun _ _ ⟨he, hw⟩ => ⟨he, by rw [hw]; exact Below.refl _ _⟩
end
theorem some_le {a b : Nat} {r : Option Nat} (h : a ≤ b) : ∀ j, some b = some j → some j = r ∨ a ≤ j := fun j e => .inr (by injection e with e; omega)
theorem StA.boxed {w0 : World} {B N : Nat} {x : Option Addr} {n c : Nat} {base pos : Int} {vs0 vo0 : Value} {o q : Op8} {s : AS} {g0 g1 g2 g3 g4 g5 g6 g7 : Int} {vs vo : Value} {w : World} (h : StA w0 B N x n c base pos vs0 vo0 o q s g0 g1 g2 g3 g4 g5 g6 g7 vs vo w)
    {wX w5 wY : World} (hX : Below w.heap.size w wX) {s1 : AS} {h0 h1 h2 h3 h4 h5 h6 h7 : Int} {vs' vo' : Value} {M : Nat} (hG : s1.G = [h0, h1, h2, h3, h4, h5, h6, h7]) (hr : RowsA w5 B vs' vo' s1.T s1.out M) (hg : wX.grownBy w5 vo.ownBlock) (e1 : AtR wX vs vs') (e2 : AtR wX vo vo')
    (hY : Below w5.heap.size w5 wY) {b6 : Nat} {o0 o1 o2 o3 o4 o5 o6 o7 o8 o9 o10 o11 o12 o13 o14 : Value} (hb : wY.heap[b6]? = some (.cells #[o0, o1, o2, o3, o4, o5, o6, o7, o8, o9, o10, o11, o12, o13, o14] 86 (0, 0))) (hle : w.heap.size ≤ b6) (hof : ∀ v : Value, v = vs' ∨ v = vo' → v.ownBlock = none ∨ v.ownBlock ≠ some b6) :
    TkA w0 B M x n c base pos vs0 vo0 o q s1 b6 h0 h1 h2 h3 h4 h5 h6 h7 vs' vo' #[.slice x n c, .int .i64 base, .int .i64 pos, .int .i64 g0, .int .i64 g1, .int .i64 g2, .int .i64 g3, .int .i64 g4, .int .i64 g5, .int .i64 g6, .int .i64 g7, vs, vo, .int .i64 s.slots, .int .i64 s.e] (((((((((((((((((((((((((((((wY.setCell ⟨b6, 0, none⟩ (.slice x n c))).setCell ⟨b6, 1, none⟩ (.int .i64 base))).setCell ⟨b6, 2, none⟩ (.int .i64 pos))).setCell ⟨b6, 3, none⟩ (.int .i64 h0))).setCell ⟨b6, 4, none⟩ (.int .i64 h1))).setCell ⟨b6, 5, none⟩ (.int .i64 h2))).setCell ⟨b6, 6, none⟩ (.int .i64 h3))).setCell ⟨b6, 7, none⟩ (.int .i64 h4))).setCell ⟨b6, 8, none⟩ (.int .i64 h5))).setCell ⟨b6, 9, none⟩ (.int .i64 h6))).setCell ⟨b6, 10, none⟩ (.int .i64 h7))).setCell ⟨b6, 11, none⟩ vs')).setCell ⟨b6, 12, none⟩ vo')).setCell ⟨b6, 13, none⟩ (.int .i64 s1.slots))).setCell ⟨b6, 14, none⟩ (.int .i64 s1.e)) := by
  obtain ⟨k, g⟩ := putA_all hb x n c base pos h0 h1 h2 h3 h4 h5 h6 h7 s1.slots s1.e vs' vo'
  have e1' : AtR w vs vs' := e1.imp id (fun e => e.imp id (fun ⟨g, e, hg⟩ => ⟨g, e, Nat.le_trans hX.size hg⟩))
  have e2' : AtR w vo vo' := e2.imp id (fun e => e.imp id (fun ⟨g, e, hg⟩ => ⟨g, e, Nat.le_trans hX.size hg⟩))
  have hg5 : w.grownBy w5 vo.ownBlock := grown_row (below_grown hX) hg (fun j e => .inl e.symm)
  exact h.taken hG ((hr.below hY).off g (hof _ (.inl rfl)) (hof _ (.inr rfl))) (grown_row (grown_then hg5 hY) g (fun j e => .inr (by injection e with e; omega))) e1' e2' k
theorem StA.pushO {w0 : World} {B N : Nat} {x : Option Addr} {n c : Nat} {base pos : Int} {vs0 vo0 : Value} {o q : Op8} {s : AS} {g0 g1 g2 g3 g4 g5 g6 g7 : Int} {vs vo : Value} {w : World} (h : StA w0 B N x n c base pos vs0 vo0 o q s g0 g1 g2 g3 g4 g5 g6 g7 vs vo w) {w' : World} {vo' : Value} {O' : List Op8} (hro : w'.ownsRow B 38 8 vo' O'.length (outC O')) (hg : w.grownBy w' vo.ownBlock) (hat : vo'.ownBlock = vo.ownBlock ∨ ∃ g, vo'.ownBlock = some g ∧ w.heap.size ≤ g) {M : Nat} (hN : O'.length ≤ M) (hM : N ≤ M) :
    w'.heap[w0.heap.size]? = some (.cells #[.slice x n c, .int .i64 base, .int .i64 pos, .int .i64 g0, .int .i64 g1, .int .i64 g2, .int .i64 g3, .int .i64 g4, .int .i64 g5, .int .i64 g6, .int .i64 g7, vs, vo, .int .i64 s.slots, .int .i64 s.e] 86 (0, 0)) ∧ StA w0 B M x n c base pos vs0 vo0 o q { s with out := O' } g0 g1 g2 g3 g4 g5 g6 g7 vs vo' (w'.setCell ⟨w0.heap.size, 12, none⟩ vo') := by
  have hat' : AtR w vo vo' := hat.imp id .inr
  have hsz := h.size
  have o2' := h.o2.at hat' hsz
  have k5 := h.o2.blk hg (Nat.le_refl _) (by omega) h.k5
  have k6 := h.o2.blk hg (by omega) (by omega) h.k6
  have kO := h.o2.blk hg (by omega) (by omega) h.kO
  have kN := h.o2.blk hg (by omega) (by omega) h.kN
  have g2 := setCell_grown w' w0.heap.size 12 vo'
  have hrt := h.rows.rt.kept hg h.rows.sp
  refine ⟨k5, ⟨h.hG, setCell_heap k5 12 vo', (g2.block _ (lt_of_block k6) (by simp)).trans k6, (g2.block _ (lt_of_block kO) (by simp)).trans kO, (g2.block _ (lt_of_block kN) (by simp)).trans kN,
    ⟨hrt.kept g2 (h.o1.ne (Nat.le_refl _) (by omega)), hro.kept g2 (o2'.ne (Nat.le_refl _) (by omega)), ?_, Nat.le_trans h.rows.tn hM, hN⟩, grown_row (grown_row2 h.gr h.a2 hg) g2 (fun j e => .inr (by injection e with e; omega)), h.a1, h.a2.trans hat' h.gr.size, h.o1, o2'⟩⟩
  cases hv : vs.ownBlock with
  | none => exact .inl hv
  | some a =>
    refine .inr ?_
    rcases hat with e2 | ⟨g, e2, hg2⟩
    · rw [e2]
      rcases h.rows.sp with h0 | h0
      · rw [hv] at h0; cases h0
      · exact h0
    · rw [e2, hv]
      intro e; injection e with e
      have := (h.rows.rt.lt a hv).2; omega
theorem StA.grow {w0 : World} {B N : Nat} {x : Option Addr} {n c : Nat} {base pos : Int} {vs0 vo0 : Value} {o q : Op8} {s : AS} {g0 g1 g2 g3 g4 g5 g6 g7 : Int} {vs vo : Value} {w : World} (h : StA w0 B N x n c base pos vs0 vo0 o q s g0 g1 g2 g3 g4 g5 g6 g7 vs vo w) {w' : World} {r : Option Nat} (hg : w.grownBy w' r) (h1 : vs.ownBlock = none ∨ vs.ownBlock ≠ r) (h2 : vo.ownBlock = none ∨ vo.ownBlock ≠ r) (h3 : ∀ j, r = some j → w0.heap.size + 4 ≤ j) :
    StA w0 B N x n c base pos vs0 vo0 o q s g0 g1 g2 g3 g4 g5 g6 g7 vs vo w' := by
  have hb : ∀ (b : Nat) (ob : Obj), b < w0.heap.size + 4 → w.heap[b]? = some ob → w'.heap[b]? = some ob := fun b ob hl hk =>
    (hg.block _ (by rcases Nat.lt_or_ge b w.heap.size with h | h; exact h; rw [Array.getElem?_eq_none h] at hk; cases hk) (fun e => by have := h3 b e.symm; omega)).trans hk
  exact ⟨h.hG, hb _ _ (by omega) h.k5, hb _ _ (by omega) h.k6, hb _ _ (by omega) h.kO, hb _ _ (by omega) h.kN, h.rows.off hg h1 h2, grown_row h.gr hg (fun j e => .inr (by have := h3 j e; omega)), h.a1, h.a2, h.o1, h.o2⟩
/-- A new row of slots. -/
theorem StA.newT {w0 : World} {B N : Nat} {x : Option Addr} {n c : Nat} {base pos : Int} {vs0 vo0 : Value} {o q : Op8} {s : AS} {g0 g1 g2 g3 g4 g5 g6 g7 : Int} {vs vo : Value} {w : World} (h : StA w0 B N x n c base pos vs0 vo0 o q s g0 g1 g2 g3 g4 g5 g6 g7 vs vo w) {vs' : Value} {T' : List Int} {Bz : Nat} (hz : w0.heap.size + 4 ≤ Bz) (hB : B ≤ Bz) (hown : w.ownsRow Bz 3 1 vs' T'.length (iCells T')) (ho : ∀ j, vo.ownBlock = some j → j < Bz) (hN : T'.length ≤ N) :
    StA w0 B N x n c base pos vs0 vo0 o q { s with T := T' } g0 g1 g2 g3 g4 g5 g6 g7 vs' vo (w.setCell ⟨w0.heap.size, 11, none⟩ vs') := by
  have hlt : ∀ j, vs'.ownBlock = some j → Bz ≤ j := fun j e => (hown.lt j e).1
  refine h.own (setCell_grown _ _ _ _) h.hG (setCell_heap h.k5 11 _) ⟨?_, ?_, ?_, hN, h.rows.on⟩ ?_ h.a2 (fun j e => .inr (by have := hlt j e; omega)) h.o2
  · exact (own_weaken hown hB).kept (setCell_grown _ _ _ _) (off_of fun j e => by have := hlt j e; omega)
  · exact h.rows.ro.kept (setCell_grown _ _ _ _) (h.o2.ne (Nat.le_refl _) (by omega))
  · cases hv : vs'.ownBlock with
    | none => exact .inl hv
    | some a =>
      refine .inr ?_
      rw [hv]
      intro e
      have := ho a e.symm
      have := hlt a hv
      omega
  · cases hv : vs'.ownBlock with
    | none => exact .inr (.inl hv)
    | some a => exact .inr (.inr ⟨a, hv, by have := hlt a hv; omega⟩)
theorem StA.kO' {w0 : World} {B M : Nat} {x : Option Addr} {n c : Nat} {base pos : Int} {vs0 vo0 : Value} {o q : Op8} {s : AS} {g0 g1 g2 g3 g4 g5 g6 g7 : Int} {vs vo : Value} {w : World} (h : StA w0 B M x n c base pos vs0 vo0 o q s g0 g1 g2 g3 g4 g5 g6 g7 vs vo w) {b2 : Nat} (hb : b2 = w0.heap.size + 2) :
    b2 < w.heap.size ∧ w.heap[b2]? = some (.cells #[.int .i64 o.K, .int .i64 o.t0, .int .i64 o.t1, .int .i64 o.f0, .int .i64 o.f1, .int .i64 o.f2, .int .i64 o.f3, .int .u32 o.N] 38 (0, 0)) := by subst hb; exact ⟨lt_of_block h.kO, h.kO⟩
theorem StA.kN' {w0 : World} {B M : Nat} {x : Option Addr} {n c : Nat} {base pos : Int} {vs0 vo0 : Value} {o q : Op8} {s : AS} {g0 g1 g2 g3 g4 g5 g6 g7 : Int} {vs vo : Value} {w : World} (h : StA w0 B M x n c base pos vs0 vo0 o q s g0 g1 g2 g3 g4 g5 g6 g7 vs vo w) {b3 : Nat} (hb : b3 = w0.heap.size + 3) :
    b3 < w.heap.size ∧ w.heap[b3]? = some (.cells #[.int .i64 q.K, .int .i64 q.t0, .int .i64 q.t1, .int .i64 q.f0, .int .i64 q.f1, .int .i64 q.f2, .int .i64 q.f3, .int .u32 q.N] 38 (0, 0)) := by subst hb; exact ⟨lt_of_block h.kN, h.kN⟩
theorem blkO_from {w : World} {b : Nat} {o : Op8} {t : TypeId} (h : w.heap[b]? = some (.cells #[.int .i64 o.K, .int .i64 o.t0, .int .i64 o.t1, .int .i64 o.f0, .int .i64 o.f1, .int .i64 o.f2, .int .i64 o.f3, .int .u32 o.N] t (0, 0))) (j : Nat) (hj : j < [o.f0, o.f1, o.f2, o.f3].length) : w.cell? ⟨b, 3 + j, none⟩ = some (.int .i64 [o.f0, o.f1, o.f2, o.f3][j]) := by
  obtain ⟨y0, y1, y2, y3, y4, y5, y6, y7⟩ := blk8_cells h
  match j, hj with
  | 0, _ => exact y3
  | 1, _ => exact y4
  | 2, _ => exact y5
  | 3, _ => exact y6
theorem blkO_to {w : World} {b : Nat} {o : Op8} {t : TypeId} (h : w.heap[b]? = some (.cells #[.int .i64 o.K, .int .i64 o.t0, .int .i64 o.t1, .int .i64 o.f0, .int .i64 o.f1, .int .i64 o.f2, .int .i64 o.f3, .int .u32 o.N] t (0, 0))) (j : Nat) (hj : j < [o.t0, o.t1].length) : w.cell? ⟨b, 1 + j, none⟩ = some (.int .i64 [o.t0, o.t1][j]) := by
  obtain ⟨y0, y1, y2, y3, y4, y5, y6, y7⟩ := blk8_cells h
  match j, hj with
  | 0, _ => exact y1
  | 1, _ => exact y2
theorem alloc4 (w : World) (a b c d : Obj) : Below w.heap.size w ((((w.alloc a).alloc b).alloc c).alloc d) ∧ ((((w.alloc a).alloc b).alloc c).alloc d).heap[w.heap.size]? = some a ∧ ((((w.alloc a).alloc b).alloc c).alloc d).heap[w.heap.size + 1]? = some b ∧ ((((w.alloc a).alloc b).alloc c).alloc d).heap[w.heap.size + 2]? = some c ∧ ((((w.alloc a).alloc b).alloc c).alloc d).heap[w.heap.size + 3]? = some d := by
  obtain ⟨h1, h2, h3, h4, h5⟩ := alloc3 w a b c
  generalize ((w.alloc a).alloc b).alloc c = w3 at *
  have hd : Below w3.heap.size w3 (w3.alloc d) := (Below.refl _ _).alloc (Nat.le_refl _) _
  have hl : w3.heap.size = w.heap.size + 3 := h5
  refine ⟨h1.trans (hd.mono h1.size), ?_, ?_, ?_, ?_⟩
  · rw [Below.heap_alloc _ _ _ (by omega)]; exact h2
  · rw [Below.heap_alloc _ _ _ (by omega)]; exact h3
  · rw [Below.heap_alloc _ _ _ (by omega)]; exact h4
  · rw [← hl]; exact heap_alloc_last w3 d
end Go.Proofs.YtmkencdkglbpbaaDoor
