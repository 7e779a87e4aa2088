/- The document's take: its rows and boxes while it spills. -/
import Derived.Test.YtmkencdkglbpbaaDoorRfA
import Derived.Deep.QuietTactic
import Derived.BigQuiet
import Derived.Deep.DeepCutAuto
set_option maxRecDepth 100000
set_option linter.unusedVariables false
namespace Go.Proofs.YtmkencdkglbpbaaDoor
open Go.RowKit Go.Maps

/-- A world behind w: what w held is as it was. -/
structure BW (w : World) where
  val : World
  prop : Below w.heap.size w val
instance bwNonempty (w : World) : Nonempty (BW w) := ⟨⟨w, Below.refl _ w⟩⟩
theorem Calls.bw_of {P : Program} {f : FuncId} {args : Array Value} {w : World} {x : BW w} {v : Value} (h : Calls P f args x.val fun e w' => e = .returned v ∧ Below x.val.heap.size x.val w') : Calls P f args x.val fun e w'' => e = .returned v ∧ ∃ y : BW w, w'' = y.val :=
  h.mono fun _ _ ⟨he, hb⟩ => ⟨he, ⟨_, x.prop.trans (hb.mono x.prop.size)⟩, rfl⟩
/-- A region that draws its order, whose operations only read and whose calls only make memory: one walk serves every order. -/
theorem wp_region_bw {P : Program} {id : Nat} {Q : Exit → Act → World → Prop} {a : Act} {w : World} {l : List Oper} (hm : P.follows .mixedOrders = true) (hB : Region.lexB .any l.toArray = true)
    (h : wpQuiet P l.toArray (fun w' => ∃ x : BW w, w' = x.val) (fun a' => ∀ w', (∃ x : BW w, w' = x.val) → Q .normal a' w') l a) : (Code.region id l.toArray true).wp P Q a w :=
  wp_region_quiet (C := fun w' => ∃ x : BW w, w' = x.val) hm hB ⟨⟨_, (Below.refl _ w).drew⟩, rfl⟩ (by simpa using h)
/-- The document's rows in memory: whose the slots are, and what was put out. -/
structure RowsA (w : World) (B : Nat) (vs vo : Value) (T : List Int) (O : List Op8) (N : Nat) : Prop where
  rt : w.ownsRow B 3 1 vs T.length (iCells T)
  ro : w.ownsRow B 38 8 vo O.length (outC O)
  sp : Sep vs vo
  tn : T.length ≤ N
  on : O.length ≤ N
/-- A row is where it was, or new. -/
def AtR (w : World) (v v' : Value) : Prop := v'.ownBlock = v.ownBlock ∨ v'.ownBlock = none ∨ ∃ g, v'.ownBlock = some g ∧ w.heap.size ≤ g
theorem RowsA.below {w w' : World} {B : Nat} {vs vo : Value} {T : List Int} {O : List Op8} {N : Nat} (h : RowsA w B vs vo T O N) (hb : Below w.heap.size w w') : RowsA w' B vs vo T O N :=
  ⟨ownsRow_below h.rt hb, ownsRow_below h.ro hb, h.sp, h.tn, h.on⟩
theorem RowsA.mono {w : World} {B : Nat} {vs vo : Value} {T : List Int} {O : List Op8} {N M : Nat} (h : RowsA w B vs vo T O N) (hm : N ≤ M) : RowsA w B vs vo T O M :=
  ⟨h.rt, h.ro, h.sp, Nat.le_trans h.tn hm, Nat.le_trans h.on hm⟩
theorem RowsA.off {w w' : World} {B : Nat} {vs vo : Value} {T : List Int} {O : List Op8} {N : Nat} (h : RowsA w B vs vo T O N) {r : Option Nat} (hg : w.grownBy w' r) (h1 : vs.ownBlock = none ∨ vs.ownBlock ≠ r) (h2 : vo.ownBlock = none ∨ vo.ownBlock ≠ r) : RowsA w' B vs vo T O N :=
  ⟨h.rt.kept hg h1, h.ro.kept hg h2, h.sp, h.tn, h.on⟩
theorem once_idx {G : List Int} (h : Once G) (i : Nat) (hi : i < G.length) (hne : G[i] ≠ -1) : idxV G G[i] 0 = i := by
  have hb := idxV_bd G G[i] 0
  have h0 := (idxV_mem G G[i] 0).2 (List.getElem_mem hi)
  obtain ⟨j, hj⟩ := Int.eq_ofNat_of_zero_le h0
  have hjl : j < G.length := by omega
  have hat := idxV_at G G[i] 0 j hjl (by omega)
  unfold Once at h
  rw [List.pairwise_iff_getElem] at h
  rcases Nat.lt_trichotomy i j with hc | hc | hc
  · rcases h i j hi hjl hc with e | e
    · exact absurd e hne
    · exact absurd hat.symm e
  · omega
  · rcases h j i hjl hi hc with e | e
    · rw [hat] at e; exact absurd e hne
    · exact absurd hat e
theorem pins_len (o : Op8) (sets : Bool) : (pinsOf o sets).length ≤ 6 := by
  have h1 := regsOf_le4 o.f0 o.f1 o.f2 o.f3
  have h2 := regsOf_le2 o.t0 o.t1
  unfold pinsOf
  rw [List.length_append]
  cases sets <;> simp <;> omega
/-- The document's spilling. -/
theorem takeF_spill {nx : Int → Int} {base : Int} {pins : List Int} {s : AS} {v : Int} {r : Nat} (hf : Fine s) (h : idxV s.G (-1) 0 < 0) (hr : r < s.G.length) (hp : pickF nx pins s = r) :
    takeF nx base pins s v = if s.T.contains s.G[r] then { s with G := s.G.set r v } else { s with G := s.G.set r v, T := (if idxV s.T (-1) 0 < 0 then s.T ++ [-1] else s.T).set (slotOf s).toNat s.G[r], slots := max s.slots (slotOf s + 1), e := (if base + 4 * slotOf s > 1020 then 160 else s.e), out := s.out ++ [⟨3, -1, -1, r, -1, -1, -1, base + 4 * slotOf s⟩] } := by
  have hm : (-1 : Int) ∉ s.G := fun e => by have := (idxV_mem s.G (-1) 0).2 e; omega
  have hne : s.G[r] ≠ -1 := fun e => hm (e ▸ List.getElem_mem hr)
  have hgd : s.G.getD r 0 = s.G[r] := by rw [List.getD_eq_getElem?_getD, List.getElem?_eq_getElem hr]; rfl
  unfold takeF
  rw [if_pos h, hp, Int.toNat_natCast, hgd]
  unfold spillF
  by_cases hc : s.T.contains s.G[r] = true
  · rw [if_pos hc, if_pos hc]
  · rw [if_neg hc, if_neg hc, once_idx hf.gO r hr hne]
theorem ownsRow_set {w : World} {B g : Nat} {v : Value} {T : List Int} (h : w.ownsRow B 3 1 v T.length (iCells T)) (hv : v.ownBlock = some g) (i : Nat) (u : Int) : (w.setCell ⟨g, i, none⟩ (.int .i64 u)).ownsRow B 3 1 v (T.set i u).length (iCells (T.set i u)) := by
  obtain ⟨r1, r2⟩ := h
  refine ⟨by simp [iCells], ?_⟩
  rcases r2 with ⟨rfl, h0⟩ | ⟨g', cap, cur, rfl, hg, hh, hc, hc2, hcs, htk⟩
  · simp [Value.ownBlock] at hv
  · simp [Value.ownBlock] at hv
    subst hv
    refine .inr ⟨g', cap, cur.setIfInBounds i (.int .i64 u), by simp, hg, setCell_heap hh i _, by simpa using hc, hc2, by simpa using hcs, ?_⟩
    simp only [Array.toList_setIfInBounds, List.length_set, iCells, List.map_set] at htk ⊢
    rw [List.take_set, htk]
theorem own_new {w : World} {B : Nat} {e : TypeId} {size : Nat} {v : Value} {n : Nat} {xs : List Value} (h : w.ownsRow B e size v n xs) {b : Nat} (hb : w.heap.size ≤ b) : v.ownBlock = none ∨ v.ownBlock ≠ some b := by
  cases hv : v.ownBlock with
  | none => exact .inl rfl
  | some g => exact .inr (fun e => by injection e with e; have := (h.lt g hv).2; omega)
theorem own_block {w : World} {B : Nat} {e : TypeId} {size n c m : Nat} {x : Option Addr} {xs : List Value} (h : w.ownsRow B e size (.slice x n c) m xs) (hm : 0 < m) : ∃ g, x = some ⟨g, 0, none⟩ ∧ B ≤ g ∧ g < w.heap.size := by
  rcases h.2 with ⟨_, h0⟩ | ⟨g, cap, cur, hv, hg, hh, hc, _⟩
  · omega
  · injection hv with hv
    exact ⟨g, hv, hg, lt_of_block hh⟩

/-- The document's take while it spills: its two boxes and the rows. -/
structure SpA (w0 : World) (B N : Nat) (x : Option Addr) (n c : Nat) (base pos g0 g1 g2 g3 g4 g5 g6 g7 m er : Int) (vs vo vs0 vo0 : Value) (T : List Int) (O : List Op8) (w : World) : Prop where
  k5 : w.heap[w0.heap.size]? = some (.cells #[.slice x n c, .int .i64 base, .int .i64 pos, .int .i64 g0, .int .i64 g1, .int .i64 g2, .int .i64 g3, .int .i64 g4, .int .i64 g5, .int .i64 g6, .int .i64 g7, vs, vo, .int .i64 m, .int .i64 er] 86 (0, 0))
  k6 : w.heap[w0.heap.size + 1]? = some (.cells #[.slice none 0 0, .int .i64 0, .int .i64 0, .int .i64 0, .int .i64 0, .int .i64 0, .int .i64 0, .int .i64 0, .int .i64 0, .int .i64 0, .int .i64 0, .slice none 0 0, .slice none 0 0, .int .i64 0, .int .i64 0] 86 (0, 0))
  rows : RowsA w B vs vo T O N
  gr : w0.grownBy w vo0.ownBlock
  a1 : AtR w0 vs0 vs
  a2 : AtR w0 vo0 vo
  o1 : ∀ j, vs.ownBlock = some j → j ≠ w0.heap.size ∧ j ≠ w0.heap.size + 1
  o2 : ∀ j, vo.ownBlock = some j → j ≠ w0.heap.size ∧ j ≠ w0.heap.size + 1
theorem off_of {v : Value} {b : Nat} (h : ∀ j, v.ownBlock = some j → j ≠ b) : v.ownBlock = none ∨ v.ownBlock ≠ some b := by
  cases hv : v.ownBlock with
  | none => exact .inl rfl
  | some j => exact .inr (fun e => by injection e with e; exact h j hv e)
section
variable {w0 : World} {B N : Nat} {x : Option Addr} {n c : Nat} {base pos g0 g1 g2 g3 g4 g5 g6 g7 m er : Int} {vs vo vs0 vo0 : Value} {T : List Int} {O : List Op8} {w : World}
theorem SpA.grow (h : SpA w0 B N x n c base pos g0 g1 g2 g3 g4 g5 g6 g7 m er vs vo vs0 vo0 T O w) {w' : World} {r : Option Nat} (hg : w.grownBy w' r) (h1 : vs.ownBlock = none ∨ vs.ownBlock ≠ r) (h2 : vo.ownBlock = none ∨ vo.ownBlock ≠ r) (h3 : ∀ j, r = some j → w0.heap.size + 2 ≤ j) : SpA w0 B N x n c base pos g0 g1 g2 g3 g4 g5 g6 g7 m er vs vo vs0 vo0 T O w' :=
  ⟨(hg.block _ (lt_of_block h.k5) (fun e => by have := h3 _ e.symm; omega)).trans h.k5, (hg.block _ (lt_of_block h.k6) (fun e => by have := h3 _ e.symm; omega)).trans h.k6, h.rows.off hg h1 h2, grown_row h.gr hg (fun j e => .inr (by have := h3 j e; omega)), h.a1, h.a2, h.o1, h.o2⟩
theorem SpA.own (h : SpA w0 B N x n c base pos g0 g1 g2 g3 g4 g5 g6 g7 m er vs vo vs0 vo0 T O w) {w' : World} (hg : w.grownBy w' (some w0.heap.size)) {h0 h1 h2 h3 h4 h5 h6 h7 m' er' : Int} {vs' vo' : Value} {T' : List Int} {O' : List Op8} {N' : Nat} (hk : w'.heap[w0.heap.size]? = some (.cells #[.slice x n c, .int .i64 base, .int .i64 pos, .int .i64 h0, .int .i64 h1, .int .i64 h2, .int .i64 h3, .int .i64 h4, .int .i64 h5, .int .i64 h6, .int .i64 h7, vs', vo', .int .i64 m', .int .i64 er'] 86 (0, 0))) (hr : RowsA w' B vs' vo' T' O' N') (a1 : AtR w0 vs0 vs') (a2 : AtR w0 vo0 vo')
    (o1 : ∀ j, vs'.ownBlock = some j → j ≠ w0.heap.size ∧ j ≠ w0.heap.size + 1) (o2 : ∀ j, vo'.ownBlock = some j → j ≠ w0.heap.size ∧ j ≠ w0.heap.size + 1) : SpA w0 B N' x n c base pos h0 h1 h2 h3 h4 h5 h6 h7 m' er' vs' vo' vs0 vo0 T' O' w' :=
  ⟨hk, (hg.block _ (lt_of_block h.k6) (by simp)).trans h.k6, hr, grown_row h.gr hg (fun j e => .inr (by injection e with e; omega)), a1, a2, o1, o2⟩
theorem SpA.offA (h : SpA w0 B N x n c base pos g0 g1 g2 g3 g4 g5 g6 g7 m er vs vo vs0 vo0 T O w) : (vs.ownBlock = none ∨ vs.ownBlock ≠ some w0.heap.size) ∧ (vo.ownBlock = none ∨ vo.ownBlock ≠ some w0.heap.size) :=
  ⟨off_of fun j e => (h.o1 j e).1, off_of fun j e => (h.o2 j e).1⟩
theorem SpA.cell (h : SpA w0 B N x n c base pos g0 g1 g2 g3 g4 g5 g6 g7 m er vs vo vs0 vo0 T O w) (i : Nat) (u : Value) {h0 h1 h2 h3 h4 h5 h6 h7 m' er' : Int} (hk : (w.setCell ⟨w0.heap.size, i, none⟩ u).heap[w0.heap.size]? = some (.cells #[.slice x n c, .int .i64 base, .int .i64 pos, .int .i64 h0, .int .i64 h1, .int .i64 h2, .int .i64 h3, .int .i64 h4, .int .i64 h5, .int .i64 h6, .int .i64 h7, vs, vo, .int .i64 m', .int .i64 er'] 86 (0, 0))) : SpA w0 B N x n c base pos h0 h1 h2 h3 h4 h5 h6 h7 m' er' vs vo vs0 vo0 T O (w.setCell ⟨w0.heap.size, i, none⟩ u) :=
  h.own (setCell_grown w w0.heap.size i u) hk (h.rows.off (setCell_grown w w0.heap.size i u) h.offA.1 h.offA.2) h.a1 h.a2 h.o1 h.o2
theorem SpA.setM (h : SpA w0 B N x n c base pos g0 g1 g2 g3 g4 g5 g6 g7 m er vs vo vs0 vo0 T O w) (m' : Int) : SpA w0 B N x n c base pos g0 g1 g2 g3 g4 g5 g6 g7 m' er vs vo vs0 vo0 T O (w.setCell ⟨w0.heap.size, 13, none⟩ (.int .i64 m')) :=
  h.cell 13 _ (setCell_heap h.k5 13 (.int .i64 m'))
theorem SpA.setE (h : SpA w0 B N x n c base pos g0 g1 g2 g3 g4 g5 g6 g7 m er vs vo vs0 vo0 T O w) (e' : Int) : SpA w0 B N x n c base pos g0 g1 g2 g3 g4 g5 g6 g7 m e' vs vo vs0 vo0 T O (w.setCell ⟨w0.heap.size, 14, none⟩ (.int .i64 e')) :=
  h.cell 14 _ (setCell_heap h.k5 14 (.int .i64 e'))
theorem SpA.setG (h : SpA w0 B N x n c base pos g0 g1 g2 g3 g4 g5 g6 g7 m er vs vo vs0 vo0 T O w) (r : Nat) (hr : r < 8) (v : Int) :
    ∃ h0 h1 h2 h3 h4 h5 h6 h7 : Int, [g0, g1, g2, g3, g4, g5, g6, g7].set r v = [h0, h1, h2, h3, h4, h5, h6, h7] ∧ SpA w0 B N x n c base pos h0 h1 h2 h3 h4 h5 h6 h7 m er vs vo vs0 vo0 T O (w.setCell ⟨w0.heap.size, 3 + r, none⟩ (.int .i64 v)) := by
  obtain ⟨h0, h1, h2, h3, h4, h5, h6, h7, hset, k7⟩ := boxA_setG h.k5 r hr v
  exact ⟨h0, h1, h2, h3, h4, h5, h6, h7, hset, h.cell (3 + r) _ k7⟩
theorem SpA.mono (h : SpA w0 B N x n c base pos g0 g1 g2 g3 g4 g5 g6 g7 m er vs vo vs0 vo0 T O w) {N' : Nat} (hN : N ≤ N') : SpA w0 B N' x n c base pos g0 g1 g2 g3 g4 g5 g6 g7 m er vs vo vs0 vo0 T O w :=
  ⟨h.k5, h.k6, h.rows.mono hN, h.gr, h.a1, h.a2, h.o1, h.o2⟩
theorem SpA.below (h : SpA w0 B N x n c base pos g0 g1 g2 g3 g4 g5 g6 g7 m er vs vo vs0 vo0 T O w) {w' : World} (hb : Below w.heap.size w w') : SpA w0 B N x n c base pos g0 g1 g2 g3 g4 g5 g6 g7 m er vs vo vs0 vo0 T O w' :=
  h.grow (r := none) (below_grown hb) (by cases vs.ownBlock <;> simp) (by cases vo.ownBlock <;> simp) (fun j e => by cases e)
theorem own_weaken {w : World} {B B' : Nat} {e : TypeId} {size : Nat} {v : Value} {n : Nat} {xs : List Value} (h : w.ownsRow B e size v n xs) (hB : B' ≤ B) : w.ownsRow B' e size v n xs := by
  obtain ⟨h1, h2⟩ := h
  refine ⟨h1, ?_⟩
  rcases h2 with h2 | ⟨g, cap, cur, hv, hg, h3⟩
  · exact .inl h2
  · exact .inr ⟨g, cap, cur, hv, Nat.le_trans hB hg, h3⟩
/-- The new row of slots, with one more in it, is laid into the books. -/
theorem SpA.slots (h : SpA w0 B N x n c base pos g0 g1 g2 g3 g4 g5 g6 g7 m er vs vo vs0 vo0 T O w) {Bz g : Nat} {cl : Nat} {T1 : List Int} (hz : w0.heap.size + 2 ≤ Bz) (hB : B ≤ Bz) (hown : w.ownsRow Bz 3 1 (.slice (some ⟨g, 0, none⟩) T1.length cl) T1.length (iCells T1)) (ho : ∀ j, vo.ownBlock = some j → j < Bz) (hs : ∀ j, vs.ownBlock = some j → j < Bz) (K : Nat) (X : Int) (hN : T1.length ≤ N + 1) :
    SpA w0 B (N + 1) x n c base pos g0 g1 g2 g3 g4 g5 g6 g7 m er (.slice (some ⟨g, 0, none⟩) T1.length cl) vo vs0 vo0 (T1.set K X) O ((w.setCell ⟨g, K, none⟩ (.int .i64 X)).setCell ⟨w0.heap.size, 11, none⟩ (.slice (some ⟨g, 0, none⟩) T1.length cl)) := by
  have hvg : (Value.slice (some ⟨g, 0, none⟩) T1.length cl).ownBlock = some g := rfl
  have hg := hown.lt g hvg
  have h1 := (h.mono (Nat.le_succ N)).grow (setCell_grown w g K (.int .i64 X)) (off_of fun j e => by have := hs j e; omega) (off_of fun j e => by have := ho j e; omega) (fun j e => by injection e with e; omega)
  have hr := ownsRow_set hown hvg K X
  have hvo : vo.ownBlock = none ∨ vo.ownBlock ≠ some g := off_of fun j e => by have := ho j e; omega
  rw [show (Value.slice (some ⟨g, 0, none⟩) T1.length cl) = .slice (some ⟨g, 0, none⟩) (T1.set K X).length cl from by rw [List.length_set]] at hr ⊢
  have hvg' : (Value.slice (some ⟨g, 0, none⟩) (T1.set K X).length cl).ownBlock = some g := rfl
  refine h1.own (setCell_grown _ _ _ _) (setCell_heap h1.k5 11 _) ⟨?_, ?_, ?_, by rw [List.length_set]; exact hN, by have := h.rows.on; omega⟩ (.inr (.inr ⟨g, hvg', by omega⟩)) h.a2 (fun j e => by rw [hvg'] at e; injection e with e; omega) h.o2
  · exact (own_weaken hr hB).kept (setCell_grown _ _ _ _) (off_of fun j e => by rw [hvg'] at e; injection e with e; omega)
  · exact h1.rows.ro.kept (setCell_grown _ _ _ _) h.offA.2
  · refine .inr ?_
    rw [hvg']
    intro e
    rcases hvo with h0 | h0
    · rw [h0] at e; exact absurd e (by simp)
    · exact h0 e.symm
/-- What put leaves, stored into the box. -/
theorem SpA.put (h : SpA w0 B N x n c base pos g0 g1 g2 g3 g4 g5 g6 g7 m er vs vo vs0 vo0 T O w) {w' : World} {vo' : Value} {O' : List Op8} (hro : w'.ownsRow B 38 8 vo' O'.length (outC O')) (hg : w.grownBy w' vo.ownBlock) (hat : vo'.ownBlock = vo.ownBlock ∨ ∃ g, vo'.ownBlock = some g ∧ w.heap.size ≤ g) (hN : O'.length ≤ N) :
    w'.heap[w0.heap.size]? = some (.cells #[.slice x n c, .int .i64 base, .int .i64 pos, .int .i64 g0, .int .i64 g1, .int .i64 g2, .int .i64 g3, .int .i64 g4, .int .i64 g5, .int .i64 g6, .int .i64 g7, vs, vo, .int .i64 m, .int .i64 er] 86 (0, 0)) ∧ SpA w0 B N x n c base pos g0 g1 g2 g3 g4 g5 g6 g7 m er vs vo' vs0 vo0 T O' (w'.setRow w0.heap.size #[.slice x n c, .int .i64 base, .int .i64 pos, .int .i64 g0, .int .i64 g1, .int .i64 g2, .int .i64 g3, .int .i64 g4, .int .i64 g5, .int .i64 g6, .int .i64 g7, vs, vo', .int .i64 m, .int .i64 er]) := by
  have l6 := lt_of_block h.k6
  have k5 := (hg.block _ (lt_of_block h.k5) (fun e => by have := (h.o2 _ e.symm).1; omega)).trans h.k5
  have k6 := (hg.block _ l6 (fun e => by have := (h.o2 _ e.symm).2; omega)).trans h.k6
  have hsz := h.gr.size
  have o2' : ∀ j, vo'.ownBlock = some j → j ≠ w0.heap.size ∧ j ≠ w0.heap.size + 1 := fun j e => by
    rcases hat with e2 | ⟨g, e2, hg2⟩
    · exact h.o2 j (e2 ▸ e)
    · rw [e2] at e; injection e with e; omega
  have g2 := setRow_grown w' w0.heap.size #[.slice x n c, .int .i64 base, .int .i64 pos, .int .i64 g0, .int .i64 g1, .int .i64 g2, .int .i64 g3, .int .i64 g4, .int .i64 g5, .int .i64 g6, .int .i64 g7, vs, vo', .int .i64 m, .int .i64 er]
  have hrt := h.rows.rt.kept hg h.rows.sp
  refine ⟨k5, ⟨setRow_heap w' w0.heap.size _ _ _ _ k5, (g2.block _ (lt_of_block k6) (by simp)).trans k6, ⟨hrt.kept g2 h.offA.1, hro.kept g2 (off_of fun j e => (o2' j e).1), ?_, h.rows.tn, hN⟩, ?_, h.a1, ?_, h.o1, o2'⟩⟩
  · cases hv : vs.ownBlock with
    | none => exact .inl hv
    | some a =>
      refine .inr ?_
      rcases hat with e2 | ⟨g, e2, hg2⟩
      · rw [e2]
        rcases h.rows.sp with h0 | h0
        · rw [hv] at h0; cases h0
        · exact h0
      · rw [e2, hv]
        intro e; injection e with e
        have := (h.rows.rt.lt a hv).2; omega
  · refine grown_row (grown_row h.gr hg (fun j e => ?_)) g2 (fun j e => .inr (by injection e with e; omega))
    rcases h.a2 with e2 | e2 | ⟨g, e2, hg2⟩
    · exact .inl (by rw [← e2]; exact e.symm)
    · rw [e2] at e; cases e
    · rw [e2] at e; injection e with e; exact .inr (by omega)
  · rcases hat with e2 | ⟨g, e2, hg2⟩
    · rcases h.a2 with e3 | e3 | ⟨g, e3, hg3⟩
      · exact .inl (e2.trans e3)
      · exact .inr (.inl (e2.trans e3))
      · exact .inr (.inr ⟨g, e2.trans e3, hg3⟩)
    · exact .inr (.inr ⟨g, e2, by omega⟩)
end
end Go.Proofs.YtmkencdkglbpbaaDoor
