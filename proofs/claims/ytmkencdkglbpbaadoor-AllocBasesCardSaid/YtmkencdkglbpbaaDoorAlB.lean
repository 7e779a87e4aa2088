/- alloc: the allocator's books in memory. -/
import Derived.Test.YtmkencdkglbpbaaDoorAlS
import Derived.Maps.OwnSet
import Derived.Maps.AppendAt
set_option maxRecDepth 100000
set_option linter.unusedVariables false
namespace Go.Proofs.YtmkencdkglbpbaaDoor
open Go.RowKit Go.Maps

/-- What does not change while the allocator works. -/
structure AC where
  w0 : World
  B : Nat
  ab : Nat
  kb : Nat
  mb : Nat
  lx : Option Addr
  ln : Nat
  lc : Nat
  base : Int
  last : Int → List Int
  F : Nat → Prop
  wf : World

/-- Old blocks are as they were, but for the allocator's own and its map of slots. -/
structure Fr (c : AC) (w : World) : Prop where
  os : w.os = c.w0.os
  tape : w.tape = c.w0.tape
  output : w.output = c.w0.output
  size : c.B ≤ w.heap.size
  block : ∀ k, k < c.B → k ≠ c.ab → k ≠ c.mb → w.heap[k]? = c.w0.heap[k]?
theorem Fr.grown {c : AC} {w w' : World} {row : Option Nat} (h : Fr c w) (hg : w.grownBy w' row) (hr : ∀ k, row = some k → c.B ≤ k ∨ k = c.ab ∨ k = c.mb) : Fr c w' :=
  ⟨hg.os.trans h.os, hg.tape.trans h.tape, hg.output.trans h.output, Nat.le_trans h.size hg.size, fun k hk h1 h2 =>
    (hg.block k (Nat.lt_of_lt_of_le hk h.size) (fun e => by rcases hr k e.symm with h | h | h <;> omega)).trans (h.block k hk h1 h2)⟩

structure ACok (c : AC) : Prop where
  ab : c.ab < c.B
  mb : c.mb < c.B
  am : c.ab ≠ c.mb
  ln : c.ln ≤ 100
  base : 0 ≤ c.base ∧ c.base ≤ 1020
  last : ∀ w, Fr c w → ∀ v, -1 ≤ v → v ≤ 65535 → ∃ x n cc, (Instr.lookup 79 (.map (some c.kb)) (.int .i64 v) false).run Tryd.prog w = .ok (.slice x n cc) w ∧ LSl w x (c.last v) ∧ (c.last v).length = n ∧ n ≤ 1000

/-- The allocator's block. -/
def alC (c : AC) (vp vt vo : Value) (s : AS) : List Value :=
  .slice c.lx c.ln c.lc :: .int .i64 c.base :: .int .i64 s.pos :: .map (some c.kb) :: (s.G.map (Value.int .i64) ++ [.map (some c.mb), vt, vp, vo, .int .i64 s.slots, .int .i64 s.e])
def opCellsA (o : Op8) : List Value := [.int .i64 o.K, .int .i64 o.t0, .int .i64 o.t1, .int .i64 o.f0, .int .i64 o.f1, .int .i64 o.f2, .int .i64 o.f3, .int .u32 o.N]
def outC (L : List Op8) : List Value := L.flatMap opCellsA
theorem outC_append (L : List Op8) (o : Op8) : outC (L ++ [o]) = outC L ++ opCellsA o := by simp [outC]

/-- No block is both's. -/
def Sep (v v' : Value) : Prop := v.ownBlock = none ∨ v.ownBlock ≠ v'.ownBlock
theorem Sep.symm {v v' : Value} (h : Sep v v') : Sep v' v := by
  rcases h with h | h
  · cases h' : v'.ownBlock with
    | none => exact .inl h'
    | some g => exact .inr (by rw [h, h']; simp)
  · exact .inr (Ne.symm h)

/-- No register stands twice. -/
def Once (L : List Int) : Prop := L.Pairwise fun a b => a = -1 ∨ a ≠ b

/-- Blocks that the allocator lets be. -/
def OffB (c : AC) (w : World) (vp vt vo : Value) : Prop := ∀ g, c.F g → g ≠ c.ab ∧ g ≠ c.mb ∧ some g ≠ vt.ownBlock ∧ some g ≠ vo.ownBlock ∧ some g ≠ vp.ownBlock ∧ g < w.heap.size ∧ w.heap[g]? = c.wf.heap[g]?
theorem OffB.grown {c : AC} {w w' : World} {vp vt vo : Value} {row : Option Nat} (h : OffB c w vp vt vo) (hg : w.grownBy w' row) (hr : ∀ g, c.F g → some g ≠ row) : OffB c w' vp vt vo := fun g hF => by
  obtain ⟨a, b, d, e, f, l, k⟩ := h g hF
  exact ⟨a, b, d, e, f, Nat.lt_of_lt_of_le l hg.size, (hg.block g l (hr g hF)).trans k⟩

structure AlIn (c : AC) (w : World) (vp vt vo : Value) (Pn : List Int) (q : Nat) (D : DataW Unit) (N : Nat) (s : AS) : Prop where
  fr : Fr c w
  blk : w.heap[c.ab]? = some (.cells (alC c vp vt vo s).toArray 83 (0, 0))
  g8 : s.G.length = 8
  map : w.ownsMap Tryd.prog 3 (plainElem Tryd.prog 3) c.mb q D
  rt : w.ownsRow c.B 3 1 vt s.T.length (iCells s.T)
  rp : w.ownsRow c.B 3 1 vp Pn.length (iCells Pn)
  ro : w.ownsRow c.B 37 8 vo s.out.length (outC s.out)
  tp : Sep vt vp
  tob : Sep vt vo
  po : Sep vp vo
  gb : ∀ x ∈ s.G, -1 ≤ x ∧ x ≤ 65535
  tb : ∀ x ∈ s.T, -1 ≤ x ∧ x ≤ 65535
  pn : Pn.length ≤ 6
  tn : s.T.length ≤ N
  on : s.out.length ≤ N
  qn : q ≤ N
  n : N ≤ 10000
  sl : 0 ≤ s.slots ∧ s.slots ≤ N
  pos : 0 ≤ s.pos ∧ s.pos ≤ 1000
  kf : OffB c w vp vt vo

theorem list8 {G : List Int} (h : G.length = 8) : ∃ a b c d e f g i, G = [a, b, c, d, e, f, g, i] := by
  match G, h with
  | [a, b, c, d, e, f, g, i], _ => exact ⟨a, b, c, d, e, f, g, i, rfl⟩

section
variable {c : AC} {w : World} {vp vt vo : Value} {Pn : List Int} {q : Nat} {D : DataW Unit} {N : Nat} {s : AS}

theorem alC_cell (h : w.heap[c.ab]? = some (.cells (alC c vp vt vo s).toArray 83 (0, 0))) (i : Nat) : w.cell? ⟨c.ab, i, none⟩ = (alC c vp vt vo s)[i]? := by
  simp [World.cell?, h]
theorem AlIn.cells (h : AlIn c w vp vt vo Pn q D N s) :
    w.cell? ⟨c.ab, 0, none⟩ = some (.slice c.lx c.ln c.lc) ∧ w.cell? ⟨c.ab, 1, none⟩ = some (.int .i64 c.base) ∧ w.cell? ⟨c.ab, 2, none⟩ = some (.int .i64 s.pos) ∧ w.cell? ⟨c.ab, 3, none⟩ = some (.map (some c.kb)) ∧
    w.cell? ⟨c.ab, 12, none⟩ = some (.map (some c.mb)) ∧ w.cell? ⟨c.ab, 13, none⟩ = some vt ∧ w.cell? ⟨c.ab, 14, none⟩ = some vp ∧ w.cell? ⟨c.ab, 15, none⟩ = some vo ∧ w.cell? ⟨c.ab, 16, none⟩ = some (.int .i64 s.slots) ∧ w.cell? ⟨c.ab, 17, none⟩ = some (.int .i64 s.e) := by
  obtain ⟨a, b, d, e, f, g, i, j, hG⟩ := list8 h.g8
  refine ⟨?_, ?_, ?_, ?_, ?_, ?_, ?_, ?_, ?_, ?_⟩ <;> (rw [alC_cell h.blk]; simp only [alC, hG]; rfl)
theorem AlIn.frozen (h : AlIn c w vp vt vo Pn q D N s) (i : Nat) : w.frozen? ⟨c.ab, i, none⟩ = false := by
  simp [World.frozen?, h.blk]
theorem AlIn.lt (h : AlIn c w vp vt vo Pn q D N s) : c.ab < w.heap.size := lt_of_block h.blk
theorem AlIn.regs (h : AlIn c w vp vt vo Pn q D N s) : IRow w c.ab 4 s.G := by
  refine ⟨h.lt, fun i hi => ?_⟩
  rw [alC_cell h.blk, alC]
  rw [show 4 + i = i + 4 from by omega]
  simp only [List.getElem?_cons_succ]
  rw [List.getElem?_append_left (by simpa using hi)]
  simp [hi]

theorem Sep.apart {v v' : Value} (h : Sep v v') {k : Nat} (hk : v'.ownBlock = some k) : v.ownBlock = none ∨ v.ownBlock ≠ some k := by
  rcases h with h | h
  · exact .inl h
  · exact .inr (hk ▸ h)
theorem ownsRow_off {B : Nat} {e : TypeId} {size : Nat} {v : Value} {n : Nat} {xs : List Value} (h : w.ownsRow B e size v n xs) {k : Nat} (hk : k < B) : v.ownBlock = none ∨ v.ownBlock ≠ some k := by
  cases hv : v.ownBlock with
  | none => exact .inl rfl
  | some g => exact .inr (by have := (h.lt g hv).1; intro e; injection e with e; omega)

/-- Other blocks, or new ones. -/
theorem AlIn.below (h : AlIn c w vp vt vo Pn q D N s) {w' : World} (hb : Below w.heap.size w w') : AlIn c w' vp vt vo Pn q D N s := by
  have hg : w.grownBy w' none := ⟨hb.os, hb.tape, hb.output, hb.size, fun k hk _ => hb.block k hk⟩
  have hn : ∀ v : Value, v.ownBlock = none ∨ v.ownBlock ≠ none := fun v => by cases v.ownBlock <;> simp
  exact { h with
    fr := h.fr.grown hg (by simp)
    blk := (hb.block _ h.lt).trans h.blk
    map := h.map.kept hg (by simp)
    rt := ownsRow_below h.rt hb
    rp := ownsRow_below h.rp hb
    ro := ownsRow_below h.ro hb
    kf := h.kf.grown hg (by simp) }

/-- A cell of the allocator's own block. -/
theorem AlIn.own (h : AlIn c w vp vt vo Pn q D N s) (H : ACok c) {w' : World} (hg : w.grownBy w' (some c.ab)) {s' : AS} (hb : w'.heap[c.ab]? = some (.cells (alC c vp vt vo s').toArray 83 (0, 0)))
    (hG : s'.G.length = 8) (hgb : ∀ x ∈ s'.G, -1 ≤ x ∧ x ≤ 65535) (hT : s'.T = s.T) (ho : s'.out = s.out) (hsl : 0 ≤ s'.slots ∧ s'.slots ≤ N) (hp : 0 ≤ s'.pos ∧ s'.pos ≤ 1000) : AlIn c w' vp vt vo Pn q D N s' where
  fr := h.fr.grown hg (fun k e => by injection e with e; exact .inr (.inl e.symm))
  blk := hb
  g8 := hG
  map := h.map.kept hg (by simpa using fun e => H.am e.symm)
  rt := by rw [hT]; exact h.rt.kept hg (ownsRow_off h.rt H.ab)
  rp := h.rp.kept hg (ownsRow_off h.rp H.ab)
  ro := by rw [ho]; exact h.ro.kept hg (ownsRow_off h.ro H.ab)
  tp := h.tp
  tob := h.tob
  po := h.po
  gb := hgb
  tb := by rw [hT]; exact h.tb
  pn := h.pn
  tn := by rw [hT]; exact h.tn
  on := by rw [ho]; exact h.on
  qn := h.qn
  n := h.n
  sl := hsl
  pos := hp
  kf := h.kf.grown hg (fun g hF e => (h.kf g hF).1 (by injection e))

theorem AlIn.setG (h : AlIn c w vp vt vo Pn q D N s) (H : ACok c) (r : Nat) (hr : r < 8) (v : Int) (hv : -1 ≤ v ∧ v ≤ 65535) : AlIn c (w.setCell ⟨c.ab, 4 + r, none⟩ (.int .i64 v)) vp vt vo Pn q D N { s with G := s.G.set r v } := by
  refine h.own H (setCell_grown _ _ _ _) ?_ (by simp [h.g8]) ?_ rfl rfl h.sl h.pos
  · rw [setCell_heap h.blk]
    congr 2
    rw [List.setIfInBounds_toArray, alC, alC, show 4 + r = r + 4 from by omega]
    simp only [List.set_cons_succ]
    rw [List.set_append_left _ _ (by simp [h.g8]; exact hr), List.map_set]
  · intro x hx
    rcases List.mem_or_eq_of_mem_set hx with hx | rfl
    · exact h.gb x hx
    · exact hv
theorem AlIn.setPos (h : AlIn c w vp vt vo Pn q D N s) (H : ACok c) (p : Int) (hp : 0 ≤ p ∧ p ≤ 1000) : AlIn c (w.setCell ⟨c.ab, 2, none⟩ (.int .i64 p)) vp vt vo Pn q D N { s with pos := p } :=
  h.own H (setCell_grown _ _ _ _) (by rw [setCell_heap h.blk]; rfl) h.g8 h.gb rfl rfl h.sl hp
theorem AlIn.setSlots (h : AlIn c w vp vt vo Pn q D N s) (H : ACok c) (p : Int) (hp : 0 ≤ p ∧ p ≤ N) : AlIn c (w.setCell ⟨c.ab, 16, none⟩ (.int .i64 p)) vp vt vo Pn q D N { s with slots := p } := by
  refine h.own H (setCell_grown _ _ _ _) ?_ h.g8 h.gb rfl rfl hp h.pos
  rw [setCell_heap h.blk]
  obtain ⟨a, b, d, e, f, g, i, j, hG⟩ := list8 h.g8
  simp only [alC, hG]; rfl
theorem AlIn.setE (h : AlIn c w vp vt vo Pn q D N s) (H : ACok c) (p : Int) : AlIn c (w.setCell ⟨c.ab, 17, none⟩ (.int .i64 p)) vp vt vo Pn q D N { s with e := p } := by
  refine h.own H (setCell_grown _ _ _ _) ?_ h.g8 h.gb rfl rfl h.sl h.pos
  rw [setCell_heap h.blk]
  obtain ⟨a, b, d, e, f, g, i, j, hG⟩ := list8 h.g8
  simp only [alC, hG]; rfl

/-- A row's value is written anew: that of the slots. -/
theorem AlIn.setT (h : AlIn c w vp vt vo Pn q D N s) (H : ACok c) {w1 : World} {vt' : Value} {T' : List Int} (hg : w.grownBy w1 vt.ownBlock) (ho : w1.ownsRow c.B 3 1 vt' T'.length (iCells T')) (hat : vt'.ownBlock = vt.ownBlock ∨ ∃ g, vt'.ownBlock = some g ∧ w.heap.size ≤ g)
    (htb : ∀ x ∈ T', -1 ≤ x ∧ x ≤ 65535) (hn : T'.length ≤ N) : AlIn c (w1.setCell ⟨c.ab, 13, none⟩ vt') vp vt' vo Pn q D N { s with T := T' } := by
  have hB : ∀ k, vt.ownBlock = some k → c.B ≤ k := fun k e => (h.rt.lt k e).1
  have hab : some c.ab ≠ vt.ownBlock := fun e => by have := hB _ e.symm; have := H.ab; omega
  have hmb : some c.mb ≠ vt.ownBlock := fun e => by have := hB _ e.symm; have := H.mb; omega
  have k1 : w1.heap[c.ab]? = some (.cells (alC c vp vt vo s).toArray 83 (0, 0)) := (hg.block _ h.lt hab).trans h.blk
  have g2 := setCell_grown w1 c.ab 13 vt'
  have rp1 := h.rp.kept hg h.tp.symm
  have ro1 := h.ro.kept hg h.tob.symm
  have sepn : ∀ {v : Value} {k : TypeId} {n m : Nat} {xs : List Value}, w.ownsRow c.B k n v m xs → Sep vt v → Sep vt' v := by
    intro v k n m xs hv hs
    rcases hat with e | ⟨g, e, hge⟩
    · unfold Sep; rw [e]; exact hs
    · refine .inr (fun e2 => ?_)
      have := (hv.lt g (e2 ▸ e)).2
      omega
  exact { h with
    fr := (h.fr.grown hg (fun k e => .inl (hB k e))).grown g2 (fun k e => by injection e with e; exact .inr (.inl e.symm))
    blk := by
      rw [setCell_heap k1]
      obtain ⟨a, b, d, e, f, g, i, j, hG⟩ := list8 h.g8
      simp only [alC, hG]; rfl
    map := (h.map.kept hg hmb).kept g2 (by simpa using fun e => H.am e.symm)
    rt := ho.kept g2 (ownsRow_off ho H.ab)
    rp := rp1.kept g2 (ownsRow_off rp1 H.ab)
    ro := ro1.kept g2 (ownsRow_off ro1 H.ab)
    tp := sepn h.rp h.tp
    tob := sepn h.ro h.tob
    tb := htb
    tn := hn
    kf := fun g hF => by
      obtain ⟨a, b, d, e, f, l, k⟩ := ((h.kf.grown hg (fun g hF => (h.kf g hF).2.2.1)).grown g2 (fun g hF e => (h.kf g hF).1 (by injection e))) g hF
      refine ⟨a, b, ?_, e, f, l, k⟩
      rcases hat with h1 | ⟨g', h1, h2⟩
      · rw [h1]; exact d
      · rw [h1]; intro e; injection e with e; have := (h.kf g hF).2.2.2.2.2.1; omega }
/-- That of what was put out. -/
theorem AlIn.setO (h : AlIn c w vp vt vo Pn q D N s) (H : ACok c) {w1 : World} {vo' : Value} {O' : List Op8} (hg : w.grownBy w1 vo.ownBlock) (ho : w1.ownsRow c.B 37 8 vo' O'.length (outC O')) (hat : vo'.ownBlock = vo.ownBlock ∨ ∃ g, vo'.ownBlock = some g ∧ w.heap.size ≤ g)
    (hn : O'.length ≤ N) : AlIn c (w1.setCell ⟨c.ab, 15, none⟩ vo') vp vt vo' Pn q D N { s with out := O' } := by
  have hB : ∀ k, vo.ownBlock = some k → c.B ≤ k := fun k e => (h.ro.lt k e).1
  have hab : some c.ab ≠ vo.ownBlock := fun e => by have := hB _ e.symm; have := H.ab; omega
  have hmb : some c.mb ≠ vo.ownBlock := fun e => by have := hB _ e.symm; have := H.mb; omega
  have k1 : w1.heap[c.ab]? = some (.cells (alC c vp vt vo s).toArray 83 (0, 0)) := (hg.block _ h.lt hab).trans h.blk
  have g2 := setCell_grown w1 c.ab 15 vo'
  have rp1 := h.rp.kept hg h.po
  have rt1 := h.rt.kept hg h.tob
  have sepn : ∀ {v : Value} {k : TypeId} {n m : Nat} {xs : List Value}, w.ownsRow c.B k n v m xs → Sep v vo → Sep v vo' := by
    intro v k n m xs hv hs
    rcases hat with e | ⟨g, e, hge⟩
    · unfold Sep; rw [e]; exact hs
    · refine .inr (fun e2 => ?_)
      have := (hv.lt g (e2.trans e)).2
      omega
  exact { h with
    fr := (h.fr.grown hg (fun k e => .inl (hB k e))).grown g2 (fun k e => by injection e with e; exact .inr (.inl e.symm))
    blk := by
      rw [setCell_heap k1]
      obtain ⟨a, b, d, e, f, g, i, j, hG⟩ := list8 h.g8
      simp only [alC, hG]; rfl
    map := (h.map.kept hg hmb).kept g2 (by simpa using fun e => H.am e.symm)
    ro := ho.kept g2 (ownsRow_off ho H.ab)
    rp := rp1.kept g2 (ownsRow_off rp1 H.ab)
    rt := rt1.kept g2 (ownsRow_off rt1 H.ab)
    tob := sepn h.rt h.tob
    po := sepn h.rp h.po
    on := hn
    kf := fun g hF => by
      obtain ⟨a, b, d, e, f, l, k⟩ := ((h.kf.grown hg (fun g hF => (h.kf g hF).2.2.2.1)).grown g2 (fun g hF e => (h.kf g hF).1 (by injection e))) g hF
      refine ⟨a, b, d, ?_, f, l, k⟩
      rcases hat with h1 | ⟨g', h1, h2⟩
      · rw [h1]; exact e
      · rw [h1]; intro e; injection e with e; have := (h.kf g hF).2.2.2.2.2.1; omega }
/-- That of the pinned. -/
theorem AlIn.setP (h : AlIn c w vp vt vo Pn q D N s) (H : ACok c) {w1 : World} {vp' : Value} {P' : List Int} {row : Option Nat} (hg : w.grownBy w1 row) (hrow : row = none ∨ row = vp.ownBlock) (ho : w1.ownsRow c.B 3 1 vp' P'.length (iCells P')) (hat : vp'.ownBlock = vp.ownBlock ∨ vp'.ownBlock = none ∨ ∃ g, vp'.ownBlock = some g ∧ w.heap.size ≤ g)
    (hn : P'.length ≤ 6) : AlIn c (w1.setCell ⟨c.ab, 14, none⟩ vp') vp' vt vo P' q D N s := by
  have hg : w.grownBy w1 vp.ownBlock := by
    rcases hrow with rfl | rfl
    · exact ⟨hg.os, hg.tape, hg.output, hg.size, fun k hk _ => hg.block k hk (by simp)⟩
    · exact hg
  have hB : ∀ k, vp.ownBlock = some k → c.B ≤ k := fun k e => (h.rp.lt k e).1
  have hab : some c.ab ≠ vp.ownBlock := fun e => by have := hB _ e.symm; have := H.ab; omega
  have hmb : some c.mb ≠ vp.ownBlock := fun e => by have := hB _ e.symm; have := H.mb; omega
  have k1 : w1.heap[c.ab]? = some (.cells (alC c vp vt vo s).toArray 83 (0, 0)) := (hg.block _ h.lt hab).trans h.blk
  have g2 := setCell_grown w1 c.ab 14 vp'
  have rt1 := h.rt.kept hg h.tp
  have ro1 := h.ro.kept hg h.po.symm
  have sepn : ∀ {v : Value} {k : TypeId} {n m : Nat} {xs : List Value}, w.ownsRow c.B k n v m xs → Sep vp v → Sep vp' v := by
    intro v k n m xs hv hs
    rcases hat with e | e | ⟨g, e, hge⟩
    · unfold Sep; rw [e]; exact hs
    · exact .inl e
    · refine .inr (fun e2 => ?_)
      have := (hv.lt g (e2 ▸ e)).2
      omega
  exact { h with
    fr := (h.fr.grown hg (fun k e => .inl (hB k e))).grown g2 (fun k e => by injection e with e; exact .inr (.inl e.symm))
    blk := by
      rw [setCell_heap k1]
      obtain ⟨a, b, d, e, f, g, i, j, hG⟩ := list8 h.g8
      simp only [alC, hG]; rfl
    map := (h.map.kept hg hmb).kept g2 (by simpa using fun e => H.am e.symm)
    rp := ho.kept g2 (ownsRow_off ho H.ab)
    rt := rt1.kept g2 (ownsRow_off rt1 H.ab)
    ro := ro1.kept g2 (ownsRow_off ro1 H.ab)
    tp := (sepn h.rt h.tp.symm).symm
    po := sepn h.ro h.po
    pn := hn
    kf := fun g hF => by
      obtain ⟨a, b, d, e, f, l, k⟩ := ((h.kf.grown hg (fun g hF => (h.kf g hF).2.2.2.2.1)).grown g2 (fun g hF e => (h.kf g hF).1 (by injection e))) g hF
      refine ⟨a, b, d, e, ?_, l, k⟩
      rcases hat with h1 | h1 | ⟨g', h1, h2⟩
      · rw [h1]; exact f
      · rw [h1]; simp
      · rw [h1]; intro e; injection e with e; have := (h.kf g hF).2.2.2.2.2.1; omega }
/-- One of the slots. -/
theorem AlIn.putT (h : AlIn c w vp vt vo Pn q D N s) (H : ACok c) {g : Nat} (hv : vt.ownBlock = some g) (i : Nat) (hi : i < s.T.length) (v : Int) (hvb : -1 ≤ v ∧ v ≤ 65535) : AlIn c (w.setCell ⟨g, i, none⟩ (.int .i64 v)) vp vt vo Pn q D N { s with T := s.T.set i v } := by
  have hB := (h.rt.lt g hv).1
  have g2 := setCell_grown w g i (.int .i64 v)
  have hab : some c.ab ≠ some g := fun e => by injection e with e; have := H.ab; omega
  have hmb : some c.mb ≠ some g := fun e => by injection e with e; have := H.mb; omega
  exact { h with
    fr := h.fr.grown g2 (fun k e => by injection e with e; exact .inl (e ▸ hB))
    blk := (g2.block _ h.lt hab).trans h.blk
    map := h.map.kept g2 hmb
    rt := by
      obtain ⟨r1, r2⟩ := h.rt
      refine ⟨by simp [iCells], ?_⟩
      rcases r2 with ⟨rfl, h0⟩ | ⟨g', cap, cur, rfl, hg, hh, hc, hc2, hcs, htk⟩
      · simp [Value.ownBlock] at hv
      · simp [Value.ownBlock] at hv
        subst hv
        refine .inr ⟨g', cap, cur.setIfInBounds i (.int .i64 v), by simp, hg, setCell_heap hh i _, by simpa using hc, hc2, by simpa using hcs, ?_⟩
        simp only [Array.toList_setIfInBounds, List.length_set, iCells, List.map_set] at htk ⊢
        rw [List.take_set, htk]
    rp := h.rp.kept g2 (h.tp.symm.apart hv)
    ro := h.ro.kept g2 (h.tob.symm.apart hv)
    tb := by
      intro x hx
      rcases List.mem_or_eq_of_mem_set hx with hx | rfl
      · exact h.tb x hx
      · exact hvb
    tn := by simpa using h.tn
    kf := h.kf.grown g2 (fun g' hF => hv ▸ (h.kf g' hF).2.2.1) }
/-- The map of slots. -/
theorem AlIn.setD (h : AlIn c w vp vt vo Pn q D N s) (H : ACok c) {w' : World} {q' : Nat} {D' : DataW Unit} (hm : w'.ownsMap Tryd.prog 3 (plainElem Tryd.prog 3) c.mb q' D') (hg : w.grownBy w' (some c.mb)) (hq : q' ≤ N) : AlIn c w' vp vt vo Pn q' D' N s :=
  { h with
    fr := h.fr.grown hg (fun k e => by injection e with e; exact .inr (.inr e.symm))
    blk := (hg.block _ h.lt (by simpa using H.am)).trans h.blk
    map := hm
    rt := h.rt.kept hg (ownsRow_off h.rt H.mb)
    rp := h.rp.kept hg (ownsRow_off h.rp H.mb)
    ro := h.ro.kept hg (ownsRow_off h.ro H.mb)
    qn := hq
    kf := h.kf.grown hg (fun g hF e => (h.kf g hF).2.1 (by injection e)) }
theorem AlIn.mono (h : AlIn c w vp vt vo Pn q D N s) {N' : Nat} (hn : N ≤ N') (hn' : N' ≤ 10000) : AlIn c w vp vt vo Pn q D N' s :=
  { h with tn := Nat.le_trans h.tn hn, on := Nat.le_trans h.on hn, qn := Nat.le_trans h.qn hn, n := hn', sl := ⟨h.sl.1, by have := h.sl.2; omega⟩ }
/-- Other blocks to let be. -/
def AC.fit (c : AC) (F : Nat → Prop) (wf : World) : AC := { c with F := F, wf := wf }
theorem AlIn.fit (h : AlIn c w vp vt vo Pn q D N s) {F : Nat → Prop} {wf : World} (hF : OffB (c.fit F wf) w vp vt vo) : AlIn (c.fit F wf) w vp vt vo Pn q D N s :=
  { h with fr := ⟨h.fr.os, h.fr.tape, h.fr.output, h.fr.size, h.fr.block⟩, blk := h.blk, map := h.map, rt := h.rt, rp := h.rp, ro := h.ro, kf := hF }
theorem AlIn.unfit {F : Nat → Prop} {wf : World} (h : AlIn (c.fit F wf) w vp vt vo Pn q D N s) (hF : OffB c w vp vt vo) : AlIn c w vp vt vo Pn q D N s :=
  { h with fr := ⟨h.fr.os, h.fr.tape, h.fr.output, h.fr.size, h.fr.block⟩, blk := h.blk, map := h.map, rt := h.rt, rp := h.rp, ro := h.ro, kf := hF }
theorem ACok.fit (H : ACok c) (F : Nat → Prop) (wf : World) : ACok (c.fit F wf) :=
  ⟨H.ab, H.mb, H.am, H.ln, H.base, fun w hf => H.last w ⟨hf.os, hf.tape, hf.output, hf.size, hf.block⟩⟩
/-- The cells of the slots. -/
theorem AlIn.taken (h : AlIn c w vp vt vo Pn q D N s) : ∃ x cc, vt = .slice x s.T.length cc ∧ s.T.length ≤ cc ∧ LSl w x s.T ∧ (∀ g, x = some g → ∃ k, g = ⟨k, 0, none⟩ ∧ vt.ownBlock = some k) := by
  rcases h.rt.2 with ⟨hv, h0⟩ | ⟨g, cap, cur, hv, hg, hh, hc, _⟩
  · refine ⟨none, 0, by rw [hv, h0], by omega, .inl (List.length_eq_zero_iff.1 h0), by simp⟩
  · refine ⟨some ⟨g, 0, none⟩, cap, hv, hc, .inr ⟨g, rfl, lt_of_block hh, fun i hi => ?_⟩, fun g' e => ?_⟩
    · have := h.rt.cells (g := g) (by rw [hv]; rfl) i (.int .i64 s.T[i]) (by simp [iCells, hi])
      have hadd : (⟨g, 0, none⟩ : Addr).add i = ⟨g, 0 + i, none⟩ := by unfold Addr.add; split <;> simp_all
      rw [hadd] at this; exact this
    · injection e with e; exact ⟨g, e.symm, by rw [hv]; rfl⟩
end
end Go.Proofs.YtmkencdkglbpbaaDoor
