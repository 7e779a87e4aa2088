/- MemPlays: what holds between two steps of a play. -/
import Derived.Test.YtpfeddfbmnimlaaPlayD
import Derived.Test.YtpfeddfbmnimlaaAnchor06
import Derived.Lib.Builder
set_option maxRecDepth 100000
set_option linter.unusedVariables false
namespace Go.Proofs.Ytpfeddfbmnimlaa
open Go.RowKit

/-- A memory, where another block turns. -/
theorem IsMem.other {w w' : World} {B b : Nat} {fv : Value} {rg : Nat} {F : List Int} {m : Nat → Int} (h : IsMem w B b fv rg F m) {z : Nat} (hg : w.grownBy w' (some z)) (hb : z ≠ b) (hr : z ≠ rg) (hf : fv.ownBlock ≠ some z) : IsMem w' B b fv rg F m where
  blk := by rw [hg.block _ (lt_of_block h.blk) (fun e => hb (by simpa using e.symm))]; exact h.blk
  hb := h.hb
  hr := h.hr
  hrs := Nat.lt_of_lt_of_le h.hrs hg.size
  flash := h.flash.kept hg (.inr hf)
  flen := h.flen
  fbytes := h.fbytes
  ram := by
    intro j hj
    rw [World.cell?_of_block (w := w) (a := ⟨rg, j, none⟩) (hg.block _ h.hrs (fun e => hr (by simpa using e.symm)))]
    exact h.ram j hj
  free := by
    intro j
    rw [World.frozen?_of_block (w := w) (a := ⟨rg, j, none⟩) (hg.block _ h.hrs (fun e => hr (by simpa using e.symm)))]
    exact h.free j
  words := h.words
  ne1 := h.ne1
  ne2 := h.ne2

theorem LRow.other {w w' : World} {lx : Option Addr} {q : Nat} {L : List (Int × Int)} (h : LRow w lx q L) {z : Nat} (hg : w.grownBy w' (some z)) (ha : Apart lx z) : LRow w' lx q L := by
  obtain ⟨h1, h2⟩ := h
  refine ⟨h1, h2.imp id fun ⟨g, e, hgl, hc⟩ => ⟨g, e, Nat.lt_of_lt_of_le hgl hg.size, fun i hi => ?_⟩⟩
  obtain ⟨c0, c1⟩ := hc i hi
  have hne : g ≠ z := ha g e
  have hbk := hg.block g hgl (fun e => hne (by simpa using e))
  exact ⟨(World.cell?_of_block (w := w) (a := ⟨g, i * 2, none⟩) hbk).trans c0, (World.cell?_of_block (w := w) (a := ⟨g, i * 2 + 1, none⟩) hbk).trans c1⟩

theorem CopyAt.other {w w' : World} {b rg : Nat} {m : Nat → Int} (h : CopyAt w b rg m) {z : Nat} (hg : w.grownBy w' (some z)) (hb : b ≠ z) (hr : rg ≠ z) : CopyAt w' b rg m := by
  obtain ⟨h1, h2, ⟨C, hC, h3⟩, h4⟩ := h
  have k1 := hg.block b h1 (fun e => hb (by simpa using e))
  have k2 := hg.block rg h2 (fun e => hr (by simpa using e))
  refine ⟨Nat.lt_of_lt_of_le h1 hg.size, Nat.lt_of_lt_of_le h2 hg.size, ⟨C, hC, (World.cell?_of_block (w := w) (a := ⟨b, 1, none⟩) k1).trans h3⟩, fun i hi => ?_⟩
  obtain ⟨c0, c1, c2, c3⟩ := h4 i hi
  exact ⟨(World.cell?_of_block (w := w) (a := ⟨rg, 4 * i, none⟩) k2).trans c0, (World.cell?_of_block (w := w) (a := ⟨rg, 4 * i + 1, none⟩) k2).trans c1, (World.cell?_of_block (w := w) (a := ⟨rg, 4 * i + 2, none⟩) k2).trans c2, (World.cell?_of_block (w := w) (a := ⟨rg, 4 * i + 3, none⟩) k2).trans c3⟩
theorem CopyAt.below {w w' : World} {b rg : Nat} {m : Nat → Int} (h : CopyAt w b rg m) (hb : Below w.heap.size w w') : CopyAt w' b rg m := by
  obtain ⟨h1, h2, ⟨C, hC, h3⟩, h4⟩ := h
  refine ⟨Nat.lt_of_lt_of_le h1 hb.size, Nat.lt_of_lt_of_le h2 hb.size, ⟨C, hC, (hb.cell (p := ⟨b, 1, none⟩) h1).trans h3⟩, fun i hi => ?_⟩
  obtain ⟨c0, c1, c2, c3⟩ := h4 i hi
  exact ⟨(hb.cell (p := ⟨rg, 4 * i, none⟩) h2).trans c0, (hb.cell (p := ⟨rg, 4 * i + 1, none⟩) h2).trans c1, (hb.cell (p := ⟨rg, 4 * i + 2, none⟩) h2).trans c2, (hb.cell (p := ⟨rg, 4 * i + 3, none⟩) h2).trans c3⟩

/-- What holds between two steps: the memory, the document's memory in its box, the copy; what came in. -/
structure St (w1 wr : World) (bm : Nat) (fv : Value) (rg : Nat) (F : List Int) (bx : Nat) (a : Option Addr) (n cap : Nat) (cb crg : Nat) (L : List (Int × Int)) (m : Nat → Int) (lx : Option Addr) (lc : Nat) : Prop where
  mem : IsMem wr w1.heap.size bm fv rg F m
  row : LRow wr lx L.length L
  capl : L.length ≤ lc
  box : wr.heap[bx]? = some (.cells #[.slice a n cap, .slice lx L.length lc] 45 (0, 0))
  ap1 : Apart lx rg
  ap2 : Apart lx bx
  copy : CopyAt wr cb crg (fun _ => 0)
  bel : Below w1.heap.size w1 wr
  n1 : bx ≠ bm
  n2 : bx ≠ rg
  n3 : cb ≠ rg
  n4 : crg ≠ rg
  n5 : cb ≠ bx
  n6 : crg ≠ bx
  n7 : w1.heap.size ≤ bx

variable {w1 wr w' : World} {bm : Nat} {fv : Value} {rg : Nat} {F : List Int} {bx : Nat} {a : Option Addr} {n cap cb crg : Nat} {L : List (Int × Int)} {m : Nat → Int} {lx : Option Addr} {lc : Nat}

theorem St.below (h : St w1 wr bm fv rg F bx a n cap cb crg L m lx lc) (hb : Below wr.heap.size wr w') : St w1 w' bm fv rg F bx a n cap cb crg L m lx lc :=
  { h with mem := h.mem.below hb, row := h.row.below hb, box := (hb.block _ (lt_of_block h.box)).trans h.box, copy := h.copy.below hb, bel := h.bel.trans (hb.mono h.bel.size) }

theorem St.stored (h : St w1 wr bm fv rg F bx a n cap cb crg L m lx lc) {m' : Nat → Int} (hs : Stored wr w1.heap.size bm fv rg F m' w') : St w1 w' bm fv rg F bx a n cap cb crg L m' lx lc :=
  { h with
    mem := hs.1
    row := h.row.other hs.2.1 h.ap1
    box := (hs.2.1.block _ (lt_of_block h.box) (fun e => h.n2 (by simpa using e))).trans h.box
    copy := h.copy.other hs.2.1 h.n3 h.n4
    bel := below_stored h.bel hs h.bel.size }

/-- The box takes other words. -/
theorem St.boxed (h : St w1 wr bm fv rg F bx a n cap cb crg L m lx lc) {lx' : Option Addr} {lc' : Nat} {L' : List (Int × Int)} (hr : LRow wr lx' L'.length L') (hc : L'.length ≤ lc') (a1 : Apart lx' rg) (a2 : Apart lx' bx) :
    St w1 ((wr.setCell ⟨bx, 0, none⟩ (.slice a n cap)).setCell ⟨bx, 1, none⟩ (.slice lx' L'.length lc')) bm fv rg F bx a n cap cb crg L' m lx' lc' := by
  have hg : wr.grownBy ((wr.setCell ⟨bx, 0, none⟩ (.slice a n cap)).setCell ⟨bx, 1, none⟩ (.slice lx' L'.length lc')) (some bx) := grownBy_setCell (grownBy_setCell (grownBy_refl _ _) 0 _) 1 _
  have hne : fv.ownBlock ≠ some bx := Lib.ownBlock_ne h.mem.flash h.box (by decide)
  refine { h with mem := h.mem.other hg h.n1 h.n2 hne, row := hr.other hg a2, capl := hc, box := ?_, ap1 := a1, ap2 := a2, copy := h.copy.other hg h.n5 h.n6, bel := (h.bel.setCell (p := ⟨bx, 0, none⟩) h.n7 _).setCell (p := ⟨bx, 1, none⟩) h.n7 _ }
  simp only [World.setCell, Array.getElem?_modify, h.box]
  simp

/-- Steps that came in: a kind, an address, a word. -/
def OpRow (w : World) (oa : Option Addr) (N : Nat) (O : List (Int × Int × Int)) : Prop :=
  O.length = N ∧ (∀ x ∈ O, 0 ≤ x.2.1 ∧ x.2.1 < 4294967296 ∧ 0 ≤ x.2.2 ∧ x.2.2 < 4294967296) ∧ (N = 0 ∨ ∃ b o, oa = some ⟨b, o, none⟩ ∧ b < w.heap.size ∧ ∀ i (hi : i < O.length),
    w.cell? ⟨b, o + i * 3, none⟩ = some (.int .i64 (O[i]).1) ∧ w.cell? ⟨b, o + i * 3 + 1, none⟩ = some (.int .u32 (O[i]).2.1) ∧ w.cell? ⟨b, o + i * 3 + 2, none⟩ = some (.int .u32 (O[i]).2.2))

theorem refL_len (L : List (Int × Int)) (ad x : Int) : (refL L ad x).length ≤ L.length + 1 := by
  unfold refL
  split
  · have := List.length_filter_le (fun p : Int × Int => p.1 != ad) L
    simp; omega
  · omega
end Go.Proofs.Ytpfeddfbmnimlaa
