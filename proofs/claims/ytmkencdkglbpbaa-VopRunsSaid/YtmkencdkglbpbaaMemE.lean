/- mem: Flash by its contract; what a memory is behind what leaves it alone; the anchor of the laws of chapter 06. -/
import Derived.Test.YtmkencdkglbpbaaMemD
set_option maxRecDepth 100000
namespace Go.Proofs.Ytmkencdkglbpbaa
open Go.RowKit

/-- A memory behind whatever leaves its blocks alone. -/
theorem IsMem.kept {w w' : World} {B b : Nat} {fv : Value} {rg : Nat} {F : List Int} {m : Nat → Int} (h : IsMem w B b fv rg F m) (hs : w.heap.size ≤ w'.heap.size) (hk : ∀ k, B ≤ k → k < w.heap.size → w'.heap[k]? = w.heap[k]?) : IsMem w' B b fv rg F m where
  blk := by rw [hk _ h.hb (lt_of_block h.blk)]; exact h.blk
  hb := h.hb
  hr := h.hr
  hrs := Nat.lt_of_lt_of_le h.hrs hs
  flash := by
    obtain ⟨h1, h2⟩ := h.flash
    refine ⟨h1, ?_⟩
    rcases h2 with h2 | ⟨g, cap, cur, hv, hg, hh, r⟩
    · exact .inl h2
    · exact .inr ⟨g, cap, cur, hv, hg, by rw [hk _ hg (lt_of_block hh)]; exact hh, r⟩
  flen := h.flen
  fbytes := h.fbytes
  ram := by
    intro j hj
    rw [World.cell?_of_block (w := w) (a := ⟨rg, j, none⟩) (hk rg h.hr h.hrs)]
    exact h.ram j hj
  free := by
    intro j
    rw [World.frozen?_of_block (w := w) (a := ⟨rg, j, none⟩) (hk rg h.hr h.hrs)]
    exact h.free j
  words := h.words
  ne1 := h.ne1
  ne2 := h.ne2

theorem IsMem.drawn {w w' : World} {B b : Nat} {fv : Value} {rg : Nat} {F : List Int} {m : Nat → Int} (h : IsMem w B b fv rg F m) (hd : Drawn w w') : IsMem w' B b fv rg F m := by
  obtain ⟨n, rfl⟩ := hd
  exact h.kept (Nat.le_refl _) fun _ _ _ => rfl

theorem IsMem.below {w w' : World} {B b : Nat} {fv : Value} {rg : Nat} {F : List Int} {m : Nat → Int} (h : IsMem w B b fv rg F m) (hd : Below w.heap.size w w') : IsMem w' B b fv rg F m :=
  h.kept hd.size fun _ _ hk => hd.block _ hk

theorem below_drawn {B : Nat} {a w w' : World} (h : Below B a w) (hd : Drawn w w') : Below B a w' := by
  obtain ⟨n, rfl⟩ := hd
  exact h.trans ⟨rfl, rfl, rfl, Nat.le_refl _, fun _ _ => rfl⟩

theorem below_stored {B : Nat} {a w w' : World} (h : Below B a w) {b : Nat} {fv : Value} {rg : Nat} {F : List Int} {m' : Nat → Int} (hs : Stored w B b fv rg F m' w') (hB : B ≤ w.heap.size) : Below B a w' :=
  h.grown hs.2.1 hB fun _ e => by cases e; exact hs.1.hr

end Go.Proofs.Ytmkencdkglbpbaa
