/- AllocRuns: the two machines: what lives through what. -/
import Derived.Test.YtmkencdkglbpbaaDoorTouS
import Derived.Test.YtmkencdkglbpbaaDoorMemF
import Derived.Test.YtmkencdkglbpbaaDoorAlY
import Derived.Test.YtmkencdkglbpbaaDoorAlV
set_option maxRecDepth 100000
set_option linter.unusedVariables false
namespace Go.Proofs.YtmkencdkglbpbaaDoor
open Go.RowKit

/-- A state whose blocks stay. -/
theorem StAt.keeps {w w' : World} {sb rb rc mb : Nat} {fv : Value} {rg B : Nat} {S : Int} {R : List Int} {m : Nat → Int} (h : StAt w sb rb rc mb fv rg B S R m) (hs : w.heap.size ≤ w'.heap.size) (hk : ∀ k, k < w.heap.size → (k = sb ∨ k = rb ∨ k = mb ∨ k = rg ∨ fv.ownBlock = some k) → w'.heap[k]? = w.heap[k]?) : StAt w' sb rb rc mb fv rg B S R m := by
  have hm := h.mem
  refine ⟨{ h.reg with
      blk := (hk sb (lt_of_block h.reg.blk) (.inl rfl)).trans h.reg.blk
      row := fun i hi => (World.cell?_of_block (w := w) (a := ⟨rb, i, none⟩) (hk rb h.reg.rlt (.inr (.inl rfl)))).trans (h.reg.row i hi)
      free := fun i => (World.frozen?_of_block (w := w) (a := ⟨rb, i, none⟩) (hk rb h.reg.rlt (.inr (.inl rfl)))).trans (h.reg.free i)
      rlt := Nat.lt_of_lt_of_le h.reg.rlt hs }, ?_, h.n1, h.n2, h.n3, h.n4⟩
  exact { hm with
    blk := by obtain ⟨C, hC, hb⟩ := hm.blk; exact ⟨C, hC, (hk mb (lt_of_block hb) (.inr (.inr (.inl rfl)))).trans hb⟩
    hrs := Nat.lt_of_lt_of_le hm.hrs hs
    flash := by
      obtain ⟨h4, h5⟩ := hm.flash
      refine ⟨h4, ?_⟩
      rcases h5 with h5 | ⟨g, cap, cur, hv, hg2, hh, rr⟩
      · exact .inl h5
      · exact .inr ⟨g, cap, cur, hv, hg2, (hk g (lt_of_block hh) (.inr (.inr (.inr (.inr (by rw [hv]; rfl)))))).trans hh, rr⟩
    ram := fun j hj => (World.cell?_of_block (w := w) (a := ⟨rg, j, none⟩) (hk rg hm.hrs (.inr (.inr (.inr (.inl rfl)))))).trans (hm.ram j hj)
    free := fun j => (World.frozen?_of_block (w := w) (a := ⟨rg, j, none⟩) (hk rg hm.hrs (.inr (.inr (.inr (.inl rfl)))))).trans (hm.free j) }

/-- The machine s (over many registers), the machine t (over eight, with a copy of its memory), what Alloc returned in its box. -/
structure Duo (w0 w : World) (sb rb rc mb : Nat) (fv : Value) (rg B : Nat) (S : Int) (R : List Int) (m : Nat → Int) (sb' rb' rc' mb' : Nat) (fv' : Value) (rg' B' : Nat) (R8 : List Int) (m8 : Nat → Int) (xb : Nat) (xo : Option Addr) (co : Nat) (O : List Op8) (Z : Nat) : Prop where
  s : StAt w sb rb rc mb fv rg B S R m
  t : StAt w sb' rb' rc' mb' fv' rg' B' S R8 m8
  x : w.heap[xb]? = some (.cells #[.slice xo O.length co, .int .i64 Z] 25 (0, 0))
  ops : OpsSl w xo O
  bel : Below w0.heap.size w0 w
  lo : w0.heap.size ≤ B ∧ xb < B ∧ B ≤ rb ∧ ∀ b o, xo = some ⟨b, o, none⟩ → b < B
  xs : sb < B' ∧ rb < B' ∧ mb < B' ∧ rg < B' ∧ ∀ g, fv.ownBlock = some g → g < B'
  xt : B' ≤ sb' ∧ B' ≤ rb'

section
variable {w0 w : World} {sb rb rc mb : Nat} {fv : Value} {rg B : Nat} {S : Int} {R : List Int} {m : Nat → Int} {sb' rb' rc' mb' : Nat} {fv' : Value} {rg' B' : Nat} {R8 : List Int} {m8 : Nat → Int} {xb : Nat} {xo : Option Addr} {co : Nat} {O : List Op8} {Z : Nat}
theorem Duo.below (h : Duo w0 w sb rb rc mb fv rg B S R m sb' rb' rc' mb' fv' rg' B' R8 m8 xb xo co O Z) {w' : World} (hb : Below w.heap.size w w') : Duo w0 w' sb rb rc mb fv rg B S R m sb' rb' rc' mb' fv' rg' B' R8 m8 xb xo co O Z :=
  { h with
    s := h.s.below hb
    t := h.t.below hb
    x := (hb.block _ (lt_of_block h.x)).trans h.x
    ops := h.ops.below hb
    bel := h.bel.trans (hb.mono h.bel.size) }
/-- The machine s has done an operation. -/
theorem Duo.did (h : Duo w0 w sb rb rc mb fv rg B S R m sb' rb' rc' mb' fv' rg' B' R8 m8 xb xo co O Z) {w' : World} {R3 : List Int} {m3 : Nat → Int} (hs : StAt w' sb rb rc mb fv rg B S R3 m3) (hk : Kept w w' rb rg) : Duo w0 w' sb rb rc mb fv rg B S R3 m3 sb' rb' rc' mb' fv' rg' B' R8 m8 xb xo co O Z := by
  have h1 := h.lo
  have h2 := h.xs
  have h3 := h.xt
  have h4 := h.s.mem.hr
  have h5 := h.t.mem.hr
  have h6 := h.t.mem.hb
  refine { h with
    s := hs
    t := h.t.keeps hk.size (fun k hl hc => ?_)
    x := (hk.block _ (lt_of_block h.x) (by omega) (by omega)).trans h.x
    ops := h.ops.kept hk.size fun b o e hl => ?_
    bel := hk.below h.bel (Nat.le_refl _) (by omega) (by omega) }
  · rcases hc with rfl | rfl | rfl | rfl | hc
    · exact hk.block _ hl (by omega) (by omega)
    · exact hk.block _ hl (by omega) (by omega)
    · exact hk.block _ hl (by omega) (by omega)
    · exact hk.block _ hl (by omega) (by omega)
    · have := (h.t.mem.flash.lt k hc).1
      exact hk.block _ hl (by omega) (by omega)
  · have := h1.2.2.2 b o e
    exact hk.block b hl (by omega) (by omega)
/-- The machine t has run. -/
theorem Duo.ran (h : Duo w0 w sb rb rc mb fv rg B S R m sb' rb' rc' mb' fv' rg' B' R8 m8 xb xo co O Z) {w' : World} {R3 : List Int} {m3 : Nat → Int} (hs : StAt w' sb' rb' rc' mb' fv' rg' B' S R3 m3) (hk : Kept w w' rb' rg') : Duo w0 w' sb rb rc mb fv rg B S R m sb' rb' rc' mb' fv' rg' B' R3 m3 xb xo co O Z := by
  have h1 := h.lo
  have h2 := h.xs
  have h3 := h.xt
  have h4 := h.s.mem.hr
  have h5 := h.t.mem.hr
  refine { h with
    s := h.s.keeps hk.size (fun k hl hc => ?_)
    t := hs
    x := (hk.block _ (lt_of_block h.x) (by omega) (by omega)).trans h.x
    ops := h.ops.kept hk.size fun b o e hl => ?_
    bel := hk.below h.bel (Nat.le_refl _) (by omega) (by omega) }
  · have : k < B' := by
      rcases hc with rfl | rfl | rfl | rfl | hc
      · exact h2.1
      · exact h2.2.1
      · exact h2.2.2.1
      · exact h2.2.2.2.1
      · exact h2.2.2.2.2 k hc
    exact hk.block _ hl (by omega) (by omega)
  · have := h1.2.2.2 b o e
    exact hk.block b hl (by omega) (by omega)
end
end Go.Proofs.YtmkencdkglbpbaaDoor
