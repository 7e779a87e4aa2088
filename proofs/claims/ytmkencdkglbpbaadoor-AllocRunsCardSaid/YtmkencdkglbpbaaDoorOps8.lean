/- Operations in memory. -/
import Derived.Test.YtmkencdkglbpbaaDoorVopQ
set_option maxRecDepth 100000
namespace Go.Proofs.YtmkencdkglbpbaaDoor
open Go.RowKit

/-- An operation. -/
structure Op8 where
  K : Int
  t0 : Int
  t1 : Int
  f0 : Int
  f1 : Int
  f2 : Int
  f3 : Int
  N : Int
/-- It may be. -/
def Op8.ok (o : Op8) : Prop := rightV o.K o.t0 o.t1 o.f0 o.f1 o.f2 o.f3 o.N = true ∧ 0 ≤ o.N ∧ o.N < 4294967296
/-- A slice of operations in memory. -/
def OpsSl (w : World) (x : Option Addr) (L : List Op8) : Prop := L.length = 0 ∨ ∃ b o, x = some ⟨b, o, none⟩ ∧ b < w.heap.size ∧ ∀ i (hi : i < L.length),
  w.cell? ⟨b, o + i * 8, none⟩ = some (.int .i64 L[i].K) ∧ w.cell? ⟨b, o + i * 8 + 1, none⟩ = some (.int .i64 L[i].t0) ∧ w.cell? ⟨b, o + i * 8 + 2, none⟩ = some (.int .i64 L[i].t1) ∧ w.cell? ⟨b, o + i * 8 + 3, none⟩ = some (.int .i64 L[i].f0) ∧
  w.cell? ⟨b, o + i * 8 + 4, none⟩ = some (.int .i64 L[i].f1) ∧ w.cell? ⟨b, o + i * 8 + 5, none⟩ = some (.int .i64 L[i].f2) ∧ w.cell? ⟨b, o + i * 8 + 6, none⟩ = some (.int .i64 L[i].f3) ∧ w.cell? ⟨b, o + i * 8 + 7, none⟩ = some (.int .u32 L[i].N)
theorem OpsSl.kept {w w' : World} {x : Option Addr} {L : List Op8} (h : OpsSl w x L) (hs : w.heap.size ≤ w'.heap.size) (hk : ∀ b o, x = some ⟨b, o, none⟩ → b < w.heap.size → w'.heap[b]? = w.heap[b]?) : OpsSl w' x L := by
  rcases h with h | ⟨b, o, rfl, hl, hc⟩
  · exact .inl h
  · have hb := hk b o rfl hl
    refine .inr ⟨b, o, rfl, Nat.lt_of_lt_of_le hl hs, fun i hi => ?_⟩
    obtain ⟨h0, h1, h2, h3, h4, h5, h6, h7⟩ := hc i hi
    exact ⟨(World.cell?_of_block hb).trans h0, (World.cell?_of_block hb).trans h1, (World.cell?_of_block hb).trans h2, (World.cell?_of_block hb).trans h3, (World.cell?_of_block hb).trans h4, (World.cell?_of_block hb).trans h5, (World.cell?_of_block hb).trans h6, (World.cell?_of_block hb).trans h7⟩
theorem OpsSl.below {w w' : World} {x : Option Addr} {L : List Op8} (h : OpsSl w x L) (hb : Below w.heap.size w w') : OpsSl w' x L := h.kept hb.size fun b o _ hl => hb.block b hl

end Go.Proofs.YtmkencdkglbpbaaDoor
