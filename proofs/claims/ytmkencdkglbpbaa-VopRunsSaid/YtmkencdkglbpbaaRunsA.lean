/- VopRuns: the two machines and the document's state: what lives through what. -/
import Derived.Test.YtmkencdkglbpbaaRefDoF
set_option maxRecDepth 100000
set_option linter.unusedVariables false
namespace Go.Proofs.Ytmkencdkglbpbaa
open Go.RowKit

theorem StAt.other {w w' : World} {sb rb rc mb : Nat} {fv : Value} {rg B : Nat} {S : Int} {R : List Int} {m : Nat → Int} {r : Nat} (h : StAt w sb rb rc mb fv rg B S R m) (hg : w.grownBy w' (some r)) (h1 : r ≠ sb) (h2 : r ≠ rb) (h3 : r ≠ mb) (h4 : r ≠ rg) (h5 : fv.ownBlock ≠ some r) : StAt w' sb rb rc mb fv rg B S R m :=
  ⟨h.reg.grown hg h1 h2, h.mem.other hg h3 h4 h5, h.n1, h.n2, h.n3, h.n4⟩
/-- A state whose blocks all stay. -/
theorem StAt.past {w w' : World} {sb rb rc mb : Nat} {fv : Value} {rg B : Nat} {S : Int} {R : List Int} {m : Nat → Int} (h : StAt w sb rb rc mb fv rg B S R m) (hs : w.heap.size ≤ w'.heap.size) (hk : ∀ k, B ≤ k → k < w.heap.size → w'.heap[k]? = w.heap[k]?) (h1 : B ≤ sb) (h2 : B ≤ rb) : StAt w' sb rb rc mb fv rg B S R m :=
  ⟨{ h.reg with
      blk := (hk sb h1 (lt_of_block h.reg.blk)).trans h.reg.blk
      row := fun i hi => (World.cell?_of_block (w := w) (a := ⟨rb, i, none⟩) (hk rb h2 h.reg.rlt)).trans (h.reg.row i hi)
      free := fun i => (World.frozen?_of_block (w := w) (a := ⟨rb, i, none⟩) (hk rb h2 h.reg.rlt)).trans (h.reg.free i)
      rlt := Nat.lt_of_lt_of_le h.reg.rlt hs }, h.mem.kept hs hk, h.n1, h.n2, h.n3, h.n4⟩
theorem USl.past {w w' : World} {x : Option Addr} {L : List Int} (h : USl w x L) (hs : w.heap.size ≤ w'.heap.size) (hk : ∀ b o, x = some ⟨b, o, none⟩ → b < w.heap.size → w'.heap[b]? = w.heap[b]?) : USl w' x L := by
  rcases h with h | ⟨b, o, rfl, hl, hc⟩
  · exact .inl h
  · have hb := hk b o rfl hl
    exact .inr ⟨b, o, rfl, Nat.lt_of_lt_of_le hl hs, fun i hi => (World.cell?_of_block (w := w) (a := ⟨b, o + i, none⟩) hb).trans (hc i hi)⟩
theorem LRow.past {w w' : World} {lx : Option Addr} {q : Nat} {L : List (Int × Int)} (h : LRow w lx q L) (hs : w.heap.size ≤ w'.heap.size) (hk : ∀ g, lx = some ⟨g, 0, none⟩ → g < w.heap.size → w'.heap[g]? = w.heap[g]?) : LRow w' lx q L := by
  obtain ⟨h1, h2⟩ := h
  refine ⟨h1, h2.imp id fun ⟨g, e, hg, hc⟩ => ⟨g, e, Nat.lt_of_lt_of_le hg hs, fun i hi => ?_⟩⟩
  obtain ⟨c0, c1⟩ := hc i hi
  have hb := hk g e hg
  exact ⟨(World.cell?_of_block (w := w) (a := ⟨g, i * 2, none⟩) hb).trans c0, (World.cell?_of_block (w := w) (a := ⟨g, i * 2 + 1, none⟩) hb).trans c1⟩
theorem RefAt.past {w w' : World} {rx : Option Addr} {n c : Nat} {R : List Int} {lx : Option Addr} {q lc : Nat} {L : List (Int × Int)} {m : Nat → Int} (h : RefAt w rx n c R lx q lc L m) (hs : w.heap.size ≤ w'.heap.size) (hr : ∀ b o, rx = some ⟨b, o, none⟩ → b < w.heap.size → w'.heap[b]? = w.heap[b]?) (hl : ∀ g, lx = some ⟨g, 0, none⟩ → g < w.heap.size → w'.heap[g]? = w.heap[g]?) : RefAt w' rx n c R lx q lc L m :=
  ⟨h.row.past hs hr, h.len, h.cap, h.small, h.bytes, h.lrow.past hs hl, h.lcap, h.inv⟩

/-- The machine s (with R and m), the document's state (with R2 and m2) in its box, the machine t, that nothing has touched. -/
structure Duo (w0 w : World) (sb rb rc mb : Nat) (fv : Value) (rg B : Nat) (S : Int) (R : List Int) (m : Nat → Int) (bx : Nat) (rx : Option Addr) (n c : Nat) (lx : Option Addr) (q lc : Nat) (L : List (Int × Int)) (R2 : List Int) (m2 : Nat → Int)
    (sb' rb' rc' mb' : Nat) (fv' : Value) (rg' B' : Nat) (R0 : List Int) : Prop where
  s : StAt w sb rb rc mb fv rg B S R m
  t : StAt w sb' rb' rc' mb' fv' rg' B' S R0 (fun _ => 0)
  ref : RefAt w rx n c R2 lx q lc L m2
  box : w.heap[bx]? = some (.cells #[.slice rx n c, .int .u32 S, .slice none 0 0, .slice lx q lc] 31 (0, 0))
  k6 : w.heap[w0.heap.size]? = some (.cells #[.bool false] 4 (0, 0))
  bel : Below w0.heap.size w0 w
  lo : w0.heap.size < rb ∧ w0.heap.size < rg ∧ w0.heap.size < bx
  xs : sb < bx ∧ rb < bx ∧ mb < bx ∧ rg < bx ∧ ∀ g, fv.ownBlock = some g → g < bx
  xt : bx < B' ∧ B' ≤ sb' ∧ B' ≤ rb'
  xr : ∀ b o, rx = some ⟨b, o, none⟩ → b ≠ rb ∧ b ≠ rg ∧ b ≠ bx
  xl : ∀ g, lx = some ⟨g, 0, none⟩ → g ≠ rb ∧ g ≠ rg ∧ g ≠ bx

section
variable {w0 w : World} {sb rb rc mb : Nat} {fv : Value} {rg B : Nat} {S : Int} {R : List Int} {m : Nat → Int} {bx : Nat} {rx : Option Addr} {n c : Nat} {lx : Option Addr} {q lc : Nat} {L : List (Int × Int)} {R2 : List Int} {m2 : Nat → Int}
    {sb' rb' rc' mb' : Nat} {fv' : Value} {rg' B' : Nat} {R0 : List Int}
theorem Duo.below (h : Duo w0 w sb rb rc mb fv rg B S R m bx rx n c lx q lc L R2 m2 sb' rb' rc' mb' fv' rg' B' R0) {w' : World} (hb : Below w.heap.size w w') : Duo w0 w' sb rb rc mb fv rg B S R m bx rx n c lx q lc L R2 m2 sb' rb' rc' mb' fv' rg' B' R0 :=
  { h with
    s := h.s.below hb
    t := h.t.below hb
    ref := h.ref.below hb
    box := (hb.block _ (lt_of_block h.box)).trans h.box
    k6 := (hb.block _ (lt_of_block h.k6)).trans h.k6
    bel := h.bel.trans (hb.mono h.bel.size) }
/-- The machine s has done an operation. -/
theorem Duo.did (h : Duo w0 w sb rb rc mb fv rg B S R m bx rx n c lx q lc L R2 m2 sb' rb' rc' mb' fv' rg' B' R0) {w' : World} {R3 : List Int} {m3 : Nat → Int} (hs : StAt w' sb rb rc mb fv rg B S R3 m3) (hk : Kept w w' rb rg) : Duo w0 w' sb rb rc mb fv rg B S R3 m3 bx rx n c lx q lc L R2 m2 sb' rb' rc' mb' fv' rg' B' R0 :=
  have h1 := h.xs
  have h2 := h.xt
  have h3 := h.lo
  { h with
    s := hs
    t := h.t.past hk.size (fun k hB hl => hk.block k hl (by omega) (by omega)) h2.2.1 h2.2.2
    ref := h.ref.past hk.size (fun b o e hl => hk.block b hl (h.xr b o e).1 (h.xr b o e).2.1) (fun g e hl => hk.block g hl (h.xl g e).1 (h.xl g e).2.1)
    box := (hk.block _ (lt_of_block h.box) (by omega) (by omega)).trans h.box
    k6 := (hk.block _ (lt_of_block h.k6) (by omega) (by omega)).trans h.k6
    bel := hk.below h.bel (Nat.le_refl _) (by omega) (by omega) }
/-- The machine t has run. -/
theorem Duo.ran (h : Duo w0 w sb rb rc mb fv rg B S R m bx rx n c lx q lc L R2 m2 sb' rb' rc' mb' fv' rg' B' R0) (hB : B' ≤ rg') {w' : World} (hk : Kept w w' rb' rg') :
    StAt w' sb rb rc mb fv rg B S R m ∧ w'.heap[bx]? = some (.cells #[.slice rx n c, .int .u32 S, .slice none 0 0, .slice lx q lc] 31 (0, 0)) ∧ w'.heap[w0.heap.size]? = some (.cells #[.bool false] 4 (0, 0)) ∧ Below w0.heap.size w0 w' := by
  have h1 := h.xs
  have h2 := h.xt
  have h3 := h.lo
  refine ⟨?_, (hk.block _ (lt_of_block h.box) (by omega) (by omega)).trans h.box, (hk.block _ (lt_of_block h.k6) (by omega) (by omega)).trans h.k6, hk.below h.bel (Nat.le_refl _) (by omega) (by omega)⟩
  have hs := h.s
  refine ⟨{ hs.reg with
      blk := (hk.block sb (lt_of_block hs.reg.blk) (by omega) (by omega)).trans hs.reg.blk
      row := fun i hi => (World.cell?_of_block (w := w) (a := ⟨rb, i, none⟩) (hk.block rb hs.reg.rlt (by omega) (by omega))).trans (hs.reg.row i hi)
      free := fun i => (World.frozen?_of_block (w := w) (a := ⟨rb, i, none⟩) (hk.block rb hs.reg.rlt (by omega) (by omega))).trans (hs.reg.free i)
      rlt := Nat.lt_of_lt_of_le hs.reg.rlt hk.size }, ?_, hs.n1, hs.n2, hs.n3, hs.n4⟩
  have hm := hs.mem
  exact { hm with
    blk := (hk.block mb (lt_of_block hm.blk) (by omega) (by omega)).trans hm.blk
    hrs := Nat.lt_of_lt_of_le hm.hrs hk.size
    flash := by
      obtain ⟨h4, h5⟩ := hm.flash
      refine ⟨h4, ?_⟩
      rcases h5 with h5 | ⟨g, cap, cur, hv, hg2, hh, rr⟩
      · exact .inl h5
      · have hg : g < bx := h1.2.2.2.2 g (by rw [hv]; rfl)
        exact .inr ⟨g, cap, cur, hv, hg2, (hk.block g (lt_of_block hh) (by omega) (by omega)).trans hh, rr⟩
    ram := fun j hj => (World.cell?_of_block (w := w) (a := ⟨rg, j, none⟩) (hk.block rg hm.hrs (by omega) (by omega))).trans (hm.ram j hj)
    free := fun j => (World.frozen?_of_block (w := w) (a := ⟨rg, j, none⟩) (hk.block rg hm.hrs (by omega) (by omega))).trans (hm.free j) }
/-- The document's new state is laid into its box. -/
theorem Duo.boxed (h : Duo w0 w sb rb rc mb fv rg B S R m bx rx n c lx q lc L R2 m2 sb' rb' rc' mb' fv' rg' B' R0) {rx' : Option Addr} {n' c' : Nat} {R3 : List Int} {lx' : Option Addr} {q' lc' : Nat} {L' : List (Int × Int)} {m3 : Nat → Int} (hA : RefAt w rx' n' c' R3 lx' q' lc' L' m3)
    (hr : ∀ b o, rx' = some ⟨b, o, none⟩ → b ≠ rb ∧ b ≠ rg ∧ b ≠ bx) (hl : ∀ g, lx' = some ⟨g, 0, none⟩ → g ≠ rb ∧ g ≠ rg ∧ g ≠ bx) {w' : World} (hg : w.grownBy w' (some bx))
    (hb : w'.heap[bx]? = some (.cells #[.slice rx' n' c', .int .u32 S, .slice none 0 0, .slice lx' q' lc'] 31 (0, 0))) : Duo w0 w' sb rb rc mb fv rg B S R m bx rx' n' c' lx' q' lc' L' R3 m3 sb' rb' rc' mb' fv' rg' B' R0 :=
  have h1 := h.xs
  have h2 := h.xt
  have h3 := h.lo
  have hne : ∀ {k : Nat}, k ≠ bx → (some k : Option Nat) ≠ some bx := fun hk e => by injection e with e; exact hk e
  { h with
    s := h.s.other hg (by omega) (by omega) (by omega) (by omega) (fun e => by have := h1.2.2.2.2 _ e; omega)
    t := h.t.past hg.size (fun k hB hl => hg.block k hl (hne (by omega))) h2.2.1 h2.2.2
    ref := hA.past hg.size (fun b o e hl => hg.block b hl (hne (hr b o e).2.2)) (fun g e hl' => hg.block g hl' (hne (hl g e).2.2))
    box := hb
    k6 := (hg.block _ (lt_of_block h.k6) (hne (by omega))).trans h.k6
    bel := below_grown_at h.bel hg (by omega)
    xr := hr
    xl := hl }
/-- The document has done an operation: its answer stays apart from the rest. -/
theorem Duo.apart (h : Duo w0 w sb rb rc mb fv rg B S R m bx rx n c lx q lc L R2 m2 sb' rb' rc' mb' fv' rg' B' R0) {rx' lx' : Option Addr} (hr : rx' = rx ∨ ∀ b o, rx' = some ⟨b, o, none⟩ → w.heap.size ≤ b) (hl : lx' = lx ∨ ∀ g, lx' = some ⟨g, 0, none⟩ → w.heap.size ≤ g) :
    (∀ b o, rx' = some ⟨b, o, none⟩ → b ≠ rb ∧ b ≠ rg ∧ b ≠ bx) ∧ ∀ g, lx' = some ⟨g, 0, none⟩ → g ≠ rb ∧ g ≠ rg ∧ g ≠ bx := by
  have h1 := h.s.reg.rlt
  have h2 := h.s.mem.hrs
  have h3 := lt_of_block h.box
  constructor
  · rcases hr with rfl | hr
    · exact h.xr
    · exact fun b o e => by have := hr b o e; omega
  · rcases hl with rfl | hl
    · exact h.xl
    · exact fun g e => by have := hl g e; omega
end
/-- How it begins. -/
theorem duo_start {w0 w5 w6 w7 w8 w9 : World} {sb rb rc mb : Nat} {fv : Value} {rg B : Nat} {S : Int} {R0 : List Int} {rb2 m1 p rc2 sb' rb' rc' mb' : Nat} {fv' : Value} {rg' B' rb2' m1' : Nat} (h0 : Below w0.heap.size w0 w5) (hk : w5.heap[w0.heap.size]? = some (.cells #[.bool false] 4 (0, 0)))
    (h1 : StartAt w5 R0 S sb rb rc mb fv rg rb2 B m1 w6) (hc2 : p ≤ rc2) (hp : R0.length = p) (hw7 : w7 = w6.alloc (.cells #[.slice (some ⟨rb2, 0, none⟩) p rc2, .int .u32 S, .slice none 0 0, .slice none 0 0] 31))
    (h2 : StartAt w7 R0 S sb' rb' rc' mb' fv' rg' rb2' B' m1' w8) (hb9 : Below w8.heap.size w8 w9) :
    Duo w0 w9 sb rb rc mb fv rg B S R0 (fun _ => 0) w6.heap.size (some ⟨rb2, 0, none⟩) p rc2 none 0 0 [] R0 (fun _ => 0) sb' rb' rc' mb' fv' rg' B' R0 ∧ B' ≤ rg' := by
  have hst : ∀ {wA wB : World} {sb rb rc mb : Nat} {fv : Value} {rg rb2 B m1 : Nat}, StartAt wA R0 S sb rb rc mb fv rg rb2 B m1 wB → StAt wB sb rb rc mb fv rg B S R0 (fun _ => 0) := fun h =>
    ⟨h.reg, h.mem, by have := h.hm2; have := h.hm4; omega, by have := h.hm2; have := h.hm5; omega, by have := h.hm1; have := h.hm4; omega, fun e => by have := h.hm3 _ e; have := h.hm4; omega⟩
  have s5 := h1.below.size
  have hl5 := lt_of_block hk
  have b67 : Below w6.heap.size w6 w7 := by rw [hw7]; exact (Below.refl _ w6).alloc (Nat.le_refl _) _
  have s7 : w7.heap.size = w6.heap.size + 1 := by rw [hw7]; simp
  have b69 : Below w6.heap.size w6 w9 := b67.trans ((h2.below.trans (hb9.mono h2.below.size)).mono (by omega))
  have b59 : Below w5.heap.size w5 w9 := h1.below.trans (b69.mono s5)
  have x1 := h1.hB
  have x2 := h1.hm1
  have x3 := h1.hm2
  have x4 := h1.hm4
  have x5 := h1.m2
  have x6 := h1.lt2
  have x7 := h1.mem.hb
  have x8 := h1.mem.hr
  have y1 := h2.hB
  have y2 := h2.hm1
  have y3 := h2.hm2
  have y4 := h2.hm4
  have y5 := h2.hm5
  have y6 := h2.mem.hb
  have y7 := h2.mem.hr
  refine ⟨{
    s := (hst h1).below b69
    t := (hst h2).below hb9
    ref := ⟨.inr ⟨rb2, 0, rfl, Nat.lt_of_lt_of_le x6 b69.size, fun i hi => by rw [Nat.zero_add]; exact (b69.cell (p := ⟨rb2, i, none⟩) x6).trans (h1.two i hi)⟩, hp, hc2, by rw [← hp]; exact h1.reg.small, h1.reg.bytes, ⟨rfl, .inl rfl⟩, Nat.le_refl _, inv_nil⟩
    box := (((h2.below.trans (hb9.mono h2.below.size)).block w6.heap.size (by omega)).trans (by rw [hw7]; exact World.alloc_heap_new w6 _))
    k6 := (b59.block _ hl5).trans hk
    bel := h0.trans (b59.mono h0.size)
    lo := by omega
    xs := ⟨lt_of_block h1.reg.blk, h1.reg.rlt, lt_of_block h1.mem.blk, h1.mem.hrs, fun g e => by have := h1.hm3 _ e; have := h1.reg.rlt; omega⟩
    xt := by omega
    xr := fun b o e => by injection e with e; injection e with e1 e2; have := h1.ne2; omega
    xl := fun g e => by cases e }, y7⟩
end Go.Proofs.Ytmkencdkglbpbaa
