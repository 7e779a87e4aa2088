/- vop: a state with its memory; memory of the kinds that come to it. -/
import Derived.Test.YtmkencdkglbpbaaVopU
import Derived.Test.YtmkencdkglbpbaaGrown
set_option maxRecDepth 100000
set_option linter.unusedVariables false
namespace Go.Proofs.Ytmkencdkglbpbaa
open Go.RowKit

/-- Two blocks may have turned, and new ones may have come. -/
structure Kept (w w' : World) (a b : Nat) : Prop where
  os : w'.os = w.os
  tape : w'.tape = w.tape
  output : w'.output = w.output
  size : w.heap.size ≤ w'.heap.size
  block : ∀ k, k < w.heap.size → k ≠ a → k ≠ b → w'.heap[k]? = w.heap[k]?
theorem Kept.trans {w w1 w2 : World} {a b : Nat} (h : Kept w w1 a b) (h2 : Kept w1 w2 a b) : Kept w w2 a b :=
  ⟨h2.os.trans h.os, h2.tape.trans h.tape, h2.output.trans h.output, Nat.le_trans h.size h2.size, fun k hk h1 h3 => (h2.block k (Nat.lt_of_lt_of_le hk h.size) h1 h3).trans (h.block k hk h1 h3)⟩
theorem Kept.of_below {w w' : World} (a b : Nat) (h : Below w.heap.size w w') : Kept w w' a b := ⟨h.os, h.tape, h.output, h.size, fun k hk _ _ => h.block k hk⟩
theorem Kept.of_grown1 {w w' : World} {a : Nat} (b : Nat) (h : w.grownBy w' (some a)) : Kept w w' a b := ⟨h.os, h.tape, h.output, h.size, fun k hk h1 _ => h.block k hk (by intro e; injection e with e; exact h1 e)⟩
theorem Kept.of_grown2 {w w' : World} (a : Nat) {b : Nat} (h : w.grownBy w' (some b)) : Kept w w' a b := ⟨h.os, h.tape, h.output, h.size, fun k hk _ h1 => h.block k hk (by intro e; injection e with e; exact h1 e)⟩
theorem Kept.below {w w' : World} {a b n : Nat} (h : Kept w w' a b) {w0 : World} (h0 : Below n w0 w) (hn : n ≤ w0.heap.size) (ha : n ≤ a) (hb : n ≤ b) : Below n w0 w' :=
  ⟨h.os.trans h0.os, h.tape.trans h0.tape, h.output.trans h0.output, Nat.le_trans h0.size h.size, fun k hk => (h.block k (Nat.lt_of_lt_of_le hk (Nat.le_trans hn h0.size)) (by omega) (by omega)).trans (h0.block k hk)⟩

theorem IsMem.other {w w' : World} {B b : Nat} {fv : Value} {rg : Nat} {F : List Int} {m : Nat → Int} {r : Nat} (h : IsMem w B b fv rg F m) (hg : w.grownBy w' (some r)) (h1 : r ≠ b) (h2 : r ≠ rg) (h3 : fv.ownBlock ≠ some r) : IsMem w' B b fv rg F m where
  blk := by rw [hg.block _ (lt_of_block h.blk) (by intro e; injection e with e; exact h1 e.symm)]; exact h.blk
  hb := h.hb
  hr := h.hr
  hrs := Nat.lt_of_lt_of_le h.hrs hg.size
  flash := by
    obtain ⟨h4, h5⟩ := h.flash
    refine ⟨h4, ?_⟩
    rcases h5 with h5 | ⟨g, cap, cur, hv, hg2, hh, rr⟩
    · exact .inl h5
    · exact .inr ⟨g, cap, cur, hv, hg2, by rw [hg.block _ (lt_of_block hh) (by intro e; injection e with e; exact h3 (by rw [hv, ← e]; rfl))]; exact hh, rr⟩
  flen := h.flen
  fbytes := h.fbytes
  ram := by
    intro j hj
    rw [World.cell?_of_block (w := w) (a := ⟨rg, j, none⟩) (hg.block rg h.hrs (by intro e; injection e with e; exact h2 e.symm))]
    exact h.ram j hj
  free := by
    intro j
    rw [World.frozen?_of_block (w := w) (a := ⟨rg, j, none⟩) (hg.block rg h.hrs (by intro e; injection e with e; exact h2 e.symm))]
    exact h.free j
  words := h.words
  ne1 := h.ne1
  ne2 := h.ne2

/-- A state and its memory, with no flash. -/
structure StAt (w : World) (sb rb rc mb : Nat) (fv : Value) (rg B : Nat) (S : Int) (R : List Int) (m : Nat → Int) : Prop where
  reg : RegAt w sb rb rc mb S R
  mem : IsMem w B mb fv rg [] m
  n1 : rg ≠ rb
  n2 : rg ≠ sb
  n3 : rb ≠ mb
  n4 : fv.ownBlock ≠ some rb
theorem StAt.below {w w' : World} {sb rb rc mb : Nat} {fv : Value} {rg B : Nat} {S : Int} {R : List Int} {m : Nat → Int} (h : StAt w sb rb rc mb fv rg B S R m) (hb : Below w.heap.size w w') : StAt w' sb rb rc mb fv rg B S R m :=
  ⟨h.reg.below hb, h.mem.kept hb.size fun k _ hk => hb.block k hk, h.n1, h.n2, h.n3, h.n4⟩
theorem StAt.regs {w w' : World} {sb rb rc mb : Nat} {fv : Value} {rg B : Nat} {S : Int} {R R' : List Int} {m : Nat → Int} (h : StAt w sb rb rc mb fv rg B S R m) (hr : RegAt w' sb rb rc mb S R') (hg : w.grownBy w' (some rb)) : StAt w' sb rb rc mb fv rg B S R' m :=
  ⟨hr, h.mem.other hg h.n3 h.n1.symm h.n4, h.n1, h.n2, h.n3, h.n4⟩
theorem StAt.stored {w w' : World} {sb rb rc mb : Nat} {fv : Value} {rg B : Nat} {S : Int} {R : List Int} {m m' : Nat → Int} (h : StAt w sb rb rc mb fv rg B S R m) (hm : Stored w B mb fv rg [] m' w') : StAt w' sb rb rc mb fv rg B S R m' :=
  ⟨h.reg.grown hm.2.1 h.n2 h.n1, hm.1, h.n1, h.n2, h.n3, h.n4⟩

/-- The address that a kind comes to. -/
def atV (K S N v0 v1 : Int) : Int := if K = 5 ∨ K = 6 then (v0 + 4 * v1 % 4294967296) % 4294967296 else (S + N) % 4294967296
theorem atV_bd (K S N v0 v1 : Int) : 0 ≤ atV K S N v0 v1 ∧ atV K S N v0 v1 < 4294967296 := by unfold atV; split <;> omega

theorem loadV_bd {w : World} {B b : Nat} {fv : Value} {rg : Nat} {m : Nat → Int} (h : IsMem w B b fv rg [] m) (ad : Int) : 0 ≤ (loadV [] m ad).1 ∧ (loadV [] m ad).1 < 4294967296 := by
  unfold loadV
  split
  · simp
  · split
    · exact h.words _
    · split
      · rename_i h2; simp at h2; omega
      · simp

set_option maxHeartbeats 4000000 in
theorem memory_2 (sb rb rc mb : Nat) (fv : Value) (rg B : Nat) (S : Int) (R : List Int) (m : Nat → Int) (t0 t1 f0 f1 f2 f3 N v0 v1 v2 v3 : Int) (w : World) (hSt : StAt w sb rb rc mb fv rg B S R m) (hN : 0 ≤ N ∧ N < 4294967296) (b0 : 0 ≤ v0 ∧ v0 < 4294967296) (b1 : 0 ≤ v1 ∧ v1 < 4294967296) (b2 : 0 ≤ v2 ∧ v2 < 4294967296) (h0 : At R t0) (h1 : t1 = -1) :
    Calls Try.prog 20 #[.pointer (some ⟨sb, 0, none⟩), opV 2 t0 t1 f0 f1 f2 f3 N, .agg #[.int .u32 v0, .int .u32 v1, .int .u32 v2, .int .u32 v3]] w fun e w' => e = .returned (.tuple #[.bool true, .int .i64 ((loadV [] m (atV 2 S N v0 v1)).2)]) ∧ StAt w' sb rb rc mb fv rg B S (if (loadV [] m (atV 2 S N v0 v1)).2 = 0 then wroteV R t0 t1 (loadV [] m (atV 2 S N v0 v1)).1 0 else R) (m) ∧ Kept w w' rb rg := by
  have hbd := atV_bd 2 S N v0 v1
  have hAT : atV 2 S N v0 v1 = (S + N) % 4294967296 := by simp [atV]
  obtain ⟨A, hA⟩ : ∃ A, A = atV 2 S N v0 v1 := ⟨_, rfl⟩
  rw [← hA] at hbd hAT ⊢
  have hA2 := hAT.symm
  have HA := Lib.hid hbd
  have HSt := Lib.hid hSt
  have hB2 := ((Below.refl _ w).alloc (Nat.le_refl _) (.cells #[.int .i64 2, .int .i64 t0, .int .i64 t1, .int .i64 f0, .int .i64 f1, .int .i64 f2, .int .i64 f3, .int .u32 N] 40)).alloc (by simp) (.cells #[.int .u32 v0, .int .u32 v1, .int .u32 v2, .int .u32 v3] 69)
  have HB2 := Lib.hid hB2
  have HO2 := Lib.hid ((opAt_new w 2 t0 t1 f0 f1 f2 f3 N).below ((Below.refl _ _).alloc (Nat.le_refl _) (.cells #[.int .u32 v0, .int .u32 v1, .int .u32 v2, .int .u32 v3] 69)))
  have hV2 := vAt_new (w.alloc (.cells #[.int .i64 2, .int .i64 t0, .int .i64 t1, .int .i64 f0, .int .i64 f1, .int .i64 f2, .int .i64 f3, .int .u32 N] 40)) v0 v1 v2 v3
  rw [World.size_alloc] at hV2
  have HV2 := Lib.hid hV2
  obtain ⟨c0, c1, c2⟩ := hSt.reg.cells
  have hl := lt_of_block hSt.reg.blk
  have H0 := Lib.hid h0
  have H1 := Lib.hid h1
  have hxb := loadV_bd hSt.mem A
  have hld : Hid (∀ w', StAt w' sb rb rc mb fv rg B S R m → _) := fun w' h => load_any h.mem A hbd.1 hbd.2
  generalize (loadV [] m A).1 = X at hxb hld ⊢
  generalize (loadV [] m A).2 = E at hld ⊢
  have HXB := Lib.hid hxb
  clear h0 h1 hxb
  clear hSt hA hAT hbd hB2 hV2
  go_enter Try.func20, Try.ntmps20
  go_wp2_with fail
  go_quiet (fail)
  go_wp2_with fail
  have hB3 := below_drewN HB2.out nq
  have hO3 := HO2.out.below (below_drewN (Below.refl _ _) nq)
  have hV3 := HV2.out.below (below_drewN (Below.refl _ _) nq)
  generalize World.drewN _ _ = w3 at hB3 hO3 hV3 ⊢
  have HB3 := Lib.hid hB3
  have HO3 := Lib.hid hO3
  have HV3 := Lib.hid hV3
  have HSt3 := Lib.hid (HSt.out.below hB3)
  clear hB3 hO3 hV3
  refine (hld.out w3 HSt3.out).mono ?_
  rintro e w4 ⟨rfl, rfl⟩
  by_cases hE : E = 0
  · subst hE
    obtain ⟨k0, k1, k2, k3, k4, k5, k6, k7⟩ := HO3.out.cells
    go_wp2_with fail
    refine (write_any sb rb rc mb S R 2 t0 t1 f0 f1 f2 f3 N X 0 w4 HSt3.out.reg H0.out (.inl H1.out) HXB.out (by omega)).mono ?_
    rintro e w5 ⟨rfl, hR5, hg5⟩
    have HSt5 := Lib.hid (HSt3.out.regs hR5 hg5)
    have HK5 := Lib.hid ((Kept.of_below rb rg HB3.out).trans (Kept.of_grown1 rg hg5))
    clear hR5 hg5 k0 k1 k2 k3 k4 k5 k6 k7
    go_wp2_with fail
    go_ret2
    exact ⟨rfl, by simpa using HSt5.out, HK5.out⟩
  · have hE2 : (E == 0) = false := by simpa using hE
    have HE := Lib.hid hE
    clear hE
    go_wp2_with fail
    go_ret2
    exact ⟨rfl, HSt3.out, Kept.of_below rb rg HB3.out⟩

set_option maxHeartbeats 4000000 in
theorem memory_5 (sb rb rc mb : Nat) (fv : Value) (rg B : Nat) (S : Int) (R : List Int) (m : Nat → Int) (t0 t1 f0 f1 f2 f3 N v0 v1 v2 v3 : Int) (w : World) (hSt : StAt w sb rb rc mb fv rg B S R m) (hN : 0 ≤ N ∧ N < 4294967296) (b0 : 0 ≤ v0 ∧ v0 < 4294967296) (b1 : 0 ≤ v1 ∧ v1 < 4294967296) (b2 : 0 ≤ v2 ∧ v2 < 4294967296) (h0 : At R t0) (h1 : t1 = -1) :
    Calls Try.prog 20 #[.pointer (some ⟨sb, 0, none⟩), opV 5 t0 t1 f0 f1 f2 f3 N, .agg #[.int .u32 v0, .int .u32 v1, .int .u32 v2, .int .u32 v3]] w fun e w' => e = .returned (.tuple #[.bool true, .int .i64 ((loadV [] m (atV 5 S N v0 v1)).2)]) ∧ StAt w' sb rb rc mb fv rg B S (if (loadV [] m (atV 5 S N v0 v1)).2 = 0 then wroteV R t0 t1 (loadV [] m (atV 5 S N v0 v1)).1 0 else R) (m) ∧ Kept w w' rb rg := by
  have hbd := atV_bd 5 S N v0 v1
  have hAT : atV 5 S N v0 v1 = (v0 + 4 * v1 % 4294967296) % 4294967296 := by simp [atV]
  obtain ⟨A, hA⟩ : ∃ A, A = atV 5 S N v0 v1 := ⟨_, rfl⟩
  rw [← hA] at hbd hAT ⊢
  have hA2 := hAT.symm
  have HA := Lib.hid hbd
  have HSt := Lib.hid hSt
  have hB2 := ((Below.refl _ w).alloc (Nat.le_refl _) (.cells #[.int .i64 5, .int .i64 t0, .int .i64 t1, .int .i64 f0, .int .i64 f1, .int .i64 f2, .int .i64 f3, .int .u32 N] 40)).alloc (by simp) (.cells #[.int .u32 v0, .int .u32 v1, .int .u32 v2, .int .u32 v3] 69)
  have HB2 := Lib.hid hB2
  have HO2 := Lib.hid ((opAt_new w 5 t0 t1 f0 f1 f2 f3 N).below ((Below.refl _ _).alloc (Nat.le_refl _) (.cells #[.int .u32 v0, .int .u32 v1, .int .u32 v2, .int .u32 v3] 69)))
  have hV2 := vAt_new (w.alloc (.cells #[.int .i64 5, .int .i64 t0, .int .i64 t1, .int .i64 f0, .int .i64 f1, .int .i64 f2, .int .i64 f3, .int .u32 N] 40)) v0 v1 v2 v3
  rw [World.size_alloc] at hV2
  have HV2 := Lib.hid hV2
  obtain ⟨c0, c1, c2⟩ := hSt.reg.cells
  have hl := lt_of_block hSt.reg.blk
  have H0 := Lib.hid h0
  have H1 := Lib.hid h1
  have hxb := loadV_bd hSt.mem A
  have hld : Hid (∀ w', StAt w' sb rb rc mb fv rg B S R m → _) := fun w' h => load_any h.mem A hbd.1 hbd.2
  generalize (loadV [] m A).1 = X at hxb hld ⊢
  generalize (loadV [] m A).2 = E at hld ⊢
  have HXB := Lib.hid hxb
  clear h0 h1 hxb
  clear hSt hA hAT hbd hB2 hV2
  go_enter Try.func20, Try.ntmps20
  go_wp2_with fail
  go_quiet (fail)
  go_wp2_with fail
  have hB3 := below_drewN HB2.out nq
  have hO3 := HO2.out.below (below_drewN (Below.refl _ _) nq)
  have hV3 := HV2.out.below (below_drewN (Below.refl _ _) nq)
  generalize World.drewN _ _ = w3 at hB3 hO3 hV3 ⊢
  have HB3 := Lib.hid hB3
  have HO3 := Lib.hid hO3
  have HV3 := Lib.hid hV3
  have HSt3 := Lib.hid (HSt.out.below hB3)
  clear hB3 hO3 hV3
  refine (hld.out w3 HSt3.out).mono ?_
  rintro e w4 ⟨rfl, rfl⟩
  by_cases hE : E = 0
  · subst hE
    obtain ⟨k0, k1, k2, k3, k4, k5, k6, k7⟩ := HO3.out.cells
    go_wp2_with fail
    refine (write_any sb rb rc mb S R 5 t0 t1 f0 f1 f2 f3 N X 0 w4 HSt3.out.reg H0.out (.inl H1.out) HXB.out (by omega)).mono ?_
    rintro e w5 ⟨rfl, hR5, hg5⟩
    have HSt5 := Lib.hid (HSt3.out.regs hR5 hg5)
    have HK5 := Lib.hid ((Kept.of_below rb rg HB3.out).trans (Kept.of_grown1 rg hg5))
    clear hR5 hg5 k0 k1 k2 k3 k4 k5 k6 k7
    go_wp2_with fail
    go_ret2
    exact ⟨rfl, by simpa using HSt5.out, HK5.out⟩
  · have hE2 : (E == 0) = false := by simpa using hE
    have HE := Lib.hid hE
    clear hE
    go_wp2_with fail
    go_ret2
    exact ⟨rfl, HSt3.out, Kept.of_below rb rg HB3.out⟩

set_option maxHeartbeats 4000000 in
theorem memory_3 (sb rb rc mb : Nat) (fv : Value) (rg B : Nat) (S : Int) (R : List Int) (m : Nat → Int) (t0 t1 f0 f1 f2 f3 N v0 v1 v2 v3 : Int) (w : World) (hSt : StAt w sb rb rc mb fv rg B S R m) (hN : 0 ≤ N ∧ N < 4294967296) (b0 : 0 ≤ v0 ∧ v0 < 4294967296) (b1 : 0 ≤ v1 ∧ v1 < 4294967296) (b2 : 0 ≤ v2 ∧ v2 < 4294967296) :
    Calls Try.prog 20 #[.pointer (some ⟨sb, 0, none⟩), opV 3 t0 t1 f0 f1 f2 f3 N, .agg #[.int .u32 v0, .int .u32 v1, .int .u32 v2, .int .u32 v3]] w fun e w' => e = .returned (.tuple #[.bool true, .int .i64 (storeE (atV 3 S N v0 v1))]) ∧ StAt w' sb rb rc mb fv rg B S (R) (storeM m (atV 3 S N v0 v1) v0) ∧ Kept w w' rb rg := by
  have hbd := atV_bd 3 S N v0 v1
  have hAT : atV 3 S N v0 v1 = (S + N) % 4294967296 := by simp [atV]
  obtain ⟨A, hA⟩ : ∃ A, A = atV 3 S N v0 v1 := ⟨_, rfl⟩
  rw [← hA] at hbd hAT ⊢
  have hA2 := hAT.symm
  have HA := Lib.hid hbd
  have HSt := Lib.hid hSt
  have hB2 := ((Below.refl _ w).alloc (Nat.le_refl _) (.cells #[.int .i64 3, .int .i64 t0, .int .i64 t1, .int .i64 f0, .int .i64 f1, .int .i64 f2, .int .i64 f3, .int .u32 N] 40)).alloc (by simp) (.cells #[.int .u32 v0, .int .u32 v1, .int .u32 v2, .int .u32 v3] 69)
  have HB2 := Lib.hid hB2
  have HO2 := Lib.hid ((opAt_new w 3 t0 t1 f0 f1 f2 f3 N).below ((Below.refl _ _).alloc (Nat.le_refl _) (.cells #[.int .u32 v0, .int .u32 v1, .int .u32 v2, .int .u32 v3] 69)))
  have hV2 := vAt_new (w.alloc (.cells #[.int .i64 3, .int .i64 t0, .int .i64 t1, .int .i64 f0, .int .i64 f1, .int .i64 f2, .int .i64 f3, .int .u32 N] 40)) v0 v1 v2 v3
  rw [World.size_alloc] at hV2
  have HV2 := Lib.hid hV2
  obtain ⟨c0, c1, c2⟩ := hSt.reg.cells
  have hl := lt_of_block hSt.reg.blk
  have hst : Hid (∀ w', StAt w' sb rb rc mb fv rg B S R m → _) := fun w' h => store_any h.mem A hbd.1 hbd.2 v0 b0.1 b0.2
  generalize storeM m A v0 = m' at hst ⊢
  generalize storeE A = E at hst ⊢
  clear hSt hA hAT hbd hB2 hV2
  go_enter Try.func20, Try.ntmps20
  go_wp2_with fail
  go_quiet (fail)
  go_wp2_with fail
  have hB3 := below_drewN HB2.out nq
  have hO3 := HO2.out.below (below_drewN (Below.refl _ _) nq)
  have hV3 := HV2.out.below (below_drewN (Below.refl _ _) nq)
  generalize World.drewN _ _ = w3 at hB3 hO3 hV3 ⊢
  have HB3 := Lib.hid hB3
  have HO3 := Lib.hid hO3
  have HV3 := Lib.hid hV3
  have HSt3 := Lib.hid (HSt.out.below hB3)
  clear hB3 hO3 hV3
  have hD : Below w3.heap.size w3 w3.drew := (Below.refl _ w3).drew
  have HSt4 := Lib.hid (HSt3.out.below hD)
  have HV4 := Lib.hid (HV3.out.below hD)
  have q2 := HSt4.out.reg.cells.2.2
  have qv : w3.drew.cell? ⟨w.heap.size + 1, 0, none⟩ = some (.int .u32 v0) := by obtain ⟨d0, d1, d2, d3⟩ := HV4.out.cells; exact d0
  have hrg : rg < w.heap.size := HSt.out.mem.hrs
  go_region_held3 (fun w' => w'.cell? ⟨sb, 2, none⟩ = some (.pointer (some ⟨mb, 0, none⟩)) ∧ w'.cell? ⟨w.heap.size + 1, 0, none⟩ = some (.int .u32 v0))
    (first
      | go_keep
      | exact ⟨(HSt4.out.stored hs5).reg.cells.2.2, by rw [World.cell?_of_block (w := w3.drew) (a := ⟨w.heap.size + 1, 0, none⟩) (hs5.2.1.block _ (lt_of_block HV4.out) (by intro e; injection e with e; have e2 : w.heap.size + 1 = rg := e; omega))]; exact qv⟩)
    (first
      | (go_at_call 37; refine (hst.out _ HSt4.out).mono ?_; rintro e w5 ⟨rfl, hs5⟩))
  have HSt5 := Lib.hid (HSt4.out.stored hs5)
  have HK5 := Lib.hid ((Kept.of_below rb rg (HB3.out.trans (hD.mono HB3.out.size))).trans (Kept.of_grown2 rb hs5.2.1))
  clear hs5 q2 qv hD
  go_wp2_with fail
  go_ret2
  exact ⟨rfl, HSt5.out, HK5.out⟩

set_option maxHeartbeats 4000000 in
theorem memory_6 (sb rb rc mb : Nat) (fv : Value) (rg B : Nat) (S : Int) (R : List Int) (m : Nat → Int) (t0 t1 f0 f1 f2 f3 N v0 v1 v2 v3 : Int) (w : World) (hSt : StAt w sb rb rc mb fv rg B S R m) (hN : 0 ≤ N ∧ N < 4294967296) (b0 : 0 ≤ v0 ∧ v0 < 4294967296) (b1 : 0 ≤ v1 ∧ v1 < 4294967296) (b2 : 0 ≤ v2 ∧ v2 < 4294967296) :
    Calls Try.prog 20 #[.pointer (some ⟨sb, 0, none⟩), opV 6 t0 t1 f0 f1 f2 f3 N, .agg #[.int .u32 v0, .int .u32 v1, .int .u32 v2, .int .u32 v3]] w fun e w' => e = .returned (.tuple #[.bool true, .int .i64 (storeE (atV 6 S N v0 v1))]) ∧ StAt w' sb rb rc mb fv rg B S (R) (storeM m (atV 6 S N v0 v1) v2) ∧ Kept w w' rb rg := by
  have hbd := atV_bd 6 S N v0 v1
  have hAT : atV 6 S N v0 v1 = (v0 + 4 * v1 % 4294967296) % 4294967296 := by simp [atV]
  obtain ⟨A, hA⟩ : ∃ A, A = atV 6 S N v0 v1 := ⟨_, rfl⟩
  rw [← hA] at hbd hAT ⊢
  have hA2 := hAT.symm
  have HA := Lib.hid hbd
  have HSt := Lib.hid hSt
  have hB2 := ((Below.refl _ w).alloc (Nat.le_refl _) (.cells #[.int .i64 6, .int .i64 t0, .int .i64 t1, .int .i64 f0, .int .i64 f1, .int .i64 f2, .int .i64 f3, .int .u32 N] 40)).alloc (by simp) (.cells #[.int .u32 v0, .int .u32 v1, .int .u32 v2, .int .u32 v3] 69)
  have HB2 := Lib.hid hB2
  have HO2 := Lib.hid ((opAt_new w 6 t0 t1 f0 f1 f2 f3 N).below ((Below.refl _ _).alloc (Nat.le_refl _) (.cells #[.int .u32 v0, .int .u32 v1, .int .u32 v2, .int .u32 v3] 69)))
  have hV2 := vAt_new (w.alloc (.cells #[.int .i64 6, .int .i64 t0, .int .i64 t1, .int .i64 f0, .int .i64 f1, .int .i64 f2, .int .i64 f3, .int .u32 N] 40)) v0 v1 v2 v3
  rw [World.size_alloc] at hV2
  have HV2 := Lib.hid hV2
  obtain ⟨c0, c1, c2⟩ := hSt.reg.cells
  have hl := lt_of_block hSt.reg.blk
  have hst : Hid (∀ w', StAt w' sb rb rc mb fv rg B S R m → _) := fun w' h => store_any h.mem A hbd.1 hbd.2 v2 b2.1 b2.2
  generalize storeM m A v2 = m' at hst ⊢
  generalize storeE A = E at hst ⊢
  clear hSt hA hAT hbd hB2 hV2
  go_enter Try.func20, Try.ntmps20
  go_wp2_with fail
  go_quiet (fail)
  go_wp2_with fail
  have hB3 := below_drewN HB2.out nq
  have hO3 := HO2.out.below (below_drewN (Below.refl _ _) nq)
  have hV3 := HV2.out.below (below_drewN (Below.refl _ _) nq)
  generalize World.drewN _ _ = w3 at hB3 hO3 hV3 ⊢
  have HB3 := Lib.hid hB3
  have HO3 := Lib.hid hO3
  have HV3 := Lib.hid hV3
  have HSt3 := Lib.hid (HSt.out.below hB3)
  clear hB3 hO3 hV3
  have hD : Below w3.heap.size w3 w3.drew := (Below.refl _ w3).drew
  have HSt4 := Lib.hid (HSt3.out.below hD)
  have HV4 := Lib.hid (HV3.out.below hD)
  have q2 := HSt4.out.reg.cells.2.2
  have qv : w3.drew.cell? ⟨w.heap.size + 1, 2, none⟩ = some (.int .u32 v2) := by obtain ⟨d0, d1, d2, d3⟩ := HV4.out.cells; exact d2
  have hrg : rg < w.heap.size := HSt.out.mem.hrs
  go_region_held3 (fun w' => w'.cell? ⟨sb, 2, none⟩ = some (.pointer (some ⟨mb, 0, none⟩)) ∧ w'.cell? ⟨w.heap.size + 1, 2, none⟩ = some (.int .u32 v2))
    (first
      | go_keep
      | exact ⟨(HSt4.out.stored hs5).reg.cells.2.2, by rw [World.cell?_of_block (w := w3.drew) (a := ⟨w.heap.size + 1, 2, none⟩) (hs5.2.1.block _ (lt_of_block HV4.out) (by intro e; injection e with e; have e2 : w.heap.size + 1 = rg := e; omega))]; exact qv⟩)
    (first
      | (go_at_call 37; refine (hst.out _ HSt4.out).mono ?_; rintro e w5 ⟨rfl, hs5⟩))
  have HSt5 := Lib.hid (HSt4.out.stored hs5)
  have HK5 := Lib.hid ((Kept.of_below rb rg (HB3.out.trans (hD.mono HB3.out.size))).trans (Kept.of_grown2 rb hs5.2.1))
  clear hs5 q2 qv hD
  go_wp2_with fail
  go_ret2
  exact ⟨rfl, HSt5.out, HK5.out⟩

set_option maxHeartbeats 4000000 in
theorem memory_4 (sb rb rc mb : Nat) (fv : Value) (rg B : Nat) (S : Int) (R : List Int) (m : Nat → Int) (t0 t1 f0 f1 f2 f3 N v0 v1 v2 v3 : Int) (w : World) (hSt : StAt w sb rb rc mb fv rg B S R m) (hN : 0 ≤ N ∧ N < 4294967296) (b0 : 0 ≤ v0 ∧ v0 < 4294967296) (b1 : 0 ≤ v1 ∧ v1 < 4294967296) (b2 : 0 ≤ v2 ∧ v2 < 4294967296) (h0 : At R t0) (h1 : t1 = -1) :
    Calls Try.prog 20 #[.pointer (some ⟨sb, 0, none⟩), opV 4 t0 t1 f0 f1 f2 f3 N, .agg #[.int .u32 v0, .int .u32 v1, .int .u32 v2, .int .u32 v3]] w fun e w' => e = .returned (.tuple #[.bool true, .int .i64 (0)]) ∧ StAt w' sb rb rc mb fv rg B S (wroteV R t0 t1 (atV 4 S N v0 v1) 0) (m) ∧ Kept w w' rb rg := by
  have hbd := atV_bd 4 S N v0 v1
  have hAT : atV 4 S N v0 v1 = (S + N) % 4294967296 := by simp [atV]
  obtain ⟨A, hA⟩ : ∃ A, A = atV 4 S N v0 v1 := ⟨_, rfl⟩
  rw [← hA] at hbd hAT ⊢
  have hA2 := hAT.symm
  have HA := Lib.hid hbd
  have HSt := Lib.hid hSt
  have hB2 := ((Below.refl _ w).alloc (Nat.le_refl _) (.cells #[.int .i64 4, .int .i64 t0, .int .i64 t1, .int .i64 f0, .int .i64 f1, .int .i64 f2, .int .i64 f3, .int .u32 N] 40)).alloc (by simp) (.cells #[.int .u32 v0, .int .u32 v1, .int .u32 v2, .int .u32 v3] 69)
  have HB2 := Lib.hid hB2
  have HO2 := Lib.hid ((opAt_new w 4 t0 t1 f0 f1 f2 f3 N).below ((Below.refl _ _).alloc (Nat.le_refl _) (.cells #[.int .u32 v0, .int .u32 v1, .int .u32 v2, .int .u32 v3] 69)))
  have hV2 := vAt_new (w.alloc (.cells #[.int .i64 4, .int .i64 t0, .int .i64 t1, .int .i64 f0, .int .i64 f1, .int .i64 f2, .int .i64 f3, .int .u32 N] 40)) v0 v1 v2 v3
  rw [World.size_alloc] at hV2
  have HV2 := Lib.hid hV2
  obtain ⟨c0, c1, c2⟩ := hSt.reg.cells
  have hl := lt_of_block hSt.reg.blk
  have H0 := Lib.hid h0
  have H1 := Lib.hid h1
  clear h0 h1
  clear hSt hA hAT hbd hB2 hV2
  go_enter Try.func20, Try.ntmps20
  go_wp2_with fail
  go_quiet (fail)
  go_wp2_with fail
  have hB3 := below_drewN HB2.out nq
  have hO3 := HO2.out.below (below_drewN (Below.refl _ _) nq)
  have hV3 := HV2.out.below (below_drewN (Below.refl _ _) nq)
  generalize World.drewN _ _ = w3 at hB3 hO3 hV3 ⊢
  have HB3 := Lib.hid hB3
  have HO3 := Lib.hid hO3
  have HV3 := Lib.hid hV3
  have HSt3 := Lib.hid (HSt.out.below hB3)
  clear hB3 hO3 hV3
  obtain ⟨k0, k1, k2, k3, k4, k5, k6, k7⟩ := HO3.out.cells
  go_wp2_with fail
  have hw := write_any sb rb rc mb S R 4 t0 t1 f0 f1 f2 f3 N A 0 w3 HSt3.out.reg H0.out (.inl H1.out) HA.out (by omega)
  refine hw.mono ?_
  rintro e w5 ⟨rfl, hR5, hg5⟩
  have HSt5 := Lib.hid (HSt3.out.regs hR5 hg5)
  have HK5 := Lib.hid ((Kept.of_below rb rg HB3.out).trans (Kept.of_grown1 rg hg5))
  clear hR5 hg5 k0 k1 k2 k3 k4 k5 k6 k7
  go_wp2_with fail
  go_ret2
  exact ⟨rfl, HSt5.out, HK5.out⟩

end Go.Proofs.Ytmkencdkglbpbaa
