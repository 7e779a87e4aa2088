/- mem: Store, New, Flash and Copy by contracts. -/
import Derived.Test.YtmkencdkglbpbaaMemB
import Derived.Deep.RegionWith
set_option maxRecDepth 100000
namespace Go.Proofs.Ytmkencdkglbpbaa
open Go.RowKit

theorem ret_int {k : IntKind} {a b : Int} (h : a = b) : Ending.returned (.int k a) = .returned (.int k b) := by rw [h]

theorem IsMem.store {w : World} {B b : Nat} {fv : Value} {rg : Nat} {F : List Int} {m : Nat → Int} (h : IsMem w B b fv rg F m) (i : Nat) (hi : i < 16384) (x : Int) (x0 : 0 ≤ x) (x1 : x < 4294967296) :
    IsMem ((((w.setCell ⟨rg, 4 * i, none⟩ (.int .u8 (x % 256))).setCell ⟨rg, 4 * i + 1, none⟩ (.int .u8 (x / 256 % 256))).setCell ⟨rg, 4 * i + 2, none⟩ (.int .u8 (x / 65536 % 256))).setCell ⟨rg, 4 * i + 3, none⟩ (.int .u8 (x / 16777216 % 256)))
      B b fv rg F (fun j => if j = i then x else m j) where
  blk := by
    rw [Below.heap_setCell _ _ _ _ (fun e => h.ne1 e.symm), Below.heap_setCell _ _ _ _ (fun e => h.ne1 e.symm), Below.heap_setCell _ _ _ _ (fun e => h.ne1 e.symm), Below.heap_setCell _ _ _ _ (fun e => h.ne1 e.symm)]
    exact h.blk
  hb := h.hb
  hr := h.hr
  hrs := by simpa using h.hrs
  flash := ownsRow_setCell_other (ownsRow_setCell_other (ownsRow_setCell_other (ownsRow_setCell_other h.flash h.ne2 _) h.ne2 _) h.ne2 _) h.ne2 _
  flen := h.flen
  fbytes := h.fbytes
  ram := by
    intro j hj
    obtain ⟨w0, w1, w2, w3⟩ := h.word i hi
    by_cases e0 : j = 4 * i
    · subst e0
      rw [World.cell?_setCell_other _ _ _ _ (by simp), World.cell?_setCell_other _ _ _ _ (by simp), World.cell?_setCell_other _ _ _ _ (by simp), World.cell?_setCell_same _ _ _ w0, show 4 * i / 4 = i from by omega, show 4 * i % 4 = 0 from by omega]
      simp
    by_cases e1 : j = 4 * i + 1
    · subst e1
      rw [World.cell?_setCell_other _ _ _ _ (by simp), World.cell?_setCell_other _ _ _ _ (by simp), World.cell?_setCell_same _ _ _ (u := .int .u8 (m i / 256 % 256)) (by rw [World.cell?_setCell_other _ _ _ _ (by simp)]; exact w1), show (4 * i + 1) / 4 = i from by omega, show (4 * i + 1) % 4 = 1 from by omega]
      simp
    by_cases e2 : j = 4 * i + 2
    · subst e2
      rw [World.cell?_setCell_other _ _ _ _ (by simp), World.cell?_setCell_same _ _ _ (u := .int .u8 (m i / 65536 % 256)) (by rw [World.cell?_setCell_other _ _ _ _ (by simp), World.cell?_setCell_other _ _ _ _ (by simp)]; exact w2), show (4 * i + 2) / 4 = i from by omega, show (4 * i + 2) % 4 = 2 from by omega]
      simp
    by_cases e3 : j = 4 * i + 3
    · subst e3
      rw [World.cell?_setCell_same _ _ _ (u := .int .u8 (m i / 16777216 % 256)) (by rw [World.cell?_setCell_other _ _ _ _ (by simp), World.cell?_setCell_other _ _ _ _ (by simp), World.cell?_setCell_other _ _ _ _ (by simp)]; exact w3), show (4 * i + 3) / 4 = i from by omega, show (4 * i + 3) % 4 = 3 from by omega]
      simp
    rw [World.cell?_setCell_other _ _ _ _ (by simp; try omega), World.cell?_setCell_other _ _ _ _ (by simp; try omega), World.cell?_setCell_other _ _ _ _ (by simp; try omega), World.cell?_setCell_other _ _ _ _ (by simp; try omega), h.ram j hj, if_neg (by omega)]
  free := by intro j; simp [h.free j]
  words := by intro j; by_cases e : j = i <;> simp [e, x0, x1, h.words j]
  ne1 := h.ne1
  ne2 := h.ne2

/-- What Store returns. -/
def storeE (ad : Int) : Int := if ad % 4 ≠ 0 then 60 else if 134217728 ≤ ad ∧ ad < 134283264 then 62 else if 536870912 ≤ ad ∧ ad ≤ 536936444 then 0 else 61
/-- The words of RAM behind it. -/
def storeM (m : Nat → Int) (ad x : Int) : Nat → Int := if storeE ad = 0 then fun j => if j = ((ad - 536870912) / 4).toNat then x else m j else m

theorem grownBy_refl (w : World) (r : Option Nat) : w.grownBy w r := ⟨rfl, rfl, rfl, Nat.le_refl _, fun _ _ _ => rfl⟩
theorem grownBy_setCell {w w' : World} {g : Nat} (h : w.grownBy w' (some g)) (o : Nat) (v : Value) : w.grownBy (w'.setCell ⟨g, o, none⟩ v) (some g) :=
  ⟨h.os, h.tape, h.output, by simpa using h.size, fun k hk hne => by rw [Below.heap_setCell _ _ _ _ (fun e => hne (by simp [e]))]; exact h.block k hk hne⟩

/-- What Store leaves. -/
def Stored (w : World) (B b : Nat) (fv : Value) (rg : Nat) (F : List Int) (m' : Nat → Int) (w' : World) : Prop := IsMem w' B b fv rg F m' ∧ w.grownBy w' (some rg) ∧ w'.heap.size = w.heap.size

theorem store_any {w : World} {B b : Nat} {fv : Value} {rg : Nat} {F : List Int} {m : Nat → Int} (h : IsMem w B b fv rg F m) (ad : Int) (h0 : 0 ≤ ad) (h1 : ad < 4294967296) (x : Int) (x0 : 0 ≤ x) (x1 : x < 4294967296) :
    Calls Try.prog 37 #[.pointer (some ⟨b, 0, none⟩), .int .u32 ad, .int .u32 x] w fun e w' => e = .returned (.int .i64 (storeE ad)) ∧ Stored w B b fv rg F (storeM m ad x) w' := by
  obtain ⟨hc0, hc1⟩ := two_cells h.blk
  have hH := Lib.hid h
  have heq := eql_nil
  have same : storeE ad ≠ 0 → Stored w B b fv rg F (storeM m ad x) w := fun hne => ⟨by rw [storeM, if_neg hne]; exact h, grownBy_refl _ _, rfl⟩
  have Hsame := Lib.hid same
  clear same
  by_cases hal : ad % 4 ≠ 0
  · have hv : storeE ad = 60 := by simp [storeE, hal]
    have hal' : (ad % 4 != 0) = true := by simpa using hal
    have Hv := Lib.hid hv
    clear hv h hal hc0 hc1
    go_enter Try.func37, Try.ntmps37
    go_wp2
    go_ret
    exact ⟨ret_int Hv.out.symm, Hsame.out (by rw [Hv.out]; decide)⟩
  · have hal' : (ad % 4 != 0) = false := by simpa using hal
    by_cases hf : 134217728 ≤ ad ∧ ad < 134283264
    · have hv : storeE ad = 62 := by simp [storeE, hal, hf]
      obtain ⟨hf1, hf2⟩ := hf
      have Hv := Lib.hid hv
      clear hv h hal hc0 hc1
      go_enter Try.func37, Try.ntmps37
      go_wp2
      go_ret
      exact ⟨ret_int Hv.out.symm, Hsame.out (by rw [Hv.out]; decide)⟩
    · have hd : decide (134217728 ≤ ad) = false ∨ (decide (134217728 ≤ ad) = true ∧ decide (ad < 134283264) = false) := by
        by_cases h2 : 134217728 ≤ ad
        · right; exact ⟨by simpa using h2, by simp; omega⟩
        · left; simpa using h2
      by_cases hr : 536870912 ≤ ad ∧ ad ≤ 536936444
      · obtain ⟨i, hi⟩ : ∃ i : Nat, (i : Int) = (ad - 536870912) / 4 := ⟨((ad - 536870912) / 4).toNat, by omega⟩
        have hv : storeE ad = 0 := by simp only [storeE, if_neg hal, if_neg hf, if_pos hr]
        have hm : storeM m ad x = fun j => if j = i then x else m j := by
          rw [storeM, if_pos hv]
          have : ((ad - 536870912) / 4).toNat = i := by omega
          rw [this]
        have hst := h.store i (by omega) x x0 x1
        obtain ⟨w0, w1, w2, w3⟩ := h.word i (by omega)
        have f0 := h.free (4 * i)
        have f1 := h.free (4 * i + 1)
        have f2 := h.free (4 * i + 2)
        have f3 := h.free (4 * i + 3)
        rw [show x / 16777216 % 256 = x / 16777216 from by omega] at hst
        have ho : (ad - 536870912).toNat = 4 * i := by omega
        have Ho := Lib.hid ho
        have Hv := Lib.hid hv
        have Hm := Lib.hid hm
        have Hst := Lib.hid hst
        have hge : ¬ ad < 134283264 := by omega
        obtain ⟨hr1, hr2⟩ := hr
        clear hv h hal hm hst ho hi hf hd
        go_enter Try.func37, Try.ntmps37
        go_wp2_with fail
        refine (within_yes rg 0 65536 65536 536870912 ad 4 4 w rfl (by omega) h1 hr1 (by omega) (by omega) (by omega) (by omega) (by omega)).mono ?_
        rintro e w' ⟨⟨c', rfl⟩, rfl⟩
        rw [Ho.out]
        try rw [Nat.zero_add]
        go_wp2
        refine wp_loop_rounds 5 ?_
        rw [rounds_succ]
        go_wp2
        rw [rounds_succ]
        go_wp2
        rw [rounds_succ]
        go_wp2
        rw [rounds_succ]
        go_wp2
        rw [rounds_succ]
        go_wp2
        go_ret
        exact ⟨ret_int Hv.out.symm, by rw [Hm.out]; exact Hst.out, grownBy_setCell (grownBy_setCell (grownBy_setCell (grownBy_setCell (grownBy_refl _ _) _ _) _ _) _ _) _ _, by simp⟩
      · have hv : storeE ad = 61 := by simp only [storeE, if_neg hal, if_neg hf, if_neg hr]
        have hfar : ad < 536870912 ∨ ((65536 : Nat) : Int) - 4 < ad - 536870912 := by omega
        have Hv := Lib.hid hv
        clear hv h hal hf
        rcases hd with hd | ⟨hd1, hd2⟩
        all_goals
          go_enter Try.func37, Try.ntmps37
          go_wp2_with fail
          refine (within_nil (some ⟨rg, 0, none⟩) 65536 65536 536870912 ad 4 w (by omega) h1 (by omega) (by omega) (by omega) hfar).mono ?_
          rintro e w' ⟨rfl, rfl⟩
          go_wp2
          go_ret
          exact ⟨ret_int Hv.out.symm, Hsame.out (by rw [Hv.out]; decide)⟩
end Go.Proofs.Ytmkencdkglbpbaa
