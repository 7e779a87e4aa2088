/- MemLeast: the walk. -/
import Derived.Test.YtpfeddfbmnimlaaRamIt
import Derived.Test.YtpfeddfbmnimlaaAnchor06
import Derived.Test.YtpfeddfbmnimlaaRow06
set_option maxRecDepth 100000
set_option linter.unusedVariables false
namespace Go.Proofs.Ytpfeddfbmnimlaa
open Go.RowKit Go.Shelf

attribute [local go_sem] Oper.semAt_some

/-- Words that came in. -/
def WordRow (w : World) (a : Option Addr) (n : Nat) (F : List Int) : Prop :=
  F.length = n ∧ (∀ x ∈ F, 0 ≤ x ∧ x < 4294967296) ∧ (n = 0 ∨ ∃ b o, a = some ⟨b, o, none⟩ ∧ b < w.heap.size ∧ ∀ i, i < n → w.cell? ⟨b, o + i, none⟩ = some (.int .u32 (F.getD i 0)))

theorem WordRow.below {w w' : World} {a : Option Addr} {n : Nat} {F : List Int} (h : WordRow w a n F) (hb : Below w.heap.size w w') : WordRow w' a n F := by
  obtain ⟨h1, h2, h3⟩ := h
  refine ⟨h1, h2, h3.imp id fun ⟨b, o, e, hbl, hc⟩ => ⟨b, o, e, Nat.lt_of_lt_of_le hbl hb.size, fun i hi => ?_⟩⟩
  exact (hb.cell (p := ⟨b, o + i, none⟩) hbl).trans (hc i hi)

theorem wordRow_of {w : World} {a : Option Addr} {len cap : Nat} {zs : List Int}
    (h : (a = none ∧ len = 0 ∧ cap = 0 ∧ zs = []) ∨ ∃ x, a = some x ∧ len ≤ cap ∧ cap ≤ maxLen ∧ zs.length = cap ∧ (∀ i, i < zs.length → w.cell? (x.add i) = some (.int .u32 (zs.getD i 0))) ∧ ∀ n ∈ zs, (Lit.int .u32 n).wf = true) :
    WordRow w a len (zs.take len) ∧ (a = none → len = 0 ∧ cap = 0) ∧ len ≤ cap ∧ cap ≤ maxLen := by
  rcases h with ⟨rfl, rfl, rfl, rfl⟩ | ⟨x, rfl, hl, hm, hz, hc, hw⟩
  · exact ⟨⟨rfl, by simp, .inl rfl⟩, fun _ => ⟨rfl, rfl⟩, Nat.le_refl _, by unfold maxLen; omega⟩
  · refine ⟨⟨by simp; omega, fun y hy => u32_bd (hw y (List.mem_of_mem_take hy)), ?_⟩, (fun e => by cases e), hl, hm⟩
    by_cases h0 : len = 0
    · exact .inl h0
    · right
      have h1 := hc 0 (by omega)
      obtain ⟨b, o, s⟩ := x
      cases s with
      | some s => simp [World.cell?, Addr.add] at h1; split at h1 <;> simp at h1
      | none =>
        refine ⟨b, o, rfl, World.block_lt_of_cell? _ _ h1, fun i hi => ?_⟩
        have := hc i (by omega)
        rw [show (⟨b, o, none⟩ : Addr).add i = ⟨b, o + i, none⟩ from by simp [Addr.add]] at this
        rw [this]
        simp [hi]

/-- The words of RAM when the first k have been stored. -/
def stM (F : List Int) (zero : Int) (k : Nat) : Nat → Int := fun j => if j % 2 = 0 ∧ j / 2 < k then (if ((j / 2 : Nat) : Int) = zero then 0 else F.getD (j / 2) 0) else 0
/-- How many of them aren't 0. -/
def wantN (F : List Int) (zero : Int) : Nat → Nat
  | 0 => 0
  | k + 1 => wantN F zero k + (if (k : Int) = zero then 0 else if F.getD k 0 = 0 then 0 else 1)

theorem wantN_le (F : List Int) (zero : Int) : ∀ k, wantN F zero k ≤ k
  | 0 => Nat.le_refl _
  | k + 1 => by
    have := wantN_le F zero k
    rw [wantN]
    split
    · omega
    · split <;> omega

theorem stM_zero (F : List Int) (zero : Int) : stM F zero 0 = fun _ => 0 := by
  funext j
  simp [stM]

theorem stM_other (F : List Int) (zero : Int) (k : Nat) (h : ¬ (k : Int) = zero) (hk : k ≤ 8191) : storeM (stM F zero k) (536870912 + 8 * (k : Int)) (F.getD k 0) = stM F zero (k + 1) := by
  have he : storeE (536870912 + 8 * (k : Int)) = 0 := by
    unfold storeE
    rw [if_neg (by omega), if_neg (by omega), if_pos (by omega)]
  unfold storeM
  rw [if_pos he]
  funext j
  have hi : ((536870912 + 8 * (k : Int) - 536870912) / 4).toNat = 2 * k := by omega
  rw [hi]
  unfold stM
  by_cases hj : j = 2 * k
  · subst hj
    rw [if_pos rfl, if_pos (by omega), show 2 * k / 2 = k from by omega, if_neg h]
  · rw [if_neg hj]
    by_cases hc : j % 2 = 0 ∧ j / 2 < k
    · rw [if_pos hc, if_pos (show j % 2 = 0 ∧ j / 2 < k + 1 from by omega)]
    · rw [if_neg hc, if_neg (show ¬ (j % 2 = 0 ∧ j / 2 < k + 1) from by omega)]

theorem stM_zeroed (F : List Int) (zero : Int) (k : Nat) (x : Int) (h : (k : Int) = zero) (hk : k ≤ 8191) : storeM (storeM (stM F zero k) (536870912 + 8 * (k : Int)) x) (536870912 + 8 * (k : Int)) 0 = stM F zero (k + 1) := by
  have he : storeE (536870912 + 8 * (k : Int)) = 0 := by
    unfold storeE
    rw [if_neg (by omega), if_neg (by omega), if_pos (by omega)]
  unfold storeM
  rw [if_pos he, if_pos he]
  funext j
  have hi : ((536870912 + 8 * (k : Int) - 536870912) / 4).toNat = 2 * k := by omega
  rw [hi]
  unfold stM
  by_cases hj : j = 2 * k
  · subst hj
    rw [if_pos rfl, if_pos (by omega), show 2 * k / 2 = k from by omega, if_pos h]
  · rw [if_neg hj, if_neg hj]
    by_cases hc : j % 2 = 0 ∧ j / 2 < k
    · rw [if_pos hc, if_pos (show j % 2 = 0 ∧ j / 2 < k + 1 from by omega)]
    · rw [if_neg hc, if_neg (show ¬ (j % 2 = 0 ∧ j / 2 < k + 1) from by omega)]

theorem told_many (F : List Int) (zero : Int) (n : Nat) (hn : n ≤ 8192) : ∀ k, k ≤ 8192 → (toldL (stM F zero n) (2 * k)).length = wantN F zero (min k n)
  | 0, _ => by simp [toldL, wantN]
  | k + 1, hk => by
    have ih := told_many F zero n hn k (by omega)
    have h1 : stM F zero n (2 * k + 1) = 0 := by unfold stM; rw [if_neg (by omega)]
    rw [show 2 * (k + 1) = (2 * k + 1) + 1 from by omega, toldL_no h1]
    by_cases hkn : k < n
    · have e1 : min (k + 1) n = k + 1 := by omega
      have e2 : min k n = k := by omega
      have h2 : stM F zero n (2 * k) = if (k : Int) = zero then 0 else F.getD k 0 := by
        unfold stM; rw [if_pos (by omega), show 2 * k / 2 = k from by omega]
      rw [e1, wantN]
      rw [e2] at ih
      by_cases hz : (k : Int) = zero
      · rw [if_pos hz] at h2 ⊢
        rw [toldL_no h2, ih, Nat.add_zero]
      · rw [if_neg hz] at h2 ⊢
        by_cases hf : F.getD k 0 = 0
        · rw [if_pos hf, toldL_no (by rw [h2]; exact hf), ih, Nat.add_zero]
        · rw [if_neg hf, toldL_yes (n := 2 * k) ⟨by omega, by rw [h2]; exact hf⟩, List.length_append, ih]
          rfl
    · have e1 : min (k + 1) n = n := by omega
      have e2 : min k n = n := by omega
      have h2 : stM F zero n (2 * k) = 0 := by unfold stM; rw [if_neg (by omega)]
      rw [e1, toldL_no h2, ih, e2]

theorem cell_of_box {W : World} {B : Nat} {v : Value} {t : TypeId} (h : W.heap[B]? = some (.cells #[v] t (0, 0))) : W.cell? ⟨B, 0, none⟩ = some v ∧ W.frozen? ⟨B, 0, none⟩ = false := by
  constructor <;> simp [World.cell?, World.frozen?, h]
theorem cell_new (W : World) (v : Value) (t : TypeId) : (W.alloc (.cells #[v] t)).cell? ⟨W.heap.size, 0, none⟩ = some v ∧ (W.alloc (.cells #[v] t)).frozen? ⟨W.heap.size, 0, none⟩ = false := cell_of_box (World.alloc_heap_new W _)
theorem cell_old {W : World} {a : Addr} {v : Value} (o : Obj) (h : W.cell? a = some v) : (W.alloc o).cell? a = some v := cell_kept h (World.grownBy_alloc W o none) (fun r e => by cases e)
theorem frozen_old {W : World} {a : Addr} {v : Value} (o : Obj) (h : W.cell? a = some v) (hf : W.frozen? a = false) : (W.alloc o).frozen? a = false := (frozen_kept h (World.grownBy_alloc W o none) (fun r e => by cases e)).trans hf

theorem below_stored2 {B B' : Nat} {a w w' : World} (h : Below B a w) {b : Nat} {fv : Value} {rg : Nat} {F : List Int} {m' : Nat → Int} (hs : Stored w B' b fv rg F m' w') (hB : B ≤ w.heap.size) (hBB : B ≤ B') : Below B a w' :=
  h.grown hs.2.1 hB fun _ e => by cases e; exact Nat.le_trans hBB hs.1.hr

set_option maxHeartbeats 4000000 in
theorem memLeast_walk (a : Option Addr) (q cap : Nat) (F : List Int) (zero stop : Int) (w : World) (hF : WordRow w a q F) (hcap : a = none → q = 0 ∧ cap = 0) (hqc : q ≤ cap) (hmax : cap ≤ maxLen) (hz0 : -9223372036854775808 ≤ zero ∧ zero ≤ 9223372036854775807) (hs0 : -9223372036854775808 ≤ stop ∧ stop ≤ 9223372036854775807) :
    Calls Try.prog 6 #[.slice a q cap, .int .i64 zero, .int .i64 stop] w fun e w' => e = .returned (.bool true) ∧ Below w.heap.size w w' := by
  unfold maxLen at hmax
  have HF := Lib.hid hF
  have Hcap := Lib.hid hcap
  clear hF hcap
  refine (callsIn_wide (n := 10)).1 ?_
  refine callsIn_of_wp_marks Try.func6 rfl trivial ?_ rfl
  simp only [Try.ntmps6, List.size_toArray, List.length_cons, List.length_nil, Nat.reduceAdd, Nat.reduceSub, Array.replicate_succ, Array.replicate_zero, List.push_toArray, List.append_toArray, List.nil_append, List.cons_append]
  gi_wp2
  have hbx : ∃ w4 : World, (((w.alloc (.cells #[.slice a q cap] 37)).alloc (.cells #[.int .i64 zero] 3)).alloc (.cells #[.int .i64 stop] 3)).alloc (.cells #[.bool false] 4) = w4 ∧ w4.heap.size = w.heap.size + 4 ∧
      w4.cell? ⟨w.heap.size, 0, none⟩ = some (.slice a q cap) ∧ w4.cell? ⟨w.heap.size + 1, 0, none⟩ = some (.int .i64 zero) ∧ w4.cell? ⟨w.heap.size + 2, 0, none⟩ = some (.int .i64 stop) ∧ w4.cell? ⟨w.heap.size + 3, 0, none⟩ = some (.bool false) ∧ w4.frozen? ⟨w.heap.size + 3, 0, none⟩ = false ∧ Below w.heap.size w w4 := by
    have c0 := cell_new w (.slice a q cap) 37
    have c1 := cell_new (w.alloc (.cells #[.slice a q cap] 37)) (.int .i64 zero) 3
    have c2 := cell_new ((w.alloc (.cells #[.slice a q cap] 37)).alloc (.cells #[.int .i64 zero] 3)) (.int .i64 stop) 3
    have c3 := cell_new (((w.alloc (.cells #[.slice a q cap] 37)).alloc (.cells #[.int .i64 zero] 3)).alloc (.cells #[.int .i64 stop] 3)) (.bool false) 4
    simp only [World.size_alloc] at c1 c2 c3
    refine ⟨_, rfl, by simp, cell_old _ (cell_old _ (cell_old _ c0.1)), cell_old _ (cell_old _ c1.1), cell_old _ c2.1, c3.1, c3.2, ?_⟩
    exact ((((Below.refl _ w).alloc (Nat.le_refl _) _).alloc (by simp) _).alloc (by simp; omega) _).alloc (by simp; omega) _
  obtain ⟨w4, hw4, hs4, k0, k1, k2, k3, k3f, hB4⟩ := hbx
  rw [hw4]
  have K0 := Lib.hid k0
  have K1 := Lib.hid k1
  have K2 := Lib.hid k2
  have K3 := Lib.hid k3
  have K3f := Lib.hid k3f
  have HB4 := Lib.hid hB4
  clear hw4 k0 k1 k2 k3 k3f hB4
  obtain ⟨h1, e1⟩ : ∃ h1, h1 = w.heap.size + 1 := ⟨_, rfl⟩
  obtain ⟨h2, e2⟩ : ∃ h2, h2 = h1 + 1 := ⟨_, rfl⟩
  obtain ⟨h3, e3⟩ : ∃ h3, h3 = h2 + 1 := ⟨_, rfl⟩
  have f2 : w.heap.size + 2 = h2 := by omega
  have f3 : w.heap.size + 3 = h3 := by omega
  rw [f3] at K3 K3f
  rw [f2] at K2
  rw [← e1] at K1
  rw [← e1, ← e2, ← e3]
  have hl0 : w.heap.size < w4.heap.size := by omega
  have hl1 : h1 < w4.heap.size := by omega
  have hl2 : h2 < w4.heap.size := by omega
  have hl3 : h3 < w4.heap.size := by omega
  have hle3 : w.heap.size ≤ h3 := by omega
  have Hs4 := Lib.hid hs4
  clear e1 e2 e3 f2 f3 hs4
  refine ⟨trivial, (callsIn_wide.2 (anchor06 w4)).mono ?_⟩
  rintro ee w5 ⟨rfl, hb5⟩
  have HB5 := Lib.hid hb5
  clear hb5
  gi_wp2
  refine ⟨trivial, (callsIn_wide.2 (new_any none 0 0 [] w5 ⟨rfl, by simp, .inl rfl⟩ (by omega) (fun _ => ⟨rfl, rfl⟩))).mono ?_⟩
  intro ee w6 hnew
  obtain ⟨bm, fv, rg, rfl, hM, hb6⟩ := hnew
  have HM := Lib.hid hM
  have HB6 := Lib.hid (HB5.out.trans (hb6.mono HB5.out.size))
  have hsz5 := HB5.out.size
  clear hM hb6
  have k0 := (HB6.out.cell (p := ⟨w.heap.size, 0, none⟩) hl0).trans K0.out
  have k3 := (HB6.out.cell (p := ⟨h3, 0, none⟩) hl3).trans K3.out
  have k3f := (HB6.out.frozen (p := ⟨h3, 0, none⟩) hl3).trans K3f.out
  by_cases hbig : 100 < q
  · have e1 : decide ((100 : Int) < (q : Int)) = true := by simp; omega
    gi_wp2
    refine ⟨.bool true, ?_, rfl, (HB4.out.trans (HB6.out.mono HB4.out.size)).setCell (p := ⟨h3, 0, none⟩) hle3 _⟩
    have hc5 := World.cell?_setCell_same' w6 ⟨h3, 0, none⟩ (.bool true) (by rw [k3]; rfl)
    simp [results, Try.f6, go_sem, hc5]
  · have e1 : decide ((100 : Int) < (q : Int)) = false := by simp; omega
    gi_wp2
    gi_loopw [39, 9] (fun i c wr => ∃ k : Nat, k ≤ q ∧ i = .int .i64 k ∧ c = .int .i64 (wantN F zero k) ∧ IsMem wr w5.heap.size bm fv rg [] (stM F zero k) ∧ Below w4.heap.size w4 wr) (fun i _ _ => q - (intOf i).toNat)
    case atStart => exact ⟨0, Nat.zero_le _, rfl, rfl, by rw [stM_zero]; exact HM.out, HB6.out⟩
    case round =>
      obtain ⟨k, hk, rfl, rfl, hMk, hB⟩ := hrel
      have HMk := Lib.hid hMk
      have HB := Lib.hid hB
      clear hMk hB
      by_cases hlt : k < q
      · obtain ⟨hFl, hFb, hFc⟩ := HF.out
        obtain ⟨bw, ow, rfl, hbw, hcw⟩ : ∃ b o, a = some ⟨b, o, none⟩ ∧ b < w.heap.size ∧ ∀ i, i < q → w.cell? ⟨b, o + i, none⟩ = some (.int .u32 (F.getD i 0)) := hFc.resolve_left (by omega)
        have HBw := Lib.hid (HB4.out.trans (HB.out.mono HB4.out.size))
        have cx := (HBw.out.cell (p := ⟨bw, ow + k, none⟩) hbw).trans (hcw k hlt)
        have hx : 0 ≤ F.getD k 0 ∧ F.getD k 0 < 4294967296 := by
          refine hFb _ ?_
          rw [List.getD_eq_getElem?_getD, List.getElem?_eq_getElem (by omega)]
          exact List.getElem_mem _
        clear hFl hFb hFc hcw
        obtain ⟨x, hxe⟩ : ∃ x, x = F.getD k 0 := ⟨_, rfl⟩
        rw [← hxe] at cx hx
        have Hx := Lib.hid hxe
        clear hxe
        have wq1 : IntKind.i64.wrap (8 * (k : Int)) = 8 * (k : Int) := IntWalk.i64_in _ (by omega)
        have wq2 : IntKind.i64.wrap (536870912 + 8 * (k : Int)) = 536870912 + 8 * (k : Int) := IntWalk.i64_in _ (by omega)
        have wq3 : IntKind.u32.wrap (536870912 + 8 * (k : Int)) = 536870912 + 8 * (k : Int) := IntWalk.u32_in _ (by omega)
        have wq4 : IntKind.i64.wrap ((k : Int) + 1) = (k : Int) + 1 := IntWalk.i64_in _ (by omega)
        have hwl := wantN_le F zero k
        have wq5 : IntKind.i64.wrap ((wantN F zero k : Int) + 1) = (wantN F zero k : Int) + 1 := IntWalk.i64_in _ (by omega)
        gi_wp2
        refine ⟨trivial, (callsIn_wide.2 (store_any HMk.out (536870912 + 8 * (k : Int)) (by omega) (by omega) x hx.1 hx.2)).mono ?_⟩
        rintro ee wa ⟨rfl, hst⟩
        have HBa := Lib.hid (below_stored2 HB.out hst HB.out.size hsz5)
        have HMa := Lib.hid hst.1
        clear hst
        have hk1 := (HBa.out.cell (p := ⟨h1, 0, none⟩) hl1).trans K1.out
        by_cases hz : (k : Int) = zero
        · have hzb : ((k : Int) == zero) = true := by simpa using hz
          have HZ := Lib.hid hz
          clear hz
          gi_wp2
          refine ⟨trivial, (callsIn_wide.2 (store_any HMa.out (536870912 + 8 * (k : Int)) (by omega) (by omega) 0 (by omega) (by omega))).mono ?_⟩
          rintro ee wb ⟨rfl, hst⟩
          have HBb := Lib.hid (below_stored2 HBa.out hst HBa.out.size hsz5)
          have hmb := hst.1
          rw [stM_zeroed F zero k x HZ.out (by omega)] at hmb
          have HMb := Lib.hid hmb
          clear hst hmb
          gi_wp2
          exact ⟨⟨k + 1, by omega, by simp, by rw [wantN, if_pos HZ.out, Nat.add_zero], HMb.out, HBb.out⟩, by simp only [intOf]; omega⟩
        · have hzb : ((k : Int) == zero) = false := by simpa using hz
          have hma := HMa.out
          rw [Hx.out, stM_other F zero k hz (by omega)] at hma
          have HMb := Lib.hid hma
          have HZ := Lib.hid hz
          clear hz hma
          by_cases hx0 : x = 0
          · have hxb : (x != 0) = false := by simpa using hx0
            have HX0 := Lib.hid hx0
            clear hx0
            gi_wp2
            exact ⟨⟨k + 1, by omega, by simp, by rw [wantN, if_neg HZ.out, ← Hx.out, if_pos HX0.out, Nat.add_zero], HMb.out, HBa.out⟩, by simp only [intOf]; omega⟩
          · have hxb : (x != 0) = true := by simpa using hx0
            have HX0 := Lib.hid hx0
            clear hx0
            gi_wp2
            exact ⟨⟨k + 1, by omega, by simp, by rw [wantN, if_neg HZ.out, ← Hx.out, if_neg HX0.out]; simp, HMb.out, HBa.out⟩, by simp only [intOf]; omega⟩
      · have hke : k = q := by omega
        have hmk := HMk.out
        rw [hke] at hmk ⊢
        have HMq := Lib.hid hmk
        clear hmk hke
        gi_wp2
        refine ⟨trivial, (callsIn_wide.2 (ram_any (some ⟨bm, 0, none⟩) _)).mono ?_⟩
        rintro ee w7 ⟨rfl, rfl⟩
        have hbx : ∃ w8 : World, ((wr.alloc (.cells #[.int .i64 0] 3)).alloc (.cells #[.int .u32 0] 23)).alloc (.cells #[.pointer (some ⟨bm, 0, none⟩)] 25) = w8 ∧ w8.heap.size = wr.heap.size + 3 ∧
            w8.cell? ⟨wr.heap.size, 0, none⟩ = some (.int .i64 0) ∧ w8.frozen? ⟨wr.heap.size, 0, none⟩ = false ∧ w8.cell? ⟨wr.heap.size + 1, 0, none⟩ = some (.int .u32 0) ∧ w8.frozen? ⟨wr.heap.size + 1, 0, none⟩ = false ∧
            w8.cell? ⟨wr.heap.size + 2, 0, none⟩ = some (.pointer (some ⟨bm, 0, none⟩)) ∧ Below wr.heap.size wr w8 := by
          have c0 := cell_new wr (.int .i64 0) 3
          have c1 := cell_new (wr.alloc (.cells #[.int .i64 0] 3)) (.int .u32 0) 23
          have c2 := cell_new ((wr.alloc (.cells #[.int .i64 0] 3)).alloc (.cells #[.int .u32 0] 23)) (.pointer (some ⟨bm, 0, none⟩)) 25
          simp only [World.size_alloc] at c1 c2
          refine ⟨_, rfl, by simp, cell_old _ (cell_old _ c0.1), frozen_old _ (cell_old _ c0.1) (frozen_old _ c0.1 c0.2), cell_old _ c1.1, frozen_old _ c1.1 c1.2, c2.1, ?_⟩
          exact (((Below.refl _ wr).alloc (Nat.le_refl _) _).alloc (by simp) _).alloc (by simp; omega) _
        obtain ⟨w8, hw8, hs8, j0, j0f, j1, j1f, j2, hB8⟩ := hbx
        simp only [World.size_alloc]
        rw [hw8]
        obtain ⟨p0, g0⟩ : ∃ p0, p0 = wr.heap.size := ⟨_, rfl⟩
        obtain ⟨p1, g1⟩ : ∃ p1, p1 = p0 + 1 := ⟨_, rfl⟩
        obtain ⟨p2, g2⟩ : ∃ p2, p2 = p1 + 1 := ⟨_, rfl⟩
        have g3 : p0 + 2 = p2 := by omega
        rw [← g0] at hs8 j0 j0f j1 j1f j2 hB8 ⊢
        rw [g3] at j2
        rw [← g1] at j1 j1f ⊢
        rw [← g2]
        have HR8 := Lib.hid (HMq.out.ramAt (n₀ := p0) (by rw [← g0]; exact hB8) (by omega) j2)
        have Hs8 := Lib.hid hs8
        have HB8 := Lib.hid hB8
        have G0 := Lib.hid g0
        have hp0 : p0 < w8.heap.size := by omega
        have hp1 : p1 < w8.heap.size := by omega
        have hp2 : p2 < w8.heap.size := by omega
        have hp01 : p0 < p1 := by omega
        have hp12 : p1 < p2 := by omega
        have J0 := Lib.hid j0
        have J0f := Lib.hid j0f
        have J1 := Lib.hid j1
        have J1f := Lib.hid j1f
        clear hs8 hB8 g0 g1 g2 g3 hw8 j0 j0f j1 j1f j2
        gi_wp2
        refine wpIn_rangeFunc_ownF rfl (by omega) (gf := 22) (lb := #[.pointer (some ⟨p2, 0, none⟩)]) rfl trivial (enters_of Try.func22 (by kernel_rfl) rfl)
          (ram_stops 9 (by omega) p2 bm rg p0 (stM F zero q) w8 (by omega) hp2 HR8.out) KeepR.trans (KeepR.put (by omega) hp2) (Below.refl _ _) (fun _ => rfl)
          (fun pre W => (W.cell? ⟨p0, 0, none⟩ = some (.int .i64 (pre.length : Int)) ∧ W.frozen? ⟨p0, 0, none⟩ = false ∧ W.cell? ⟨p1, 0, none⟩ = some (.int .u32 (lastOf pre)) ∧ W.frozen? ⟨p1, 0, none⟩ = false) ∧ Below p0 wr W)
          (fun c pre W => (c = .ret ∧ (Rising pre → W.cell? ⟨h3, 0, none⟩ = some (.bool true))) ∧ Below w.heap.size w W)
          (OwnFrom.and (Own.from (fun s A B row hs hg hr => ⟨cell_kept hs.1 hg hr, (frozen_kept hs.1 hg hr).trans hs.2.1, cell_kept hs.2.2.1 hg hr, (frozen_kept hs.2.2.1 hg hr).trans hs.2.2.2⟩) _) (ownFrom_below (by rw [G0.out]; exact Nat.le_refl _) (by omega)))
          (fun c => OwnFrom.and (Own.from (fun s A B row hs hg hr => ⟨hs.1, fun h => cell_kept (hs.2 h) hg hr⟩) _) (ownFrom_below (Nat.le_refl _) (by have := HB4.out.size; have := HB.out.size; have := G0.out; omega)))
          ⟨⟨J0.out, J0f.out, by simpa [lastOf] using J1.out, J1f.out⟩, HB8.out⟩
          (fun x => { tmps := #[.slice a q cap, .int .i64 zero, .int .i64 stop, .pointer (some ⟨w.heap.size, 0, none⟩), .pointer (some ⟨h1, 0, none⟩), .pointer (some ⟨h2, 0, none⟩), .pointer (some ⟨h3, 0, none⟩), .pointer (some ⟨bm, 0, none⟩), .int .i64 0, .int .i64 ((wantN F zero q : Nat) : Int), u10, u11, .pointer (some ⟨p0, 0, none⟩), .pointer (some ⟨p1, 0, none⟩), .int .u32 (536870912 + ((4 * x.1 : Nat) : Int)), .int .u32 (stM F zero q x.1), undef, .bool true, .bool false, .tuple #[.pointer (some ⟨bm, 0, none⟩), .int .i64 0], .tuple #[.pointer (some ⟨bm, 0, none⟩), .int .i64 0], .pointer (some ⟨bm, 0, none⟩), .int .i64 0, .int .i64 0, .bool false, .bool false, .pointer (some ⟨bm, 0, none⟩), .bool false, .bool false, .bool false, .slice a q cap, .int .i64 (q : Int), .bool false, .bool false, undef, undef, undef, .slice a q cap, .int .i64 (q : Int), .int .i64 (q : Int), .bool false, u41, u42, u43, u44, u45, u46, u47, u48, u49, u50, u51, u52, u53, u54, u55, u56, u57, u58, u59, u60, u61, u62, u63, u64, .pointer (some ⟨bm, 0, none⟩), .func (Fn.func 22) #[] #[.pointer (some ⟨p2, 0, none⟩)], .int .u32 (536870912 + ((4 * x.1 : Nat) : Int)), .int .u32 (stM F zero q x.1), undef, undef, undef, undef, undef, undef, undef, undef, undef, undef, undef, undef, undef, undef, undef, undef, undef, undef, undef, undef, undef, undef, undef, undef, undef, undef, undef, undef, undef, undef, undef, undef, undef, undef, undef, undef, undef, undef, undef, undef, undef, undef, undef, undef], defers := [] }) ?assign ?body ?done ?stop
        case assign =>
          intro l x W K hK
          gi_wp2
          exact hK
        case body =>
          rintro l pre x W ⟨⟨c0, c0f, c1, c1f⟩, hBW⟩ hlen
          have HBW := Lib.hid hBW
          have HBw := Lib.hid (HB4.out.trans ((HB.out.trans (hBW.mono (by have := HB.out.size; have := G0.out; omega))).mono HB4.out.size))
          have HB4W := Lib.hid (HB.out.trans (hBW.mono (by have := HB.out.size; have := G0.out; omega)))
          clear hBW
          obtain ⟨A, hA⟩ : ∃ A : Int, A = 536870912 + ((4 * x.1 : Nat) : Int) := ⟨_, rfl⟩
          obtain ⟨V, hV⟩ : ∃ V : Int, V = stM F zero q x.1 := ⟨_, rfl⟩
          rw [← hA, ← hV]
          have hne := x.2.2
          rw [← hV] at hne
          obtain ⟨y, hy⟩ : ∃ y, y = x.1 / 2 := ⟨_, rfl⟩
          have hcond : x.1 % 2 = 0 ∧ y < q ∧ (y : Int) ≠ zero ∧ V = F.getD y 0 := by
            rw [hV, stM, ← hy] at hne
            rw [hV, stM, ← hy]
            by_cases hc : x.1 % 2 = 0 ∧ y < q
            · rw [if_pos hc] at hne ⊢
              by_cases hz : (y : Int) = zero
              · rw [if_pos hz] at hne; exact absurd rfl hne
              · rw [if_neg hz]; exact ⟨hc.1, hc.2, hz, rfl⟩
            · rw [if_neg hc] at hne; exact absurd rfl hne
          obtain ⟨hx2, hyq, hyz, hVF⟩ := hcond
          have hA2 : A = 536870912 + 8 * (y : Int) := by omega
          obtain ⟨hFl, hFb, hFc⟩ := HF.out
          obtain ⟨bw, ow, rfl, hbw, hcw⟩ : ∃ b o, a = some ⟨b, o, none⟩ ∧ b < w.heap.size ∧ ∀ i, i < q → w.cell? ⟨b, o + i, none⟩ = some (.int .u32 (F.getD i 0)) := hFc.resolve_left (by omega)
          have cx := (HBw.out.cell (p := ⟨bw, ow + y, none⟩) hbw).trans (hcw y hyq)
          rw [← hVF] at cx
          have cw := (HB4W.out.cell (p := ⟨w.heap.size, 0, none⟩) hl0).trans K0.out
          have cz := (HB4W.out.cell (p := ⟨h1, 0, none⟩) hl1).trans K1.out
          have cs := (HB4W.out.cell (p := ⟨h2, 0, none⟩) hl2).trans K2.out
          have cr := (HB4W.out.cell (p := ⟨h3, 0, none⟩) hl3).trans K3.out
          have crf := (HB4W.out.frozen (p := ⟨h3, 0, none⟩) hl3).trans K3f.out
          have hVb : 0 ≤ V ∧ V < 4294967296 := by rw [hV]; exact HMq.out.words x.1
          have hyz' : ((y : Int) == zero) = false := by simpa using hyz
          have hV0 : (V == 0) = false := by simpa using hne
          have hq1 : decide ((q : Int) ≤ (y : Int)) = false := by simp; omega
          have wqa : IntKind.u32.wrap (A - 536870912) = 8 * (y : Int) := by rw [hA2, show 536870912 + 8 * (y : Int) - 536870912 = 8 * (y : Int) from by omega]; exact IntWalk.u32_in _ (by omega)
          have wqb : IntKind.i64.wrap (8 * (y : Int)) = 8 * (y : Int) := IntWalk.i64_in _ (by omega)
          have wqc : Int.tdiv (8 * (y : Int)) 8 = (y : Int) := Int.mul_tdiv_cancel_left _ (by omega)
          have wqd : IntKind.i64.wrap (y : Int) = (y : Int) := IntWalk.i64_in _ (by omega)
          have wqe : Int.tmod A 8 = 0 := by rw [hA2, show 536870912 + 8 * (y : Int) = 8 * (67108864 + (y : Int)) from by omega]; exact Int.mul_tmod_right _ _
          have n1 : h2 ≠ p0 := by have := HB.out.size; have := G0.out; omega
          have n2 : h2 ≠ p1 := by have := HB.out.size; have := G0.out; omega
          have n5 : h3 ≠ p0 := by have := HB.out.size; have := G0.out; omega
          have n6 : h3 ≠ p1 := by have := HB.out.size; have := G0.out; omega
          have n3 : p0 ≠ p1 := by omega
          have n4 : p1 ≠ p0 := by omega
          have wqf : IntKind.i64.wrap ((pre.length : Int) + 1) = (pre.length : Int) + 1 := by
            have : (toldL (stM F zero q) 16384).length ≤ 16384 := by
              rw [show 16384 = 2 * 8192 from rfl, told_many F zero q (by omega) 8192 (by omega)]
              have := wantN_le F zero (min 8192 q); omega
            exact IntWalk.i64_in _ (by omega)
          have hlast := lastOf_snoc pre x
          rw [← hA] at hlast
          have hrise : Rising (pre ++ [x]) → lastOf pre < A := fun h => by rw [hA]; exact lastOf_lt h
          obtain ⟨L, hL⟩ : ∃ L, L = lastOf pre := ⟨_, rfl⟩
          have hLb := lastOf_bd pre
          rw [← hL] at c1 hrise hLb
          have Hlast := Lib.hid hlast
          have Hrise := Lib.hid hrise
          have HA := Lib.hid hA
          have HA2 := Lib.hid hA2
          have HVF := Lib.hid hVF
          have hAb : 0 ≤ A ∧ A < 4294967296 := by omega
          clear hFl hFb hFc hcw hA hA2 hV hVF hL hlast hrise hy hx2 hyz hne
          by_cases hle : A ≤ L
          · have ql : decide (A ≤ L) = true := by simpa using hle
            gi_wp2
            exact ⟨KeepsOthers.setCell _ _ _, ⟨rfl, fun h => absurd (Hrise.out h) (by omega)⟩, HBw.out.setCell (p := ⟨h3, 0, none⟩) hle3 _⟩
          · have ql : decide (A ≤ L) = false := by simpa using hle
            have hlen2 : ((pre ++ [x]).length : Int) = (pre.length : Int) + 1 := by simp
            have Hlen2 := Lib.hid hlen2
            clear hlen2
            have fresh1 : ((W.setCell ⟨p1, 0, none⟩ (.int .u32 A)).setCell ⟨p0, 0, none⟩ (.int .i64 ((pre.length : Int) + 1))).cell? ⟨p0, 0, none⟩ = some (.int .i64 ((pre.length : Int) + 1)) :=
              World.cell?_setCell_same' _ _ _ (by rw [World.cell?_setCell_other _ _ _ _ (by simp), c0]; rfl)
            have fresh2 : ((W.setCell ⟨p1, 0, none⟩ (.int .u32 A)).setCell ⟨p0, 0, none⟩ (.int .i64 ((pre.length : Int) + 1))).cell? ⟨p1, 0, none⟩ = some (.int .u32 A) := by
              rw [World.cell?_setCell_other _ _ _ _ (by simp)]
              exact World.cell?_setCell_same' _ _ _ (by rw [c1]; rfl)
            have Fresh1 := Lib.hid fresh1
            have Fresh2 := Lib.hid fresh2
            clear fresh1 fresh2
            have HBz := Lib.hid ((HBW.out.setCell (p := ⟨p1, 0, none⟩) (by simp; omega) (.int .u32 A)).setCell (p := ⟨p0, 0, none⟩) (by simp) (.int .i64 ((pre.length : Int) + 1)))
            have HBy := Lib.hid ((HBw.out.setCell (p := ⟨p1, 0, none⟩) (by have := HB4.out.size; have := HB.out.size; have := G0.out; simp; omega) (.int .u32 A)).setCell (p := ⟨p0, 0, none⟩) (by have := HB4.out.size; have := HB.out.size; have := G0.out; simp; omega) (.int .i64 ((pre.length : Int) + 1)))
            have HKz : Hid (KeepsOthers W ((W.setCell ⟨p1, 0, none⟩ (.int .u32 A)).setCell ⟨p0, 0, none⟩ (.int .i64 ((pre.length : Int) + 1)))) := (KeepsOthers.setCell _ _ _).trans (KeepsOthers.setCell _ _ _)
            by_cases hst : (pre.length : Int) + 1 = stop
            · have hstb : ((pre.length : Int) + 1 == stop) = true := by simpa using hst
              have HST := Lib.hid hst
              clear hst
              gi_wp2
              refine ⟨HKz.out.trans (KeepsOthers.setCell _ _ _), ⟨rfl, fun _ => ?_⟩, HBy.out.setCell (p := ⟨h3, 0, none⟩) hle3 _⟩
              exact World.cell?_setCell_same' _ _ _ (by rw [World.cell?_setCell_other _ _ _ _ (by simp), World.cell?_setCell_other _ _ _ _ (by simp), cr]; rfl)
            · have hstb : ((pre.length : Int) + 1 == stop) = false := by simpa using hst
              clear hst
              gi_wp2
              refine ⟨HKz.out, ⟨((Below.refl p0 W).setCell (p := ⟨p1, 0, none⟩) (by simp; omega) _).setCell (p := ⟨p0, 0, none⟩) (by simp) _, ?_⟩, ⟨?_, ?_, ?_, ?_⟩, HBz.out⟩
              · rw [Below.heap_setCell _ _ _ _ (by simp; omega), Below.heap_setCell _ _ _ _ (by simp; omega)]
              · rw [Hlen2.out]; exact Fresh1.out
              · rw [World.frozen?_setCell, World.frozen?_setCell]; exact c0f
              · rw [Hlast.out]; exact Fresh2.out
              · rw [World.frozen?_setCell, World.frozen?_setCell]; exact c1f
        case done =>
          rintro D ys W hD rfl ⟨⟨c0, c0f, c1, c1f⟩, hBW⟩ hK
          have HB4W := Lib.hid (HB.out.trans (hBW.mono (by have := HB.out.size; have := G0.out; omega)))
          have HBw := Lib.hid (HB4.out.trans (HB4W.out.mono HB4.out.size))
          have cr := (HB4W.out.cell (p := ⟨h3, 0, none⟩) hl3).trans K3.out
          have crf := (HB4W.out.frozen (p := ⟨h3, 0, none⟩) hl3).trans K3f.out
          rw [show 16384 = 2 * 8192 from rfl, told_many F zero q (by omega) 8192 (by omega), show min 8192 q = q from by omega] at c0
          gi_wp2
          have hK' := (KeepsOthers.setCell W ⟨h3, 0, none⟩ (.bool true)).same D _ hK rfl
          refine ⟨by simp, .inl ⟨_, _, rfl, run_takeDeferred hK', ?_⟩⟩
          have hc5 := cell_kept (World.cell?_setCell_same' W ⟨h3, 0, none⟩ (.bool true) (by rw [cr]; rfl)) (grownBy_putObj' _ D (.deferred none)) (fun r e => by cases e; exact ⟨_, hK', rfl⟩)
          refine ⟨.bool true, ?_, rfl, (HBw.out.setCell (p := ⟨h3, 0, none⟩) hle3 _).trans (belowK_b (w := w) (Nat.le_refl _) _ D _ _ (by have := HB4.out.size; have := HB.out.size; have := G0.out; omega) hK' rfl rfl)⟩
          simp [results, Try.f6, go_sem, hc5]
        case stop =>
          rintro D c pre W hD hpre ⟨⟨rfl, hcr⟩, hBW⟩ hK
          have hcr := hcr (rising_prefix hpre (toldL_rising _ _))
          gi_wp2
          refine ⟨by simp, .inl ⟨_, _, rfl, run_takeDeferred hK, ?_⟩⟩
          have hc5 := cell_kept hcr (grownBy_putObj' _ D (.deferred none)) (fun r e => by cases e; exact ⟨_, hK, rfl⟩)
          refine ⟨.bool true, ?_, rfl, hBW.trans (belowK_b (w := w) (Nat.le_refl _) W D _ _ (by have := HB4.out.size; have := HB.out.size; have := G0.out; omega) hK rfl rfl)⟩
          simp [results, Try.f6, go_sem, hc5]
end Go.Proofs.Ytpfeddfbmnimlaa
