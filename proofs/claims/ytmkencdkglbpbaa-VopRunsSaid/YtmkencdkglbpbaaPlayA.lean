/- The document's memory of chapter 06: ram, byteAt, Load, Half by contracts. -/
import Derived.Test.YtmkencdkglbpbaaRamIt
set_option maxRecDepth 100000
set_option linter.unusedVariables false
namespace Go.Proofs.Ytmkencdkglbpbaa
open Go.RowKit

/-- What a list of stored words says of the words of RAM. -/
def Inv (L : List (Int × Int)) (m : Nat → Int) : Prop :=
  (∀ p ∈ L, p.1 % 4 = 0 ∧ 536870912 ≤ p.1 ∧ p.1 ≤ 536936444 ∧ m ((p.1 - 536870912) / 4).toNat = p.2 ∧ 0 ≤ p.2 ∧ p.2 < 4294967296) ∧ (L.map (·.1)).Nodup ∧
  ∀ i, i < 16384 → m i ≠ 0 → (536870912 + 4 * (i : Int), m i) ∈ L

theorem inv_nil : Inv [] (fun _ => 0) := ⟨by simp, by simp, fun i _ h => absurd rfl h⟩

/-- The document's Store. -/
def refL (L : List (Int × Int)) (ad x : Int) : List (Int × Int) := if storeE ad = 0 then L.filter (fun p => p.1 != ad) ++ [(ad, x)] else L

theorem storeE_zero {ad : Int} (h : storeE ad = 0) : ad % 4 = 0 ∧ 536870912 ≤ ad ∧ ad ≤ 536936444 := by
  unfold storeE at h
  split at h
  · omega
  · split at h
    · omega
    · split at h
      · omega
      · omega

theorem inv_store {L : List (Int × Int)} {m : Nat → Int} (h : Inv L m) (ad x : Int) (x0 : 0 ≤ x) (x1 : x < 4294967296) : Inv (refL L ad x) (storeM m ad x) := by
  unfold refL storeM
  by_cases he : storeE ad = 0
  · rw [if_pos he, if_pos he]
    obtain ⟨a1, a2, a3⟩ := storeE_zero he
    obtain ⟨h1, h2, h3⟩ := h
    refine ⟨fun p hp => ?_, ?_, fun i hi hm => ?_⟩
    · rcases List.mem_append.1 hp with hp | hp
      · simp only [List.mem_filter, bne_iff_ne, ne_eq] at hp
        obtain ⟨b1, b2, b3, b4, b5⟩ := h1 p hp.1
        refine ⟨b1, b2, b3, ?_, b5⟩
        show (if ((p.1 - 536870912) / 4).toNat = ((ad - 536870912) / 4).toNat then x else m ((p.1 - 536870912) / 4).toNat) = p.2
        rw [if_neg (by have := hp.2; omega)]
        exact b4
      · obtain rfl := List.mem_singleton.1 hp
        exact ⟨a1, a2, a3, by simp, x0, x1⟩
    · rw [List.map_append]
      refine List.nodup_append.2 ⟨?_, by simp, ?_⟩
      · exact h2.sublist (List.Sublist.map _ List.filter_sublist)
      · intro a ha b hb e
        simp only [List.map_cons, List.map_nil, List.mem_singleton] at hb
        subst hb
        subst e
        simp only [List.mem_map, List.mem_filter, bne_iff_ne, ne_eq] at ha
        obtain ⟨p, ⟨_, hn⟩, hq⟩ := ha
        exact hn hq
    · simp only at hm ⊢
      by_cases hj : i = ((ad - 536870912) / 4).toNat
      · rw [if_pos hj]
        refine List.mem_append.2 (.inr ?_)
        have : 536870912 + 4 * (i : Int) = ad := by omega
        rw [this]; simp
      · rw [if_neg hj] at hm ⊢
        refine List.mem_append.2 (.inl ?_)
        simp only [List.mem_filter, bne_iff_ne, ne_eq]
        exact ⟨h3 i hi hm, by omega⟩
  · rw [if_neg he, if_neg he]
    exact h

/-- The words that aren't 0, counted in the list, are as many as are told. -/
theorem inv_count {L : List (Int × Int)} {m : Nat → Int} (h : Inv L m) : (L.filter (fun p => p.2 != 0)).length = (toldL m 16384).length := by
  obtain ⟨h1, h2, h3⟩ := h
  have hA : ((L.filter (fun p => p.2 != 0)).map (·.1)).Nodup := h2.sublist (List.Sublist.map _ List.filter_sublist)
  have hB : ((toldL m 16384).map (fun x : Told m => 536870912 + 4 * (x.1 : Int))).Nodup := by
    refine List.Pairwise.map _ (fun a b hab => ?_) (toldL_rising m 16384)
    have hab : a.1 < b.1 := hab
    omega
  have hall : ∀ k n, k < n → (hk : k < 16384 ∧ m k ≠ 0) → (⟨k, hk⟩ : Told m) ∈ toldL m n := by
    intro k n hkn hk
    have h5 := toldL_prefix m (k + 1) n hkn
    rw [toldL_yes hk] at h5
    exact h5.subset (by simp)
  have := (List.perm_ext_iff_of_nodup hA hB).2 (fun a => by
    simp only [List.mem_map, List.mem_filter, bne_iff_ne, ne_eq]
    constructor
    · rintro ⟨p, ⟨hp, hn⟩, rfl⟩
      obtain ⟨b1, b2, b3, b4, _⟩ := h1 p hp
      exact ⟨⟨((p.1 - 536870912) / 4).toNat, by omega, by rw [b4]; exact hn⟩, hall _ _ (by omega) _, by simp only; omega⟩
    · rintro ⟨x, _, rfl⟩
      exact ⟨_, ⟨h3 x.1 x.2.1 x.2.2, x.2.2⟩, rfl⟩)
  have := this.length_eq
  simpa using this

/-- Words that were stored, in memory. -/
def LRow (w : World) (lx : Option Addr) (q : Nat) (L : List (Int × Int)) : Prop :=
  L.length = q ∧ (q = 0 ∨ ∃ g, lx = some ⟨g, 0, none⟩ ∧ g < w.heap.size ∧ ∀ i (hi : i < L.length), w.cell? ⟨g, i * 2, none⟩ = some (.int .u32 (L[i]).1) ∧ w.cell? ⟨g, i * 2 + 1, none⟩ = some (.int .u32 (L[i]).2))

theorem LRow.below {w w' : World} {lx : Option Addr} {q : Nat} {L : List (Int × Int)} (h : LRow w lx q L) (hb : Below w.heap.size w w') : LRow w' lx q L := by
  obtain ⟨h1, h2⟩ := h
  refine ⟨h1, h2.imp id fun ⟨g, e, hg, hc⟩ => ⟨g, e, Nat.lt_of_lt_of_le hg hb.size, fun i hi => ?_⟩⟩
  obtain ⟨c0, c1⟩ := hc i hi
  exact ⟨(hb.cell (p := ⟨g, i * 2, none⟩) hg).trans c0, (hb.cell (p := ⟨g, i * 2 + 1, none⟩) hg).trans c1⟩

theorem ram_yes (ad : Int) (w : World) (h0 : 536870912 ≤ ad) (h1 : ad ≤ 536936444) :
    Calls Try.prog 31 #[.int .u32 ad] w fun e w' => e = .returned (.bool true) ∧ w' = w := by
  have e1 : decide ((536870912 : Int) ≤ ad) = true := by simpa using h0
  have e2 : decide (ad ≤ 536936444) = true := by simpa using h1
  go_enter Try.func31, Try.ntmps31
  go_wp2
  go_ret
  exact ⟨rfl, rfl⟩
theorem ram_no (ad : Int) (w : World) (h : ¬ (536870912 ≤ ad ∧ ad ≤ 536936444)) :
    Calls Try.prog 31 #[.int .u32 ad] w fun e w' => e = .returned (.bool false) ∧ w' = w := by
  by_cases h0 : 536870912 ≤ ad
  · have e1 : decide ((536870912 : Int) ≤ ad) = true := by simpa using h0
    have e2 : decide (ad ≤ 536936444) = false := by simp; omega
    go_enter Try.func31, Try.ntmps31
    go_wp2
    go_ret
    exact ⟨rfl, rfl⟩
  · have e1 : decide ((536870912 : Int) ≤ ad) = false := by simpa using h0
    go_enter Try.func31, Try.ntmps31
    go_wp2
    go_ret
    exact ⟨rfl, rfl⟩

/-- A byte of the flash; false: there is none. -/
def byteV (F : List Int) (ad : Int) : Int × Bool := if 134217728 ≤ ad ∧ ad - 134217728 < F.length then (F.getD (ad - 134217728).toNat 0, true) else (0, false)

theorem byteAt_any (a : Option Addr) (n cap : Nat) (F : List Int) (lv : Value) (ad : Int) (w : World) (hF : ByteRow w a n F) (hn : n ≤ 300) (h0 : 0 ≤ ad) (h1 : ad < 4294967296) :
    Calls Try.prog 32 #[.agg #[.slice a n cap, lv], .int .u32 ad] w fun e w' => e = .returned (.tuple #[.int .u32 (byteV F ad).1, .bool (byteV F ad).2]) ∧ Below w.heap.size w w' := by
  obtain ⟨hl, hb, hc⟩ := hF
  by_cases hlo : ad < 134217728
  · have e1 : decide (ad < 134217728) = true := by simpa using hlo
    have hv : byteV F ad = (0, false) := by unfold byteV; rw [if_neg (by omega)]
    rw [hv]
    clear hv hc hb hl
    go_enter Try.func32, Try.ntmps32
    go_wp2
    go_ret2
    exact ⟨rfl, (Below.refl _ _).alloc (Nat.le_refl _) _⟩
  · have e1 : decide (ad < 134217728) = false := by simpa using hlo
    obtain ⟨d, hd⟩ : ∃ d : Nat, d = (ad - 134217728).toNat := ⟨_, rfl⟩
    have hd2 : ad - 134217728 = (d : Int) := by omega
    have wq : IntKind.u32.wrap (ad - 134217728) = (d : Int) := by rw [hd2]; exact IntWalk.u32_in _ (by omega)
    have wq2 : IntKind.i64.wrap (d : Int) = (d : Int) := IntWalk.i64_in _ (by omega)
    by_cases hhi : n ≤ d
    · have e2 : decide ((n : Int) ≤ (d : Int)) = true := by simpa using hhi
      have hv : byteV F ad = (0, false) := by unfold byteV; rw [if_neg (by omega)]
      rw [hv]
      clear hv hc hb hl hd hd2
      go_enter Try.func32, Try.ntmps32
      go_wp2
      go_ret2
      exact ⟨rfl, (Below.refl _ _).alloc (Nat.le_refl _) _⟩
    · have e2 : decide ((n : Int) ≤ (d : Int)) = false := by simp; omega
      obtain ⟨b, o, rfl, hbl, hcell⟩ := hc.resolve_left (by omega)
      obtain ⟨x, hx⟩ : ∃ x, x = F.getD d 0 := ⟨_, rfl⟩
      have hv : byteV F ad = (x, true) := by unfold byteV; rw [if_pos (by omega), ← hd, hx]
      rw [hv]
      have hxb : 0 ≤ x ∧ x < 256 := by rw [hx]; exact getD_bytes hb d
      have c1 := hcell d (by omega)
      rw [← hx] at c1
      have wq3 : IntKind.u32.wrap x = x := IntWalk.u32_in _ (by omega)
      have hdn : d < n := by omega
      clear hv hb hl hd hd2 hcell hx
      go_enter Try.func32, Try.ntmps32
      go_wp2
      go_ret2
      exact ⟨rfl, (Below.refl _ _).alloc (Nat.le_refl _) _⟩
end Go.Proofs.Ytmkencdkglbpbaa
