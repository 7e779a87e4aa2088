/- mem: what a memory is in the heap; Load and Half by contracts. -/
import Derived.Test.YtmkencdkglbpbaaMemA
import Derived.OneCell
import Derived.Deep.QuietTactic
import Derived.BigQuiet
set_option maxRecDepth 100000
namespace Go.Proofs.Ytmkencdkglbpbaa
open Go.RowKit

/-- A memory at block b: its flash F in the slice fv, its words of RAM m in block rg. All blocks are from B on. -/
structure IsMem (w : World) (B b : Nat) (fv : Value) (rg : Nat) (F : List Int) (m : Nat → Int) : Prop where
  blk : w.heap[b]? = some (.cells #[fv, .slice (some ⟨rg, 0, none⟩) 65536 65536] 86 (0, 0))
  hb : B ≤ b
  hr : B ≤ rg
  hrs : rg < w.heap.size
  flash : w.ownsRow B 5 1 fv F.length (F.map (Value.int .u8))
  flen : F.length ≤ 65536
  fbytes : ∀ x ∈ F, 0 ≤ x ∧ x < 256
  ram : ∀ j, j < 65536 → w.cell? ⟨rg, j, none⟩ = some (.int .u8 (m (j / 4) / 256 ^ (j % 4) % 256))
  free : ∀ j, w.frozen? ⟨rg, j, none⟩ = false
  words : ∀ i, 0 ≤ m i ∧ m i < 4294967296
  ne1 : rg ≠ b
  ne2 : fv.ownBlock ≠ some rg

/-- A word of the flash. -/
def wordAt (F : List Int) (i : Nat) : Int := F.getD i 0 + 256 * F.getD (i + 1) 0 + 65536 * F.getD (i + 2) 0 + 16777216 * F.getD (i + 3) 0
/-- A half of the flash. -/
def halfAt (F : List Int) (i : Nat) : Int := F.getD i 0 + 256 * F.getD (i + 1) 0

/-- Nothing but draws. -/
def Drawn (w w' : World) : Prop := ∃ n, w' = w.drewN n
theorem Drawn.refl (w : World) : Drawn w w := ⟨0, rfl⟩

/-- What Load returns. -/
def loadV (F : List Int) (m : Nat → Int) (ad : Int) : Int × Int :=
  if ad % 4 ≠ 0 then (0, 60)
  else if 536870912 ≤ ad ∧ ad ≤ 536936444 then (m ((ad - 536870912) / 4).toNat, 0)
  else if 134217728 ≤ ad ∧ ad - 134217728 + 4 ≤ F.length then (wordAt F (ad - 134217728).toNat, 0) else (0, 61)

/-- What Half returns. -/
def halfV (F : List Int) (ad : Int) : Int × Int :=
  if ad % 2 ≠ 0 then (0, 60)
  else if 134217728 ≤ ad ∧ ad - 134217728 + 2 ≤ F.length then (halfAt F (ad - 134217728).toNat, 0) else (0, 61)

theorem getD_bytes {F : List Int} (h : ∀ x ∈ F, 0 ≤ x ∧ x < 256) (i : Nat) : 0 ≤ F.getD i 0 ∧ F.getD i 0 < 256 := by
  by_cases hi : i < F.length
  · have := h (F.getD i 0) (by rw [List.getD_eq_getElem?_getD, List.getElem?_eq_getElem hi]; simp)
    exact this
  · rw [List.getD_eq_getElem?_getD, List.getElem?_eq_none (by omega)]; simp

theorem flash_shape {w : World} {B n : Nat} {v : Value} {F : List Int} (h : w.ownsRow B 5 1 v n (F.map (Value.int .u8))) :
    ∃ x c, v = .slice x n c ∧ n ≤ c ∧ (x = none → c = 0) ∧ (n = 0 ∨ ∃ g, x = some ⟨g, 0, none⟩ ∧ g < w.heap.size ∧ ∀ i, i < n → w.cell? ⟨g, i, none⟩ = some (.int .u8 (F.getD i 0))) := by
  have hl := h.1
  simp only [List.length_map, Nat.mul_one] at hl
  rcases h.2 with ⟨rfl, rfl⟩ | ⟨g, cap, cur, rfl, _, hg, hcap, _⟩
  · exact ⟨none, 0, rfl, Nat.le_refl _, fun _ => rfl, .inl rfl⟩
  · refine ⟨some ⟨g, 0, none⟩, cap, rfl, hcap, (fun h => by cases h), .inr ⟨g, rfl, lt_of_block hg, fun i hi => ?_⟩⟩
    rw [h.cellAt i (by omega)]
    simp [show i < F.length from by omega]

/-- A byte of a word, by its number. -/
theorem byte0 (x : Int) : x / 256 ^ 0 % 256 = x % 256 := by simp
theorem word_of_bytes (x : Int) (h0 : 0 ≤ x) (h1 : x < 4294967296) : x % 256 + 256 * (x / 256 % 256) + 65536 * (x / 65536 % 256) + 16777216 * (x / 16777216 % 256) = x := by omega

theorem IsMem.word {w : World} {B b : Nat} {fv : Value} {rg : Nat} {F : List Int} {m : Nat → Int} (h : IsMem w B b fv rg F m) (i : Nat) (hi : i < 16384) :
    w.cell? ⟨rg, 4 * i, none⟩ = some (.int .u8 (m i % 256)) ∧ w.cell? ⟨rg, 4 * i + 1, none⟩ = some (.int .u8 (m i / 256 % 256)) ∧
    w.cell? ⟨rg, 4 * i + 2, none⟩ = some (.int .u8 (m i / 65536 % 256)) ∧ w.cell? ⟨rg, 4 * i + 3, none⟩ = some (.int .u8 (m i / 16777216 % 256)) := by
  refine ⟨?_, ?_, ?_, ?_⟩
  · rw [h.ram (4 * i) (by omega), show 4 * i / 4 = i from by omega, show 4 * i % 4 = 0 from by omega]; simp
  · rw [h.ram (4 * i + 1) (by omega), show (4 * i + 1) / 4 = i from by omega, show (4 * i + 1) % 4 = 1 from by omega]; simp
  · rw [h.ram (4 * i + 2) (by omega), show (4 * i + 2) / 4 = i from by omega, show (4 * i + 2) % 4 = 2 from by omega]; simp
  · rw [h.ram (4 * i + 3) (by omega), show (4 * i + 3) / 4 = i from by omega, show (4 * i + 3) % 4 = 3 from by omega]; simp

theorem two_cells {w : World} {b : Nat} {u v : Value} {t : TypeId} (h : w.heap[b]? = some (.cells #[u, v] t (0, 0))) : w.cell? ⟨b, 0, none⟩ = some u ∧ w.cell? ⟨b, 1, none⟩ = some v := by
  simp [World.cell?, h]

theorem eql_nil (w : World) (a : Option Addr) (l c : Nat) : (binOp .eql 26 (.slice a l c) (.slice none 0 0)).run Try.prog w = .ok (.bool a.isNone) w := Lib.run_eql_slice_nil w _ 5 a l c 0 0 Try.underlying26

/-- Load: a word, and an error. -/
theorem load_any {w : World} {B b : Nat} {fv : Value} {rg : Nat} {F : List Int} {m : Nat → Int} (h : IsMem w B b fv rg F m) (ad : Int) (h0 : 0 ≤ ad) (h1 : ad < 4294967296) :
    Calls Try.prog 36 #[.pointer (some ⟨b, 0, none⟩), .int .u32 ad] w fun e w' => e = .returned (.tuple #[.int .u32 (loadV F m ad).1, .int .i64 (loadV F m ad).2]) ∧ w' = w := by
  obtain ⟨hc0, hc1⟩ := two_cells h.blk
  obtain ⟨x, c, rfl, hcx, hcn, hF⟩ := flash_shape h.flash
  have hfl := h.flen
  have heq := eql_nil
  by_cases hal : ad % 4 ≠ 0
  · have hv : loadV F m ad = (0, 60) := by simp [loadV, hal]
    have Hv := Lib.hid hv
    clear hv hc0 hc1
    have hal' : (ad % 4 == 0) = false := by simpa using hal
    go_enter Try.func36, Try.ntmps36
    go_wp2
    go_ret2
    exact ⟨by rw [Hv.out]; rfl, rfl⟩
  · have hal' : (ad % 4 != 0) = false := by simpa using hal
    by_cases hr : 536870912 ≤ ad ∧ ad ≤ 536936444
    · obtain ⟨i, hi⟩ : ∃ i : Nat, (i : Int) = (ad - 536870912) / 4 := ⟨((ad - 536870912) / 4).toNat, by omega⟩
      have hv : loadV F m ad = (m i, 0) := by simp [loadV, hal, hr, ← hi]
      obtain ⟨w0, w1, w2, w3⟩ := h.word i (by omega)
      obtain ⟨m0, m1⟩ := h.words i
      have ho : (ad - 536870912).toNat = 4 * i := by omega
      have Ho := Lib.hid ho
      have Hw := Lib.hid (word_of_bytes (m i) m0 m1)
      have Hv := Lib.hid hv
      clear hv hF hcn hal ho h
      obtain ⟨hr1, hr2⟩ := hr
      go_enter Try.func36, Try.ntmps36
      go_wp2_with fail
      refine (within_yes rg 0 65536 65536 536870912 ad 4 4 w rfl (by omega) h1 hr1 (by omega) (by omega) (by omega) (by omega) (by omega)).mono ?_
      rintro e w' ⟨⟨c', rfl⟩, rfl⟩
      go_wp2_with fail
      rw [Ho.out]
      try rw [Nat.zero_add]
      refine (wordOf_any rg (4 * i) c' _ _ _ _ w' w0 w1 w2 w3 (by omega) (by omega) (by omega) (by omega) (by omega) (by omega) (by omega) (by omega)).mono ?_
      rintro e w' ⟨rfl, rfl⟩
      rw [Hw.out]
      go_wp2
      go_ret2
      exact ⟨by rw [Hv.out]; rfl, rfl⟩
    · have hfar : ad < 536870912 ∨ ((65536 : Nat) : Int) - 4 < ad - 536870912 := by omega
      by_cases hf : 134217728 ≤ ad ∧ ad - 134217728 + 4 ≤ F.length
      · obtain ⟨hf1, hf2⟩ := hf
        have hv : loadV F m ad = (wordAt F (ad - 134217728).toNat, 0) := by simp [loadV, hal, hr, hf1, hf2]
        rcases hF with hF0 | ⟨g, rfl, hg, hF⟩
        · omega
        obtain ⟨i, hi⟩ : ∃ i : Nat, (i : Int) = ad - 134217728 := ⟨(ad - 134217728).toNat, by omega⟩
        have ho : (ad - 134217728).toNat = i := by omega
        rw [ho] at hv
        have w0 := hF i (by omega)
        have w1 := hF (i + 1) (by omega)
        have w2 := hF (i + 2) (by omega)
        have w3 := hF (i + 3) (by omega)
        obtain ⟨a0, b0⟩ := getD_bytes h.fbytes i
        obtain ⟨a1, b1⟩ := getD_bytes h.fbytes (i + 1)
        obtain ⟨a2, b2⟩ := getD_bytes h.fbytes (i + 2)
        obtain ⟨a3, b3⟩ := getD_bytes h.fbytes (i + 3)
        have Ho := Lib.hid ho
        have Hv := Lib.hid hv
        have hl := h.flen
        clear hv hF hcn hal ho h hi
        go_enter Try.func36, Try.ntmps36
        go_wp2_with fail
        refine (within_nil (some ⟨rg, 0, none⟩) 65536 65536 536870912 ad 4 w (by omega) h1 (by omega) (by omega) (by omega) hfar).mono ?_
        rintro e w' ⟨rfl, rfl⟩
        go_wp2_with fail
        refine (within_yes g 0 F.length c 134217728 ad 4 4 w' rfl (by omega) h1 hf1 (by omega) hcx (by omega) (by omega) (by omega)).mono ?_
        rintro e w' ⟨⟨c', rfl⟩, rfl⟩
        go_wp2_with fail
        rw [Ho.out]
        try rw [Nat.zero_add]
        refine (wordOf_any g i c' _ _ _ _ w' w0 w1 w2 w3 a0 b0 a1 b1 a2 b2 a3 b3).mono ?_
        rintro e w' ⟨rfl, rfl⟩
        go_wp2
        go_ret2
        exact ⟨by rw [Hv.out]; rfl, rfl⟩
      · have hv : loadV F m ad = (0, 61) := by simp only [loadV, if_neg hal, if_neg hr, if_neg hf]
        have hfar2 : ad < 134217728 ∨ (F.length : Int) - 4 < ad - 134217728 := by omega
        have Hv := Lib.hid hv
        clear hv hF hcn hal h
        go_enter Try.func36, Try.ntmps36
        go_wp2_with fail
        refine (within_nil (some ⟨rg, 0, none⟩) 65536 65536 536870912 ad 4 w (by omega) h1 (by omega) (by omega) (by omega) hfar).mono ?_
        rintro e w' ⟨rfl, rfl⟩
        go_wp2_with fail
        refine (within_nil x F.length c 134217728 ad 4 w' (by omega) h1 (by omega) (by omega) (by omega) hfar2).mono ?_
        rintro e w' ⟨rfl, rfl⟩
        go_wp2
        go_ret2
        exact ⟨by rw [Hv.out]; rfl, rfl⟩
end Go.Proofs.Ytmkencdkglbpbaa
