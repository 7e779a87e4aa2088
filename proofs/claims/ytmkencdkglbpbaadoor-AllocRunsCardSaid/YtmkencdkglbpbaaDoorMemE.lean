/- mem: within, wordOf and slices.Clone at bytes, by contracts. -/
import Derived.WalkKit
import Derived.WalkSpells
import Derived.Lib.Hide
import Derived.Laws.AppendOwnNone
import Derived.Test.YtmkencdkglbpbaaDoorProg
import Derived.OneCell
import Derived.Deep.QuietTactic
import Derived.BigQuiet
import Derived.Deep.RegionWith
set_option maxRecDepth 100000
namespace Go.Proofs.YtmkencdkglbpbaaDoor
open Go.RowKit

/-- The bytes of a slice: nothing where it is nil. -/
def ByteRow (w : World) (a : Option Addr) (n : Nat) (F : List Int) : Prop :=
  F.length = n ∧ (∀ x ∈ F, 0 ≤ x ∧ x < 256) ∧ (n = 0 ∨ ∃ b o, a = some ⟨b, o, none⟩ ∧ b < w.heap.size ∧ ∀ i, i < n → w.cell? ⟨b, o + i, none⟩ = some (.int .u8 (F.getD i 0)))

theorem within_no (v : Value) (base address : Int) (n : Int) (w : World) (h : address < base) :
    Calls Tryd.prog 55 #[v, .int .u32 base, .int .u32 address, .int .i64 n] w fun e w' => e = .returned (.slice none 0 0) ∧ w' = w := by
  go_enter Tryd.func55, Tryd.ntmps55
  go_wp2
  go_ret
  exact ⟨rfl, rfl⟩

theorem within_far (a : Option Addr) (len cap : Nat) (base address : Int) (n : Int) (w : World) (h0 : 0 ≤ base) (h1 : address < 4294967296) (h : base ≤ address) (hl : len < 1000000) (hn : 0 ≤ n) (hn' : n ≤ 8)
    (hgt : (len : Int) - n < address - base) :
    Calls Tryd.prog 55 #[.slice a len cap, .int .u32 base, .int .u32 address, .int .i64 n] w fun e w' => e = .returned (.slice none 0 0) ∧ w' = w := by
  go_enter Tryd.func55, Tryd.ntmps55
  go_wp2
  go_ret
  exact ⟨rfl, rfl⟩

theorem within_nil (a : Option Addr) (len cap : Nat) (base address : Int) (n : Int) (w : World) (h0 : 0 ≤ base) (h1 : address < 4294967296) (hl : len < 1000000) (hn : 0 ≤ n) (hn' : n ≤ 8)
    (hgt : address < base ∨ (len : Int) - n < address - base) :
    Calls Tryd.prog 55 #[.slice a len cap, .int .u32 base, .int .u32 address, .int .i64 n] w fun e w' => e = .returned (.slice none 0 0) ∧ w' = w := by
  by_cases h : address < base
  · exact within_no _ base address n w h
  · exact within_far a len cap base address n w h0 h1 (by omega) hl hn hn' (by omega)

theorem within_yes (b o : Nat) (len cap : Nat) (base address n : Int) (k : Nat) (w : World) (hk : n = k) (h0 : 0 ≤ base) (h1 : address < 4294967296) (h : base ≤ address) (hl : len < 1000000) (hlc : len ≤ cap) (hn : 1 ≤ n) (hn' : n ≤ 8)
    (hgt : address - base ≤ (len : Int) - n) :
    Calls Tryd.prog 55 #[.slice (some ⟨b, o, none⟩) len cap, .int .u32 base, .int .u32 address, .int .i64 n] w fun e w' => (∃ c, e = .returned (.slice (some ⟨b, o + (address - base).toNat, none⟩) k c)) ∧ w' = w := by
  have hne : ¬ cap = (address - base).toNat := by omega
  have e1 : (address - base + n).toNat - (address - base).toNat = k := by omega
  have H1 := Lib.hid e1
  clear e1 hk
  go_enter Tryd.func55, Tryd.ntmps55
  go_wp2
  rw [H1.out]
  go_ret
  exact ⟨⟨_, rfl⟩, rfl⟩

theorem or_bytes (x0 x1 x2 x3 : Int) (b0 : 0 ≤ x0) (b0' : x0 < 256) (b1 : 0 ≤ x1) (b1' : x1 < 256) (b2 : 0 ≤ x2) (b2' : x2 < 256) (b3 : 0 ≤ x3) (b3' : x3 < 256) :
    bits BinOp.or IntKind.u32 (bits BinOp.or IntKind.u32 (bits BinOp.or IntKind.u32 (bits BinOp.or IntKind.u32 0 x0) (x1 * 256)) (x2 * 65536)) (x3 * 16777216) = x0 + 256 * x1 + 65536 * x2 + 16777216 * x3 := by
  obtain ⟨n0, rfl⟩ := Int.eq_ofNat_of_zero_le b0
  obtain ⟨n1, rfl⟩ := Int.eq_ofNat_of_zero_le b1
  obtain ⟨n2, rfl⟩ := Int.eq_ofNat_of_zero_le b2
  obtain ⟨n3, rfl⟩ := Int.eq_ofNat_of_zero_le b3
  have k0 : bits BinOp.or IntKind.u32 0 (n0 : Int) = ((n0 : Nat) : Int) := by
    have := u32_or_nat 0 n0 (by omega) (by omega)
    simpa using this
  have k1 : bits BinOp.or IntKind.u32 (n0 : Int) ((n1 : Int) * 256) = ((n1 * 256 + n0 : Nat) : Int) := by
    have := u32_or_nat n0 (n1 * 256) (by omega) (by omega)
    rw [Nat.or_comm, nat_join 8 (n1 * 256) n0 (by omega) (by omega)] at this
    simpa using this
  have k2 : bits BinOp.or IntKind.u32 ((n1 * 256 + n0 : Nat) : Int) ((n2 : Int) * 65536) = ((n2 * 65536 + (n1 * 256 + n0) : Nat) : Int) := by
    have := u32_or_nat (n1 * 256 + n0) (n2 * 65536) (by omega) (by omega)
    rw [Nat.or_comm, nat_join 16 (n2 * 65536) (n1 * 256 + n0) (by omega) (by omega)] at this
    simpa using this
  have k3 : bits BinOp.or IntKind.u32 ((n2 * 65536 + (n1 * 256 + n0) : Nat) : Int) ((n3 : Int) * 16777216) = ((n3 * 16777216 + (n2 * 65536 + (n1 * 256 + n0)) : Nat) : Int) := by
    have := u32_or_nat (n2 * 65536 + (n1 * 256 + n0)) (n3 * 16777216) (by omega) (by omega)
    rw [Nat.or_comm, nat_join 24 (n3 * 16777216) (n2 * 65536 + (n1 * 256 + n0)) (by omega) (by omega)] at this
    simpa using this
  rw [k0, k1, k2, k3]
  omega

theorem wordOf_any (b o : Nat) (c : Nat) (x0 x1 x2 x3 : Int) (w : World) (h0 : w.cell? ⟨b, o, none⟩ = some (.int .u8 x0)) (h1 : w.cell? ⟨b, o+1, none⟩ = some (.int .u8 x1))
  (h2 : w.cell? ⟨b, o+2, none⟩ = some (.int .u8 x2)) (h3 : w.cell? ⟨b, o+3, none⟩ = some (.int .u8 x3)) (b0 : 0 ≤ x0) (b0' : x0 < 256) (b1 : 0 ≤ x1) (b1' : x1 < 256)  (b2 : 0 ≤ x2) (b2' : x2 < 256)  (b3 : 0 ≤ x3) (b3' : x3 < 256) :
    Calls Tryd.prog 56 #[.slice (some ⟨b, o, none⟩) 4 c] w fun e w' => e = .returned (.int .u32 (x0 + 256 * x1 + 65536 * x2 + 16777216 * x3)) ∧ w' = w := by
  have H := Lib.hid (or_bytes x0 x1 x2 x3 b0 b0' b1 b1' b2 b2' b3 b3')
  go_enter Tryd.func56, Tryd.ntmps56
  go_wp2
  refine wp_loop_rounds 5 ?_
  rw [rounds_succ]
  go_wp2
  rw [rounds_succ]
  go_wp2
  rw [rounds_succ]
  go_wp2
  rw [rounds_succ]
  go_wp2
  rw [rounds_succ]
  go_wp2
  rw [H.out]
  go_ret
  exact ⟨rfl, rfl⟩

theorem Tryd.infoU8 : (Tryd.prog.info? 5).map (fun i => (i.zero, i.size, i.bytes)) = some (some (.int .u8 0), 1, 1) := by kernel_rfl

theorem u8_oneCell (F : List Int) : ∀ u ∈ F.map (Value.int .u8), u.oneCell' = true := by
  intro u hu
  obtain ⟨x, _, rfl⟩ := List.mem_map.1 hu
  rfl

/-- slices.Clone of bytes: a row of the call's own, or nil. -/
theorem clone_any (a : Option Addr) (n cap : Nat) (F : List Int) (w : World) (hF : ByteRow w a n F) (hn : n ≤ 70000) (hcap : a = none → n = 0 ∧ cap = 0) :
    Calls Tryd.prog 54 #[.slice a n cap] w fun e w' => ∃ v, e = .returned v ∧ w'.ownsRow w.heap.size 5 1 v n (F.map (Value.int .u8)) ∧ Below w.heap.size w w' := by
  obtain ⟨i0, hi, hz0, hz1, hz2⟩ := info_parts Tryd.infoU8
  have heq : ∀ (w : World) (a : Option Addr) (l c : Nat), (binOp .eql 47 (.slice a l c) (.slice none 0 0)).run Tryd.prog w = .ok (.bool a.isNone) w := fun w a l c => Lib.run_eql_slice_nil w _ 5 a l c 0 0 Tryd.underlying47
  obtain ⟨hl, hb, hc⟩ := hF
  cases a with
  | none =>
    obtain ⟨rfl, rfl⟩ := hcap rfl
    obtain rfl : F = [] := List.length_eq_zero_iff.1 hl
    clear hl hb hc
    go_enter Tryd.func54, Tryd.ntmps54
    go_wp2
    go_ret
    exact ⟨_, rfl, World.ownsRow_nil _ _ _ _, Below.refl _ _⟩
  | some ad =>
    have hnews : ∀ j u, (F.map (Value.int .u8))[j]? = some u → (w.alloc (.cells #[] 5)).cell? (ad.add j) = some u := by
      intro j u hj
      rcases hc with h0 | ⟨b, o, he, hb2, hc⟩
      · exfalso
        have := (List.getElem?_eq_some_iff.1 hj).1
        simp only [List.length_map] at this
        omega
      · cases he
        have hj' := (List.getElem?_eq_some_iff.1 hj)
        obtain ⟨hlt, hget⟩ := hj'
        simp only [List.length_map] at hlt
        rw [show (⟨b, o, none⟩ : Addr).add j = ⟨b, o + j, none⟩ from by simp [Addr.add], World.cell?_alloc_past _ _ _ hb2, hc j (by omega)]
        simp only [List.getElem_map] at hget
        rw [← hget]
        simp [hlt]
    have hown : (w.alloc (.cells #[] 5)).ownsRow w.heap.size 5 1 (.slice (some ⟨w.heap.size, 0, none⟩) 0 0) 0 [] := World.ownsRow_lit w #[] 0 (Nat.le_refl _) (by unfold maxLen; omega) rfl
    have H := Lib.hid hl
    clear hl hc
    go_enter Tryd.func54, Tryd.ntmps54
    go_wp2_with (at_builtin; refine wpList_append_own _ rfl (.tmp 5) (.tmp 6) 47 rfl w.heap.size 5 i0 (.int .u8 0) 1 1 Tryd.underlying47 hi hz0 hz1 hz2 rfl (by decide) _ _ _ rfl hown ad n cap (F.map (.int .u8)) rfl (by rw [List.length_map, H.out]; omega) hnews (u8_oneCell F) (by unfold maxLen; omega) (by omega) (by simp) ?_; intro v' w1 hown' hgrow hnil)
    go_ret
    simp only [Nat.zero_add, List.nil_append] at hown'
    refine ⟨_, rfl, hown', ((Below.refl _ _).alloc (Nat.le_refl _) _).grown hgrow (by simp) (by intro k hk; cases hk; simp)⟩
end Go.Proofs.YtmkencdkglbpbaaDoor
set_option maxRecDepth 100000
namespace Go.Proofs.YtmkencdkglbpbaaDoor
open Go.RowKit

/-- A memory at block b: its flash F in the slice fv, its words of RAM m in block rg. All blocks are from B on. -/
structure IsMem (w : World) (B b : Nat) (fv : Value) (rg : Nat) (F : List Int) (m : Nat → Int) : Prop where
  blk : ∃ C, 65536 ≤ C ∧ w.heap[b]? = some (.cells #[fv, .slice (some ⟨rg, 0, none⟩) 65536 C] 116 (0, 0))
  hb : B ≤ b
  hr : B ≤ rg
  hrs : rg < w.heap.size
  flash : w.ownsRow B 5 1 fv F.length (F.map (Value.int .u8))
  flen : F.length ≤ 65536
  fbytes : ∀ x ∈ F, 0 ≤ x ∧ x < 256
  ram : ∀ j, j < 65536 → w.cell? ⟨rg, j, none⟩ = some (.int .u8 (m (j / 4) / 256 ^ (j % 4) % 256))
  free : ∀ j, w.frozen? ⟨rg, j, none⟩ = false
  words : ∀ i, 0 ≤ m i ∧ m i < 4294967296
  ne1 : rg ≠ b
  ne2 : fv.ownBlock ≠ some rg

theorem IsMem.lt {w : World} {B b : Nat} {fv : Value} {rg : Nat} {F : List Int} {m : Nat → Int} (h : IsMem w B b fv rg F m) : b < w.heap.size := by
  obtain ⟨C, _, hb⟩ := h.blk
  exact (Array.getElem?_eq_some_iff.1 hb).1

/-- A word of the flash. -/
def wordAt (F : List Int) (i : Nat) : Int := F.getD i 0 + 256 * F.getD (i + 1) 0 + 65536 * F.getD (i + 2) 0 + 16777216 * F.getD (i + 3) 0
/-- A half of the flash. -/
def halfAt (F : List Int) (i : Nat) : Int := F.getD i 0 + 256 * F.getD (i + 1) 0

/-- Nothing but draws. -/
def Drawn (w w' : World) : Prop := ∃ n, w' = w.drewN n
theorem Drawn.refl (w : World) : Drawn w w := ⟨0, rfl⟩

/-- What Load returns. -/
def loadV (F : List Int) (m : Nat → Int) (ad : Int) : Int × Int :=
  if ad % 4 ≠ 0 then (0, 60)
  else if 536870912 ≤ ad ∧ ad ≤ 536936444 then (m ((ad - 536870912) / 4).toNat, 0)
  else if 134217728 ≤ ad ∧ ad - 134217728 + 4 ≤ F.length then (wordAt F (ad - 134217728).toNat, 0) else (0, 61)

/-- What Half returns. -/
def halfV (F : List Int) (ad : Int) : Int × Int :=
  if ad % 2 ≠ 0 then (0, 60)
  else if 134217728 ≤ ad ∧ ad - 134217728 + 2 ≤ F.length then (halfAt F (ad - 134217728).toNat, 0) else (0, 61)

theorem getD_bytes {F : List Int} (h : ∀ x ∈ F, 0 ≤ x ∧ x < 256) (i : Nat) : 0 ≤ F.getD i 0 ∧ F.getD i 0 < 256 := by
  by_cases hi : i < F.length
  · have := h (F.getD i 0) (by rw [List.getD_eq_getElem?_getD, List.getElem?_eq_getElem hi]; simp)
    exact this
  · rw [List.getD_eq_getElem?_getD, List.getElem?_eq_none (by omega)]; simp

theorem flash_shape {w : World} {B n : Nat} {v : Value} {F : List Int} (h : w.ownsRow B 5 1 v n (F.map (Value.int .u8))) :
    ∃ x c, v = .slice x n c ∧ n ≤ c ∧ (x = none → c = 0) ∧ (n = 0 ∨ ∃ g, x = some ⟨g, 0, none⟩ ∧ g < w.heap.size ∧ ∀ i, i < n → w.cell? ⟨g, i, none⟩ = some (.int .u8 (F.getD i 0))) := by
  have hl := h.1
  simp only [List.length_map, Nat.mul_one] at hl
  rcases h.2 with ⟨rfl, rfl⟩ | ⟨g, cap, cur, rfl, _, hg, hcap, _⟩
  · exact ⟨none, 0, rfl, Nat.le_refl _, fun _ => rfl, .inl rfl⟩
  · refine ⟨some ⟨g, 0, none⟩, cap, rfl, hcap, (fun h => by cases h), .inr ⟨g, rfl, lt_of_block hg, fun i hi => ?_⟩⟩
    rw [h.cellAt i (by omega)]
    simp [show i < F.length from by omega]

/-- A byte of a word, by its number. -/
theorem byte0 (x : Int) : x / 256 ^ 0 % 256 = x % 256 := by simp
theorem word_of_bytes (x : Int) (h0 : 0 ≤ x) (h1 : x < 4294967296) : x % 256 + 256 * (x / 256 % 256) + 65536 * (x / 65536 % 256) + 16777216 * (x / 16777216 % 256) = x := by omega

theorem IsMem.word {w : World} {B b : Nat} {fv : Value} {rg : Nat} {F : List Int} {m : Nat → Int} (h : IsMem w B b fv rg F m) (i : Nat) (hi : i < 16384) :
    w.cell? ⟨rg, 4 * i, none⟩ = some (.int .u8 (m i % 256)) ∧ w.cell? ⟨rg, 4 * i + 1, none⟩ = some (.int .u8 (m i / 256 % 256)) ∧
    w.cell? ⟨rg, 4 * i + 2, none⟩ = some (.int .u8 (m i / 65536 % 256)) ∧ w.cell? ⟨rg, 4 * i + 3, none⟩ = some (.int .u8 (m i / 16777216 % 256)) := by
  refine ⟨?_, ?_, ?_, ?_⟩
  · rw [h.ram (4 * i) (by omega), show 4 * i / 4 = i from by omega, show 4 * i % 4 = 0 from by omega]; simp
  · rw [h.ram (4 * i + 1) (by omega), show (4 * i + 1) / 4 = i from by omega, show (4 * i + 1) % 4 = 1 from by omega]; simp
  · rw [h.ram (4 * i + 2) (by omega), show (4 * i + 2) / 4 = i from by omega, show (4 * i + 2) % 4 = 2 from by omega]; simp
  · rw [h.ram (4 * i + 3) (by omega), show (4 * i + 3) / 4 = i from by omega, show (4 * i + 3) % 4 = 3 from by omega]; simp

theorem two_cells {w : World} {b : Nat} {u v : Value} {t : TypeId} (h : w.heap[b]? = some (.cells #[u, v] t (0, 0))) : w.cell? ⟨b, 0, none⟩ = some u ∧ w.cell? ⟨b, 1, none⟩ = some v := by
  simp [World.cell?, h]

theorem eql_nil (w : World) (a : Option Addr) (l c : Nat) : (binOp .eql 47 (.slice a l c) (.slice none 0 0)).run Tryd.prog w = .ok (.bool a.isNone) w := Lib.run_eql_slice_nil w _ 5 a l c 0 0 Tryd.underlying47

/-- Load: a word, and an error. -/
theorem load_any {w : World} {B b : Nat} {fv : Value} {rg : Nat} {F : List Int} {m : Nat → Int} (h : IsMem w B b fv rg F m) (ad : Int) (h0 : 0 ≤ ad) (h1 : ad < 4294967296) :
    Calls Tryd.prog 35 #[.pointer (some ⟨b, 0, none⟩), .int .u32 ad] w fun e w' => e = .returned (.tuple #[.int .u32 (loadV F m ad).1, .int .i64 (loadV F m ad).2]) ∧ w' = w := by
  obtain ⟨CC, hCC, hblk⟩ := h.blk
  obtain ⟨hc0, hc1⟩ := two_cells hblk
  clear hblk
  obtain ⟨x, c, rfl, hcx, hcn, hF⟩ := flash_shape h.flash
  have hfl := h.flen
  have heq := eql_nil
  by_cases hal : ad % 4 ≠ 0
  · have hv : loadV F m ad = (0, 60) := by simp [loadV, hal]
    have Hv := Lib.hid hv
    clear hv hc0 hc1
    have hal' : (ad % 4 == 0) = false := by simpa using hal
    go_enter Tryd.func35, Tryd.ntmps35
    go_wp2
    go_ret2
    exact ⟨by rw [Hv.out]; rfl, rfl⟩
  · have hal' : (ad % 4 != 0) = false := by simpa using hal
    by_cases hr : 536870912 ≤ ad ∧ ad ≤ 536936444
    · obtain ⟨i, hi⟩ : ∃ i : Nat, (i : Int) = (ad - 536870912) / 4 := ⟨((ad - 536870912) / 4).toNat, by omega⟩
      have hv : loadV F m ad = (m i, 0) := by simp [loadV, hal, hr, ← hi]
      obtain ⟨w0, w1, w2, w3⟩ := h.word i (by omega)
      obtain ⟨m0, m1⟩ := h.words i
      have ho : (ad - 536870912).toNat = 4 * i := by omega
      have Ho := Lib.hid ho
      have Hw := Lib.hid (word_of_bytes (m i) m0 m1)
      have Hv := Lib.hid hv
      clear hv hF hcn hal ho h
      obtain ⟨hr1, hr2⟩ := hr
      go_enter Tryd.func35, Tryd.ntmps35
      go_wp2_with fail
      refine (within_yes rg 0 65536 CC 536870912 ad 4 4 w rfl (by omega) h1 hr1 (by omega) (by omega) (by omega) (by omega) (by omega)).mono ?_
      rintro e w' ⟨⟨c', rfl⟩, rfl⟩
      go_wp2_with fail
      rw [Ho.out]
      try rw [Nat.zero_add]
      refine (wordOf_any rg (4 * i) c' _ _ _ _ w' w0 w1 w2 w3 (by omega) (by omega) (by omega) (by omega) (by omega) (by omega) (by omega) (by omega)).mono ?_
      rintro e w' ⟨rfl, rfl⟩
      rw [Hw.out]
      go_wp2
      go_ret2
      exact ⟨by rw [Hv.out]; rfl, rfl⟩
    · have hfar : ad < 536870912 ∨ ((65536 : Nat) : Int) - 4 < ad - 536870912 := by omega
      by_cases hf : 134217728 ≤ ad ∧ ad - 134217728 + 4 ≤ F.length
      · obtain ⟨hf1, hf2⟩ := hf
        have hv : loadV F m ad = (wordAt F (ad - 134217728).toNat, 0) := by simp [loadV, hal, hr, hf1, hf2]
        rcases hF with hF0 | ⟨g, rfl, hg, hF⟩
        · omega
        obtain ⟨i, hi⟩ : ∃ i : Nat, (i : Int) = ad - 134217728 := ⟨(ad - 134217728).toNat, by omega⟩
        have ho : (ad - 134217728).toNat = i := by omega
        rw [ho] at hv
        have w0 := hF i (by omega)
        have w1 := hF (i + 1) (by omega)
        have w2 := hF (i + 2) (by omega)
        have w3 := hF (i + 3) (by omega)
        obtain ⟨a0, b0⟩ := getD_bytes h.fbytes i
        obtain ⟨a1, b1⟩ := getD_bytes h.fbytes (i + 1)
        obtain ⟨a2, b2⟩ := getD_bytes h.fbytes (i + 2)
        obtain ⟨a3, b3⟩ := getD_bytes h.fbytes (i + 3)
        have Ho := Lib.hid ho
        have Hv := Lib.hid hv
        have hl := h.flen
        clear hv hF hcn hal ho h hi
        go_enter Tryd.func35, Tryd.ntmps35
        go_wp2_with fail
        refine (within_nil (some ⟨rg, 0, none⟩) 65536 CC 536870912 ad 4 w (by omega) h1 (by omega) (by omega) (by omega) hfar).mono ?_
        rintro e w' ⟨rfl, rfl⟩
        go_wp2_with fail
        refine (within_yes g 0 F.length c 134217728 ad 4 4 w' rfl (by omega) h1 hf1 (by omega) hcx (by omega) (by omega) (by omega)).mono ?_
        rintro e w' ⟨⟨c', rfl⟩, rfl⟩
        go_wp2_with fail
        rw [Ho.out]
        try rw [Nat.zero_add]
        refine (wordOf_any g i c' _ _ _ _ w' w0 w1 w2 w3 a0 b0 a1 b1 a2 b2 a3 b3).mono ?_
        rintro e w' ⟨rfl, rfl⟩
        go_wp2
        go_ret2
        exact ⟨by rw [Hv.out]; rfl, rfl⟩
      · have hv : loadV F m ad = (0, 61) := by simp only [loadV, if_neg hal, if_neg hr, if_neg hf]
        have hfar2 : ad < 134217728 ∨ (F.length : Int) - 4 < ad - 134217728 := by omega
        have Hv := Lib.hid hv
        clear hv hF hcn hal h
        go_enter Tryd.func35, Tryd.ntmps35
        go_wp2_with fail
        refine (within_nil (some ⟨rg, 0, none⟩) 65536 CC 536870912 ad 4 w (by omega) h1 (by omega) (by omega) (by omega) hfar).mono ?_
        rintro e w' ⟨rfl, rfl⟩
        go_wp2_with fail
        refine (within_nil x F.length c 134217728 ad 4 w' (by omega) h1 (by omega) (by omega) (by omega) hfar2).mono ?_
        rintro e w' ⟨rfl, rfl⟩
        go_wp2
        go_ret2
        exact ⟨by rw [Hv.out]; rfl, rfl⟩
end Go.Proofs.YtmkencdkglbpbaaDoor
set_option maxRecDepth 100000
namespace Go.Proofs.YtmkencdkglbpbaaDoor
open Go.RowKit

theorem ret_int {k : IntKind} {a b : Int} (h : a = b) : Ending.returned (.int k a) = .returned (.int k b) := by rw [h]

theorem IsMem.store {w : World} {B b : Nat} {fv : Value} {rg : Nat} {F : List Int} {m : Nat → Int} (h : IsMem w B b fv rg F m) (i : Nat) (hi : i < 16384) (x : Int) (x0 : 0 ≤ x) (x1 : x < 4294967296) :
    IsMem ((((w.setCell ⟨rg, 4 * i, none⟩ (.int .u8 (x % 256))).setCell ⟨rg, 4 * i + 1, none⟩ (.int .u8 (x / 256 % 256))).setCell ⟨rg, 4 * i + 2, none⟩ (.int .u8 (x / 65536 % 256))).setCell ⟨rg, 4 * i + 3, none⟩ (.int .u8 (x / 16777216 % 256)))
      B b fv rg F (fun j => if j = i then x else m j) where
  blk := by
    obtain ⟨C, hC, hbk⟩ := h.blk
    refine ⟨C, hC, ?_⟩
    rw [Below.heap_setCell _ _ _ _ (fun e => h.ne1 e.symm), Below.heap_setCell _ _ _ _ (fun e => h.ne1 e.symm), Below.heap_setCell _ _ _ _ (fun e => h.ne1 e.symm), Below.heap_setCell _ _ _ _ (fun e => h.ne1 e.symm)]
    exact hbk
  hb := h.hb
  hr := h.hr
  hrs := by simpa using h.hrs
  flash := ownsRow_setCell_other (ownsRow_setCell_other (ownsRow_setCell_other (ownsRow_setCell_other h.flash h.ne2 _) h.ne2 _) h.ne2 _) h.ne2 _
  flen := h.flen
  fbytes := h.fbytes
  ram := by
    intro j hj
    obtain ⟨w0, w1, w2, w3⟩ := h.word i hi
    by_cases e0 : j = 4 * i
    · subst e0
      rw [World.cell?_setCell_other _ _ _ _ (by simp), World.cell?_setCell_other _ _ _ _ (by simp), World.cell?_setCell_other _ _ _ _ (by simp), World.cell?_setCell_same _ _ _ w0, show 4 * i / 4 = i from by omega, show 4 * i % 4 = 0 from by omega]
      simp
    by_cases e1 : j = 4 * i + 1
    · subst e1
      rw [World.cell?_setCell_other _ _ _ _ (by simp), World.cell?_setCell_other _ _ _ _ (by simp), World.cell?_setCell_same _ _ _ (u := .int .u8 (m i / 256 % 256)) (by rw [World.cell?_setCell_other _ _ _ _ (by simp)]; exact w1), show (4 * i + 1) / 4 = i from by omega, show (4 * i + 1) % 4 = 1 from by omega]
      simp
    by_cases e2 : j = 4 * i + 2
    · subst e2
      rw [World.cell?_setCell_other _ _ _ _ (by simp), World.cell?_setCell_same _ _ _ (u := .int .u8 (m i / 65536 % 256)) (by rw [World.cell?_setCell_other _ _ _ _ (by simp), World.cell?_setCell_other _ _ _ _ (by simp)]; exact w2), show (4 * i + 2) / 4 = i from by omega, show (4 * i + 2) % 4 = 2 from by omega]
      simp
    by_cases e3 : j = 4 * i + 3
    · subst e3
      rw [World.cell?_setCell_same _ _ _ (u := .int .u8 (m i / 16777216 % 256)) (by rw [World.cell?_setCell_other _ _ _ _ (by simp), World.cell?_setCell_other _ _ _ _ (by simp), World.cell?_setCell_other _ _ _ _ (by simp)]; exact w3), show (4 * i + 3) / 4 = i from by omega, show (4 * i + 3) % 4 = 3 from by omega]
      simp
    rw [World.cell?_setCell_other _ _ _ _ (by simp; try omega), World.cell?_setCell_other _ _ _ _ (by simp; try omega), World.cell?_setCell_other _ _ _ _ (by simp; try omega), World.cell?_setCell_other _ _ _ _ (by simp; try omega), h.ram j hj, if_neg (by omega)]
  free := by intro j; simp [h.free j]
  words := by intro j; by_cases e : j = i <;> simp [e, x0, x1, h.words j]
  ne1 := h.ne1
  ne2 := h.ne2

/-- What Store returns. -/
def storeE (ad : Int) : Int := if ad % 4 ≠ 0 then 60 else if 134217728 ≤ ad ∧ ad < 134283264 then 62 else if 536870912 ≤ ad ∧ ad ≤ 536936444 then 0 else 61
/-- The words of RAM behind it. -/
def storeM (m : Nat → Int) (ad x : Int) : Nat → Int := if storeE ad = 0 then fun j => if j = ((ad - 536870912) / 4).toNat then x else m j else m

theorem grownBy_refl (w : World) (r : Option Nat) : w.grownBy w r := ⟨rfl, rfl, rfl, Nat.le_refl _, fun _ _ _ => rfl⟩
theorem grownBy_setCell {w w' : World} {g : Nat} (h : w.grownBy w' (some g)) (o : Nat) (v : Value) : w.grownBy (w'.setCell ⟨g, o, none⟩ v) (some g) :=
  ⟨h.os, h.tape, h.output, by simpa using h.size, fun k hk hne => by rw [Below.heap_setCell _ _ _ _ (fun e => hne (by simp [e]))]; exact h.block k hk hne⟩

/-- What Store leaves. -/
def Stored (w : World) (B b : Nat) (fv : Value) (rg : Nat) (F : List Int) (m' : Nat → Int) (w' : World) : Prop := IsMem w' B b fv rg F m' ∧ w.grownBy w' (some rg) ∧ w'.heap.size = w.heap.size

theorem store_any {w : World} {B b : Nat} {fv : Value} {rg : Nat} {F : List Int} {m : Nat → Int} (h : IsMem w B b fv rg F m) (ad : Int) (h0 : 0 ≤ ad) (h1 : ad < 4294967296) (x : Int) (x0 : 0 ≤ x) (x1 : x < 4294967296) :
    Calls Tryd.prog 31 #[.pointer (some ⟨b, 0, none⟩), .int .u32 ad, .int .u32 x] w fun e w' => e = .returned (.int .i64 (storeE ad)) ∧ Stored w B b fv rg F (storeM m ad x) w' := by
  obtain ⟨CC, hCC, hblk⟩ := h.blk
  obtain ⟨hc0, hc1⟩ := two_cells hblk
  clear hblk
  have hH := Lib.hid h
  have heq := eql_nil
  have same : storeE ad ≠ 0 → Stored w B b fv rg F (storeM m ad x) w := fun hne => ⟨by rw [storeM, if_neg hne]; exact h, grownBy_refl _ _, rfl⟩
  have Hsame := Lib.hid same
  clear same
  by_cases hal : ad % 4 ≠ 0
  · have hv : storeE ad = 60 := by simp [storeE, hal]
    have hal' : (ad % 4 != 0) = true := by simpa using hal
    have Hv := Lib.hid hv
    clear hv h hal hc0 hc1
    go_enter Tryd.func31, Tryd.ntmps31
    go_wp2
    go_ret
    exact ⟨ret_int Hv.out.symm, Hsame.out (by rw [Hv.out]; decide)⟩
  · have hal' : (ad % 4 != 0) = false := by simpa using hal
    by_cases hf : 134217728 ≤ ad ∧ ad < 134283264
    · have hv : storeE ad = 62 := by simp [storeE, hal, hf]
      obtain ⟨hf1, hf2⟩ := hf
      have Hv := Lib.hid hv
      clear hv h hal hc0 hc1
      go_enter Tryd.func31, Tryd.ntmps31
      go_wp2
      go_ret
      exact ⟨ret_int Hv.out.symm, Hsame.out (by rw [Hv.out]; decide)⟩
    · have hd : decide (134217728 ≤ ad) = false ∨ (decide (134217728 ≤ ad) = true ∧ decide (ad < 134283264) = false) := by
        by_cases h2 : 134217728 ≤ ad
        · right; exact ⟨by simpa using h2, by simp; omega⟩
        · left; simpa using h2
      by_cases hr : 536870912 ≤ ad ∧ ad ≤ 536936444
      · obtain ⟨i, hi⟩ : ∃ i : Nat, (i : Int) = (ad - 536870912) / 4 := ⟨((ad - 536870912) / 4).toNat, by omega⟩
        have hv : storeE ad = 0 := by simp only [storeE, if_neg hal, if_neg hf, if_pos hr]
        have hm : storeM m ad x = fun j => if j = i then x else m j := by
          rw [storeM, if_pos hv]
          have : ((ad - 536870912) / 4).toNat = i := by omega
          rw [this]
        have hst := h.store i (by omega) x x0 x1
        obtain ⟨w0, w1, w2, w3⟩ := h.word i (by omega)
        have f0 := h.free (4 * i)
        have f1 := h.free (4 * i + 1)
        have f2 := h.free (4 * i + 2)
        have f3 := h.free (4 * i + 3)
        rw [show x / 16777216 % 256 = x / 16777216 from by omega] at hst
        have ho : (ad - 536870912).toNat = 4 * i := by omega
        have Ho := Lib.hid ho
        have Hv := Lib.hid hv
        have Hm := Lib.hid hm
        have Hst := Lib.hid hst
        have hge : ¬ ad < 134283264 := by omega
        obtain ⟨hr1, hr2⟩ := hr
        clear hv h hal hm hst ho hi hf hd
        go_enter Tryd.func31, Tryd.ntmps31
        go_wp2_with fail
        refine (within_yes rg 0 65536 CC 536870912 ad 4 4 w rfl (by omega) h1 hr1 (by omega) (by omega) (by omega) (by omega) (by omega)).mono ?_
        rintro e w' ⟨⟨c', rfl⟩, rfl⟩
        rw [Ho.out]
        try rw [Nat.zero_add]
        go_wp2
        refine wp_loop_rounds 5 ?_
        rw [rounds_succ]
        go_wp2
        rw [rounds_succ]
        go_wp2
        rw [rounds_succ]
        go_wp2
        rw [rounds_succ]
        go_wp2
        rw [rounds_succ]
        go_wp2
        go_ret
        exact ⟨ret_int Hv.out.symm, by rw [Hm.out]; exact Hst.out, grownBy_setCell (grownBy_setCell (grownBy_setCell (grownBy_setCell (grownBy_refl _ _) _ _) _ _) _ _) _ _, by simp⟩
      · have hv : storeE ad = 61 := by simp only [storeE, if_neg hal, if_neg hf, if_neg hr]
        have hfar : ad < 536870912 ∨ ((65536 : Nat) : Int) - 4 < ad - 536870912 := by omega
        have Hv := Lib.hid hv
        clear hv h hal hf
        rcases hd with hd | ⟨hd1, hd2⟩
        all_goals
          go_enter Tryd.func31, Tryd.ntmps31
          go_wp2_with fail
          refine (within_nil (some ⟨rg, 0, none⟩) 65536 CC 536870912 ad 4 w (by omega) h1 (by omega) (by omega) (by omega) hfar).mono ?_
          rintro e w' ⟨rfl, rfl⟩
          go_wp2
          go_ret
          exact ⟨ret_int Hv.out.symm, Hsame.out (by rw [Hv.out]; decide)⟩
end Go.Proofs.YtmkencdkglbpbaaDoor
set_option maxRecDepth 100000
namespace Go.Proofs.YtmkencdkglbpbaaDoor
open Go.RowKit

/-- RAM as it is made. -/
def ramZero : Array Value := madeCells (Value.int .u8 0).cells 65536
theorem ramZero_get (j : Nat) (h : j < 65536) : ramZero[j]? = some (.int .u8 0) := by
  have h1 : (madeCells #[Value.int .u8 0] 65536).toList[j]? = some (.int .u8 0) := by
    rw [toList_madeCells_one, List.getElem?_replicate, if_pos h]
  show (madeCells #[Value.int .u8 0] 65536)[j]? = _
  rw [← Array.getElem?_toList]
  exact h1
theorem run_ram (w : World) : (Instr.makeSlice 47 (.int .i64 65536) (.int .i64 65536)).run Tryd.prog w = .ok (.slice (some ⟨w.heap.size, 0, none⟩) 65536 65536) (w.alloc (.cells ramZero 5)) := by
  obtain ⟨i0, hi, hz0, hz1, hz2⟩ := info_parts Tryd.infoU8
  have := run_make (P := Tryd.prog) w 47 5 i0 (.int .u8 0) Tryd.underlying47 hi hz0 .i64 .i64 65536 65536 (by omega) (by omega) (by rw [hz2]; omega) (by omega)
  rw [this, hz1]
  rfl
attribute [irreducible] ramZero

theorem ownsRow_base {w : World} {B B' : Nat} {e : TypeId} {v : Value} {n : Nat} {xs : List Value} (h : w.ownsRow B e 1 v n xs) (hB : B' ≤ B) : w.ownsRow B' e 1 v n xs := by
  obtain ⟨h1, h2⟩ := h
  refine ⟨h1, ?_⟩
  rcases h2 with h2 | ⟨g, cap, cur, hv, hg, r⟩
  · exact .inl h2
  · exact .inr ⟨g, cap, cur, hv, by omega, r⟩

theorem ownsRow_drew {w : World} {B : Nat} {e : TypeId} {v : Value} {n : Nat} {xs : List Value} (h : w.ownsRow B e 1 v n xs) : w.drew.ownsRow B e 1 v n xs := h

theorem ByteRow.below {w w' : World} {a : Option Addr} {n : Nat} {F : List Int} (h : ByteRow w a n F) (hb : Below w.heap.size w w') : ByteRow w' a n F := by
  obtain ⟨h1, h2, h3⟩ := h
  refine ⟨h1, h2, ?_⟩
  rcases h3 with h3 | ⟨b, o, rfl, hlt, hc⟩
  · exact .inl h3
  · exact .inr ⟨b, o, rfl, Nat.lt_of_lt_of_le hlt hb.size, fun i hi => by rw [hb.cell (p := ⟨b, o + i, none⟩) hlt]; exact hc i hi⟩

theorem IsMem.made {W : World} {B b : Nat} (hbk : b = W.heap.size) {v : Value} {rg : Nat} {F : List Int} (hr : W.heap[rg]? = some (.cells ramZero 5 (0, 0))) (hB : B ≤ rg) (hf : W.ownsRow B 5 1 v F.length (F.map (Value.int .u8))) (hl : F.length ≤ 65536)
    (hF : ∀ x ∈ F, 0 ≤ x ∧ x < 256) (hne : v.ownBlock ≠ some rg) : IsMem (W.alloc (.cells #[v, .slice (some ⟨rg, 0, none⟩) 65536 65536] 116)) B b v rg F (fun _ => 0) where
  blk := by
    subst hbk
    refine ⟨65536, Nat.le_refl _, ?_⟩
    show (W.heap.push _)[W.heap.size]? = _
    simp
  hb := by subst hbk; exact Nat.le_trans hB (Nat.le_of_lt (lt_of_block hr))
  hr := hB
  hrs := by have := lt_of_block hr; simp; omega
  flash := hf.alloc _
  flen := hl
  fbytes := hF
  ram := by
    intro j hj
    rw [World.cell?_alloc_past _ _ _ (lt_of_block hr)]
    simp [World.cell?, hr, ramZero_get j hj]
  free := by
    intro j
    rw [World.frozen?_alloc_past _ _ _ (lt_of_block hr)]
    simp [World.frozen?, hr]
  words := by intro i; constructor <;> omega
  ne1 := by subst hbk; exact Nat.ne_of_lt (lt_of_block hr)
  ne2 := hne

theorem heap_last (w : World) (o : Obj) : (w.alloc o).heap[w.heap.size]? = some o := by
  show (w.heap.push o)[w.heap.size]? = _
  simp

/-- What New leaves. -/
def NewPost (w : World) (F : List Int) (e : Ending) (w' : World) : Prop := ∃ b fv rg, e = .returned (.tuple #[.pointer (some ⟨b, 0, none⟩), .int .i64 0]) ∧ IsMem w' w.heap.size b fv rg F (fun _ => 0) ∧ Below w.heap.size w w'

theorem new_big (a : Option Addr) (n cap : Nat) (w : World) (hn : 65536 < n) (hn2 : n ≤ 70000) :
    Calls Tryd.prog 30 #[.slice a n cap] w fun e w' => e = .returned (.tuple #[.pointer none, .int .i64 82]) ∧ w' = w := by
  go_enter Tryd.func30, Tryd.ntmps30
  go_wp2
  go_ret2
  exact ⟨rfl, rfl⟩

theorem new_any (a : Option Addr) (n cap : Nat) (F : List Int) (w : World) (hF : ByteRow w a n F) (hn : n ≤ 65536) (hcap : a = none → n = 0 ∧ cap = 0) :
    Calls Tryd.prog 30 #[.slice a n cap] w (NewPost w F) := by
  obtain rfl : F.length = n := hF.1
  have hrun := run_ram
  have hb := hF.2.1
  have HF := Lib.hid hF
  have Hcap := Lib.hid hcap
  clear hF hcap
  go_enter Tryd.func30, Tryd.ntmps30
  go_wp2
  go_region_with (go_at_call 54; refine (clone_any _ _ _ F _ (by first | exact HF.out | exact HF.out.below (((Below.refl _ w).alloc (Nat.le_refl _) _).drew)) (by omega) Hcap.out).mono ?_; rintro e w' ⟨v, rfl, hown, hbel⟩; obtain ⟨x, c', rfl, -⟩ := flash_shape hown)
  all_goals (try go_wp2)
  · have hl : F.length ≤ 65536 := hn
    go_ret2
    refine ⟨_, _, _, rfl, IsMem.made (B := w.heap.size) (W := w'.alloc (.cells ramZero 5)) (by simp) (rg := w'.heap.size) (heap_last _ _) hbel.size (hown.alloc _) hl hb (fun e => ?_), ?_⟩
    · have := (hown.lt _ e).2
      omega
    · exact (((Below.refl w.heap.size w).drew.trans hbel).alloc hbel.size _).alloc (by have := hbel.size; simp at this ⊢; omega) _
  · have hl : F.length ≤ 65536 := hn
    have hsz : w.heap.size + 1 ≤ w'.heap.size := by have := hbel.size; simpa using this
    go_ret2
    refine ⟨_, _, _, rfl, IsMem.made (W := w') rfl (rg := w.heap.size) (by rw [hbel.block _ (by simp)]; exact heap_last _ _) (Nat.le_refl _) (ownsRow_base hown (by simp)) hl hb (fun e => ?_), ?_⟩
    · have := (hown.lt _ e).1
      simp at this
      omega
    · exact ((((Below.refl w.heap.size w).alloc (Nat.le_refl _) _).drew.trans (hbel.mono (by simp))).alloc (by omega) _)
end Go.Proofs.YtmkencdkglbpbaaDoor
set_option maxRecDepth 100000
namespace Go.Proofs.YtmkencdkglbpbaaDoor
open Go.RowKit

/-- A memory behind whatever leaves its blocks alone. -/
theorem IsMem.kept {w w' : World} {B b : Nat} {fv : Value} {rg : Nat} {F : List Int} {m : Nat → Int} (h : IsMem w B b fv rg F m) (hs : w.heap.size ≤ w'.heap.size) (hk : ∀ k, B ≤ k → k < w.heap.size → w'.heap[k]? = w.heap[k]?) : IsMem w' B b fv rg F m where
  blk := by obtain ⟨C, hC, hb⟩ := h.blk; exact ⟨C, hC, by rw [hk _ h.hb (lt_of_block hb)]; exact hb⟩
  hb := h.hb
  hr := h.hr
  hrs := Nat.lt_of_lt_of_le h.hrs hs
  flash := by
    obtain ⟨h1, h2⟩ := h.flash
    refine ⟨h1, ?_⟩
    rcases h2 with h2 | ⟨g, cap, cur, hv, hg, hh, r⟩
    · exact .inl h2
    · exact .inr ⟨g, cap, cur, hv, hg, by rw [hk _ hg (lt_of_block hh)]; exact hh, r⟩
  flen := h.flen
  fbytes := h.fbytes
  ram := by
    intro j hj
    rw [World.cell?_of_block (w := w) (a := ⟨rg, j, none⟩) (hk rg h.hr h.hrs)]
    exact h.ram j hj
  free := by
    intro j
    rw [World.frozen?_of_block (w := w) (a := ⟨rg, j, none⟩) (hk rg h.hr h.hrs)]
    exact h.free j
  words := h.words
  ne1 := h.ne1
  ne2 := h.ne2

theorem IsMem.drawn {w w' : World} {B b : Nat} {fv : Value} {rg : Nat} {F : List Int} {m : Nat → Int} (h : IsMem w B b fv rg F m) (hd : Drawn w w') : IsMem w' B b fv rg F m := by
  obtain ⟨n, rfl⟩ := hd
  exact h.kept (Nat.le_refl _) fun _ _ _ => rfl

theorem IsMem.below {w w' : World} {B b : Nat} {fv : Value} {rg : Nat} {F : List Int} {m : Nat → Int} (h : IsMem w B b fv rg F m) (hd : Below w.heap.size w w') : IsMem w' B b fv rg F m :=
  h.kept hd.size fun _ _ hk => hd.block _ hk

theorem below_drawn {B : Nat} {a w w' : World} (h : Below B a w) (hd : Drawn w w') : Below B a w' := by
  obtain ⟨n, rfl⟩ := hd
  exact h.trans ⟨rfl, rfl, rfl, Nat.le_refl _, fun _ _ => rfl⟩

theorem below_stored {B : Nat} {a w w' : World} (h : Below B a w) {b : Nat} {fv : Value} {rg : Nat} {F : List Int} {m' : Nat → Int} (hs : Stored w B b fv rg F m' w') (hB : B ≤ w.heap.size) : Below B a w' :=
  h.grown hs.2.1 hB fun _ e => by cases e; exact hs.1.hr

end Go.Proofs.YtmkencdkglbpbaaDoor
