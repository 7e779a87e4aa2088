/- mem: within, wordOf and slices.Clone at bytes, by contracts. -/
import Derived.WalkKit
import Derived.WalkSpells
import Derived.Lib.Hide
import Derived.Laws.AppendOwnNone
import Derived.Test.YtmkencdkglbpbaaProg
set_option maxRecDepth 100000
namespace Go.Proofs.Ytmkencdkglbpbaa
open Go.RowKit

/-- The bytes of a slice: nothing where it is nil. -/
def ByteRow (w : World) (a : Option Addr) (n : Nat) (F : List Int) : Prop :=
  F.length = n ∧ (∀ x ∈ F, 0 ≤ x ∧ x < 256) ∧ (n = 0 ∨ ∃ b o, a = some ⟨b, o, none⟩ ∧ b < w.heap.size ∧ ∀ i, i < n → w.cell? ⟨b, o + i, none⟩ = some (.int .u8 (F.getD i 0)))

theorem within_no (v : Value) (base address : Int) (n : Int) (w : World) (h : address < base) :
    Calls Try.prog 42 #[v, .int .u32 base, .int .u32 address, .int .i64 n] w fun e w' => e = .returned (.slice none 0 0) ∧ w' = w := by
  go_enter Try.func42, Try.ntmps42
  go_wp2
  go_ret
  exact ⟨rfl, rfl⟩

theorem within_far (a : Option Addr) (len cap : Nat) (base address : Int) (n : Int) (w : World) (h0 : 0 ≤ base) (h1 : address < 4294967296) (h : base ≤ address) (hl : len < 1000000) (hn : 0 ≤ n) (hn' : n ≤ 8)
    (hgt : (len : Int) - n < address - base) :
    Calls Try.prog 42 #[.slice a len cap, .int .u32 base, .int .u32 address, .int .i64 n] w fun e w' => e = .returned (.slice none 0 0) ∧ w' = w := by
  go_enter Try.func42, Try.ntmps42
  go_wp2
  go_ret
  exact ⟨rfl, rfl⟩

theorem within_nil (a : Option Addr) (len cap : Nat) (base address : Int) (n : Int) (w : World) (h0 : 0 ≤ base) (h1 : address < 4294967296) (hl : len < 1000000) (hn : 0 ≤ n) (hn' : n ≤ 8)
    (hgt : address < base ∨ (len : Int) - n < address - base) :
    Calls Try.prog 42 #[.slice a len cap, .int .u32 base, .int .u32 address, .int .i64 n] w fun e w' => e = .returned (.slice none 0 0) ∧ w' = w := by
  by_cases h : address < base
  · exact within_no _ base address n w h
  · exact within_far a len cap base address n w h0 h1 (by omega) hl hn hn' (by omega)

theorem within_yes (b o : Nat) (len cap : Nat) (base address n : Int) (k : Nat) (w : World) (hk : n = k) (h0 : 0 ≤ base) (h1 : address < 4294967296) (h : base ≤ address) (hl : len < 1000000) (hlc : len ≤ cap) (hn : 1 ≤ n) (hn' : n ≤ 8)
    (hgt : address - base ≤ (len : Int) - n) :
    Calls Try.prog 42 #[.slice (some ⟨b, o, none⟩) len cap, .int .u32 base, .int .u32 address, .int .i64 n] w fun e w' => (∃ c, e = .returned (.slice (some ⟨b, o + (address - base).toNat, none⟩) k c)) ∧ w' = w := by
  have hne : ¬ cap = (address - base).toNat := by omega
  have e1 : (address - base + n).toNat - (address - base).toNat = k := by omega
  have H1 := Lib.hid e1
  clear e1 hk
  go_enter Try.func42, Try.ntmps42
  go_wp2
  rw [H1.out]
  go_ret
  exact ⟨⟨_, rfl⟩, rfl⟩

theorem or_bytes (x0 x1 x2 x3 : Int) (b0 : 0 ≤ x0) (b0' : x0 < 256) (b1 : 0 ≤ x1) (b1' : x1 < 256) (b2 : 0 ≤ x2) (b2' : x2 < 256) (b3 : 0 ≤ x3) (b3' : x3 < 256) :
    bits BinOp.or IntKind.u32 (bits BinOp.or IntKind.u32 (bits BinOp.or IntKind.u32 (bits BinOp.or IntKind.u32 0 x0) (x1 * 256)) (x2 * 65536)) (x3 * 16777216) = x0 + 256 * x1 + 65536 * x2 + 16777216 * x3 := by
  obtain ⟨n0, rfl⟩ := Int.eq_ofNat_of_zero_le b0
  obtain ⟨n1, rfl⟩ := Int.eq_ofNat_of_zero_le b1
  obtain ⟨n2, rfl⟩ := Int.eq_ofNat_of_zero_le b2
  obtain ⟨n3, rfl⟩ := Int.eq_ofNat_of_zero_le b3
  have k0 : bits BinOp.or IntKind.u32 0 (n0 : Int) = ((n0 : Nat) : Int) := by
    have := u32_or_nat 0 n0 (by omega) (by omega)
    simpa using this
  have k1 : bits BinOp.or IntKind.u32 (n0 : Int) ((n1 : Int) * 256) = ((n1 * 256 + n0 : Nat) : Int) := by
    have := u32_or_nat n0 (n1 * 256) (by omega) (by omega)
    rw [Nat.or_comm, nat_join 8 (n1 * 256) n0 (by omega) (by omega)] at this
    simpa using this
  have k2 : bits BinOp.or IntKind.u32 ((n1 * 256 + n0 : Nat) : Int) ((n2 : Int) * 65536) = ((n2 * 65536 + (n1 * 256 + n0) : Nat) : Int) := by
    have := u32_or_nat (n1 * 256 + n0) (n2 * 65536) (by omega) (by omega)
    rw [Nat.or_comm, nat_join 16 (n2 * 65536) (n1 * 256 + n0) (by omega) (by omega)] at this
    simpa using this
  have k3 : bits BinOp.or IntKind.u32 ((n2 * 65536 + (n1 * 256 + n0) : Nat) : Int) ((n3 : Int) * 16777216) = ((n3 * 16777216 + (n2 * 65536 + (n1 * 256 + n0)) : Nat) : Int) := by
    have := u32_or_nat (n2 * 65536 + (n1 * 256 + n0)) (n3 * 16777216) (by omega) (by omega)
    rw [Nat.or_comm, nat_join 24 (n3 * 16777216) (n2 * 65536 + (n1 * 256 + n0)) (by omega) (by omega)] at this
    simpa using this
  rw [k0, k1, k2, k3]
  omega

theorem wordOf_any (b o : Nat) (c : Nat) (x0 x1 x2 x3 : Int) (w : World) (h0 : w.cell? ⟨b, o, none⟩ = some (.int .u8 x0)) (h1 : w.cell? ⟨b, o+1, none⟩ = some (.int .u8 x1))
  (h2 : w.cell? ⟨b, o+2, none⟩ = some (.int .u8 x2)) (h3 : w.cell? ⟨b, o+3, none⟩ = some (.int .u8 x3)) (b0 : 0 ≤ x0) (b0' : x0 < 256) (b1 : 0 ≤ x1) (b1' : x1 < 256)  (b2 : 0 ≤ x2) (b2' : x2 < 256)  (b3 : 0 ≤ x3) (b3' : x3 < 256) :
    Calls Try.prog 30 #[.slice (some ⟨b, o, none⟩) 4 c] w fun e w' => e = .returned (.int .u32 (x0 + 256 * x1 + 65536 * x2 + 16777216 * x3)) ∧ w' = w := by
  have H := Lib.hid (or_bytes x0 x1 x2 x3 b0 b0' b1 b1' b2 b2' b3 b3')
  go_enter Try.func30, Try.ntmps30
  go_wp2
  refine wp_loop_rounds 5 ?_
  rw [rounds_succ]
  go_wp2
  rw [rounds_succ]
  go_wp2
  rw [rounds_succ]
  go_wp2
  rw [rounds_succ]
  go_wp2
  rw [rounds_succ]
  go_wp2
  rw [H.out]
  go_ret
  exact ⟨rfl, rfl⟩

theorem Try.infoU8 : (Try.prog.info? 5).map (fun i => (i.zero, i.size, i.bytes)) = some (some (.int .u8 0), 1, 1) := by kernel_rfl

theorem u8_oneCell (F : List Int) : ∀ u ∈ F.map (Value.int .u8), u.oneCell' = true := by
  intro u hu
  obtain ⟨x, _, rfl⟩ := List.mem_map.1 hu
  rfl

/-- slices.Clone of bytes: a row of the call's own, or nil. -/
theorem clone_any (a : Option Addr) (n cap : Nat) (F : List Int) (w : World) (hF : ByteRow w a n F) (hn : n ≤ 70000) (hcap : a = none → n = 0 ∧ cap = 0) :
    Calls Try.prog 33 #[.slice a n cap] w fun e w' => ∃ v, e = .returned v ∧ w'.ownsRow w.heap.size 5 1 v n (F.map (Value.int .u8)) ∧ Below w.heap.size w w' := by
  obtain ⟨i0, hi, hz0, hz1, hz2⟩ := info_parts Try.infoU8
  have heq : ∀ (w : World) (a : Option Addr) (l c : Nat), (binOp .eql 26 (.slice a l c) (.slice none 0 0)).run Try.prog w = .ok (.bool a.isNone) w := fun w a l c => Lib.run_eql_slice_nil w _ 5 a l c 0 0 Try.underlying26
  obtain ⟨hl, hb, hc⟩ := hF
  cases a with
  | none =>
    obtain ⟨rfl, rfl⟩ := hcap rfl
    obtain rfl : F = [] := List.length_eq_zero_iff.1 hl
    clear hl hb hc
    go_enter Try.func33, Try.ntmps33
    go_wp2
    go_ret
    exact ⟨_, rfl, World.ownsRow_nil _ _ _ _, Below.refl _ _⟩
  | some ad =>
    have hnews : ∀ j u, (F.map (Value.int .u8))[j]? = some u → (w.alloc (.cells #[] 5)).cell? (ad.add j) = some u := by
      intro j u hj
      rcases hc with h0 | ⟨b, o, he, hb2, hc⟩
      · exfalso
        have := (List.getElem?_eq_some_iff.1 hj).1
        simp only [List.length_map] at this
        omega
      · cases he
        have hj' := (List.getElem?_eq_some_iff.1 hj)
        obtain ⟨hlt, hget⟩ := hj'
        simp only [List.length_map] at hlt
        rw [show (⟨b, o, none⟩ : Addr).add j = ⟨b, o + j, none⟩ from by simp [Addr.add], World.cell?_alloc_past _ _ _ hb2, hc j (by omega)]
        simp only [List.getElem_map] at hget
        rw [← hget]
        simp [hlt]
    have hown : (w.alloc (.cells #[] 5)).ownsRow w.heap.size 5 1 (.slice (some ⟨w.heap.size, 0, none⟩) 0 0) 0 [] := World.ownsRow_lit w #[] 0 (Nat.le_refl _) (by unfold maxLen; omega) rfl
    have H := Lib.hid hl
    clear hl hc
    go_enter Try.func33, Try.ntmps33
    go_wp2_with (at_builtin; refine wpList_append_own _ rfl (.tmp 5) (.tmp 6) 26 rfl w.heap.size 5 i0 (.int .u8 0) 1 1 Try.underlying26 hi hz0 hz1 hz2 rfl (by decide) _ _ _ rfl hown ad n cap (F.map (.int .u8)) rfl (by rw [List.length_map, H.out]; omega) hnews (u8_oneCell F) (by unfold maxLen; omega) (by omega) (by simp) ?_; intro v' w1 hown' hgrow hnil)
    go_ret
    simp only [Nat.zero_add, List.nil_append] at hown'
    refine ⟨_, rfl, hown', ((Below.refl _ _).alloc (Nat.le_refl _) _).grown hgrow (by simp) (by intro k hk; cases hk; simp)⟩
end Go.Proofs.Ytmkencdkglbpbaa
