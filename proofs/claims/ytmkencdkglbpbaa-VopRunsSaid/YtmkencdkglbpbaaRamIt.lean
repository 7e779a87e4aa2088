/- mem: Ram: an iterator over the words of RAM that aren't 0: its contract. -/
import Derived.RangeFuncNested
import Derived.RangeFuncBound
import Derived.RangeFuncCalls
import Derived.RangeFuncLeaves
import Derived.Shelf.Abstract
import Derived.Shelf.RegionOpen
import Derived.WalkKit
import Derived.OwnWalkIn
import Derived.TacticsInMore
import Derived.LoopNIn
import Derived.LoopIn
import Derived.Test.YtmkencdkglbpbaaVopX
set_option maxRecDepth 100000
set_option linter.unusedVariables false
namespace Go.Proofs.Ytmkencdkglbpbaa
open Go.RowKit Go.Shelf

attribute [local go_sem] Oper.semAt_some

/-- What the iterator reads of a memory: it lies below n₀. -/
def RamAt (n₀ : Nat) (W : World) (Bn b rg : Nat) (m : Nat → Int) : Prop :=
  b < n₀ ∧ rg < n₀ ∧ W.cell? ⟨Bn, 0, none⟩ = some (.pointer (some ⟨b, 0, none⟩)) ∧ (∃ C, 65536 ≤ C ∧ W.cell? ⟨b, 1, none⟩ = some (.slice (some ⟨rg, 0, none⟩) 65536 C)) ∧
  (∀ i, i < 16384 → W.cell? ⟨rg, 4 * i, none⟩ = some (.int .u8 (m i % 256)) ∧ W.cell? ⟨rg, 4 * i + 1, none⟩ = some (.int .u8 (m i / 256 % 256)) ∧
    W.cell? ⟨rg, 4 * i + 2, none⟩ = some (.int .u8 (m i / 65536 % 256)) ∧ W.cell? ⟨rg, 4 * i + 3, none⟩ = some (.int .u8 (m i / 16777216 % 256))) ∧
  ∀ i, 0 ≤ m i ∧ m i < 4294967296

/-- What a round that goes on keeps: all that lies below n₀, and the iterator's box. -/
def KeepR (n₀ Bn : Nat) (A B : World) : Prop := Below n₀ A B ∧ B.heap[Bn]? = A.heap[Bn]?
theorem KeepR.trans {n₀ Bn : Nat} {A B C : World} (h : KeepR n₀ Bn A B) (k : KeepR n₀ Bn B C) : KeepR n₀ Bn A C := ⟨h.1.trans k.1, k.2.trans h.2⟩
theorem KeepR.put {n₀ Bn : Nat} {w : World} (hn : n₀ ≤ w.heap.size) (hb : Bn < w.heap.size) (W : World) (l : Nat) (o o' : Obj) (hl : w.heap.size ≤ l) (h : W.heap[l]? = some o) (h1 : o.isCells = false) (h2 : o.isWalk = false) : KeepR n₀ Bn W (W.putObj l o') :=
  ⟨belowK_b hn W l o o' hl h h1 h2, World.putObj_heap_other (by omega)⟩

theorem RamAt.keep {n₀ : Nat} {A B : World} {Bn b rg : Nat} {m : Nat → Int} (h : RamAt n₀ A Bn b rg m) (k : KeepR n₀ Bn A B) : RamAt n₀ B Bn b rg m := by
  obtain ⟨h2, h3, h4, ⟨C, hC, h5⟩, h6, h7⟩ := h
  refine ⟨h2, h3, (World.cell?_of_block (w := A) (a := ⟨Bn, 0, none⟩) k.2).trans h4, ⟨C, hC, (k.1.cell (p := ⟨b, 1, none⟩) h2).trans h5⟩, fun i hi => ?_, h7⟩
  obtain ⟨c0, c1, c2, c3⟩ := h6 i hi
  exact ⟨(k.1.cell (p := ⟨rg, 4 * i, none⟩) h3).trans c0, (k.1.cell (p := ⟨rg, 4 * i + 1, none⟩) h3).trans c1, (k.1.cell (p := ⟨rg, 4 * i + 2, none⟩) h3).trans c2, (k.1.cell (p := ⟨rg, 4 * i + 3, none⟩) h3).trans c3⟩

/-- A word's number that is told. -/
abbrev Told (m : Nat → Int) := { k : Nat // k < 16384 ∧ m k ≠ 0 }
/-- What is told of the first n words. -/
def toldL (m : Nat → Int) : Nat → List (Told m)
  | 0 => []
  | n + 1 => if h : n < 16384 ∧ m n ≠ 0 then toldL m n ++ [⟨n, h⟩] else toldL m n

theorem toldL_yes {m : Nat → Int} {n : Nat} (h : n < 16384 ∧ m n ≠ 0) : toldL m (n + 1) = toldL m n ++ [⟨n, h⟩] := by rw [toldL, dif_pos h]
theorem toldL_no {m : Nat → Int} {n : Nat} (h : m n = 0) : toldL m (n + 1) = toldL m n := by rw [toldL, dif_neg (fun h' => h'.2 h)]
theorem toldL_prefix (m : Nat → Int) (k : Nat) : ∀ n, k ≤ n → toldL m k <+: toldL m n
  | 0, h => by obtain rfl : k = 0 := (by omega); exact List.prefix_refl _
  | n + 1, h => by
    rcases Nat.lt_or_ge k (n + 1) with h' | h'
    · refine (toldL_prefix m k n (by omega)).trans ?_
      rw [toldL]
      split
      · exact List.prefix_append _ _
      · exact List.prefix_refl _
    · obtain rfl : k = n + 1 := (by omega)
      exact List.prefix_refl _

abbrev encT (m : Nat → Int) (x : Told m) : Array Value := #[.int .u32 (536870912 + ((4 * x.1 : Nat) : Int)), .int .u32 (m x.1)]

set_option maxHeartbeats 1000000 in
theorem ram1_in (n : Nat) (hn : 1 ≤ n) (l Bn b rg n₀ : Nat) (m : Nat → Int) (J Jx : List (Told m) → World → Prop)
    (hY : ∀ pre x W, J pre W → pre.length < (toldL m 16384).length → YieldAt Fence.wide (n - 1) Try.prog l (encT m x) W fun e W' =>
      (e = .returned (.bool true) ∧ J (pre ++ [x]) W' ∧ KeepR n₀ Bn W W') ∨ (e = .returned (.bool false) ∧ Jx (pre ++ [x]) W'))
    (W : World) (hR : RamAt n₀ W Bn b rg m) (h0 : J [] W) :
    CallsIn Fence.wide n Try.prog 29 #[.func (.yield l) #[] #[], .pointer (some ⟨Bn, 0, none⟩)] W fun e W' => (∃ v, e = .returned v) ∧
      ((∃ ys, ys = toldL m 16384 ∧ J ys W') ∨ (∃ pre, pre <+: toldL m 16384 ∧ Jx pre W')) := by
  refine callsIn_of_wp Try.func29 rfl trivial ?_ rfl
  simp only [Try.ntmps29, List.size_toArray, List.length_cons, List.length_nil, Nat.reduceAdd, Nat.reduceSub, Array.replicate_succ, Array.replicate_zero, List.push_toArray, List.append_toArray, List.nil_append, List.cons_append]
  have HY := Lib.hid hY
  have HR := Lib.hid hR
  clear hY hR
  gi_wp2
  gi_loopw [3] (fun p wr => ∃ k : Nat, k ≤ 16384 ∧ p = .int .i64 ((4 * k : Nat) : Int) ∧ RamAt n₀ wr Bn b rg m ∧ J (toldL m k) wr)
    (fun p wr => 65536 - (intOf p).toNat)
  case atStart =>
    exact ⟨0, by omega, rfl, HR.out, h0⟩
  case round =>
    obtain ⟨k, hk, rfl, hRw, hJ⟩ := hrel
    obtain ⟨q2, q3, c0, ⟨C, hC, c1⟩, q6, q7⟩ := hRw
    obtain ⟨a, ha⟩ : ∃ a, a = 4 * k := ⟨_, rfl⟩
    rw [← ha]
    have HA := Lib.hid ha
    have HRw := Lib.hid (show RamAt n₀ wr Bn b rg m from ⟨q2, q3, c0, ⟨C, hC, c1⟩, q6, q7⟩)
    by_cases hlt : k < 16384
    · obtain ⟨d0, d1, d2, d3⟩ := q6 k hlt
      rw [← ha] at d0 d1 d2 d3
      obtain ⟨R, hR⟩ : ∃ R : Nat, R = 65536 := ⟨_, rfl⟩
      rw [← hR] at c1
      have hal : a < R := by omega
      have ha4 : a + 4 ≤ R := by omega
      have hR1 : R ≤ 1000000 := by omega
      have hRa : R ≠ a := by omega
      have hRC : R ≤ C := by omega
      have hCa : C ≠ a := by omega
      have hCa4 : a + 4 ≤ C := by omega
      have HRR := Lib.hid hR
      clear hR
      have e1 : decide ((a : Int) < (R : Int)) = true := by simp; omega
      have wq1 : IntKind.i64.wrap ((a : Int) + 4) = (a : Int) + 4 := IntWalk.i64_in _ (by omega)
      obtain ⟨x0, x1⟩ := q7 k
      obtain ⟨X, hX⟩ : ∃ X, X = m k := ⟨_, rfl⟩
      have HX := Lib.hid hX
      have D0 := Lib.hid d0
      have D1 := Lib.hid d1
      have D2 := Lib.hid d2
      have D3 := Lib.hid d3
      have Q7 := Lib.hid q7
      clear ha q6 d0 d1 d2 d3 q7
      rw [← hX] at x0 x1
      clear hX
      have hw : m k % 256 + 256 * (m k / 256 % 256) + 65536 * (m k / 65536 % 256) + 16777216 * (m k / 16777216 % 256) = X := by
        rw [HX.out]; exact word_of_bytes (m k) (Q7.out k).1 (Q7.out k).2
      have HW := Lib.hid hw
      clear hw
      have wq2 : IntKind.u32.wrap (a : Int) = (a : Int) := IntWalk.u32_in _ (by omega)
      have wq3 : IntKind.u32.wrap (536870912 + (a : Int)) = 536870912 + (a : Int) := IntWalk.u32_in _ (by omega)
      have wq4 : IntKind.u32.wrap X = X := IntWalk.u32_in _ (by omega)
      gi_wp2
      refine ⟨trivial, (callsIn_wide.2 (wordOf_any rg a (C - a) _ _ _ _ wr D0.out D1.out D2.out D3.out (by omega) (by omega) (by omega) (by omega) (by omega) (by omega) (by omega) (by omega))).mono ?_⟩
      rintro e w' ⟨rfl, rfl⟩
      rw [HW.out]
      by_cases hz : X = 0
      · have hz' : (X != 0) = false := by simpa using hz
        have HZ := Lib.hid hz
        clear hz
        gi_wp2
        refine ⟨fun _ h => (by cases h), ?_⟩
        gi_wp2
        go_roundw
        case rel =>
          refine ⟨k + 1, by omega, ?_, HRw.out, ?_⟩
          · have := HA.out; congr 1; omega
          · rw [toldL_no (by rw [← HX.out]; exact HZ.out)]; exact hJ
        case measure => have := HRR.out; simp only [intOf]; omega
      · have hz' : (X != 0) = true := by simpa using hz
        have hkk : k < 16384 ∧ m k ≠ 0 := ⟨hlt, by rw [← HX.out]; exact hz⟩
        have hlen : (toldL m k).length < (toldL m 16384).length := by
          have h1 := (toldL_prefix m (k + 1) 16384 (by omega)).length_le
          rw [toldL_yes hkk] at h1
          simp at h1; omega
        obtain ⟨fn, tmps, assign, body, hy, hRo⟩ := HY.out (toldL m k) ⟨k, hkk⟩ w' hJ hlen
        have he : encT m ⟨k, hkk⟩ = #[.int .u32 (536870912 + (a : Int)), .int .u32 X] := by
          show #[Value.int .u32 (536870912 + ((4 * k : Nat) : Int)), Value.int .u32 (m k)] = _
          rw [← HX.out, ← HA.out]
        rw [he] at hy
        have HK := Lib.hid hkk
        clear he hlen hz
        gi_wp2
        refine hRo.mono ?_
        rintro e W3 (⟨rfl, hJ3, hk3⟩ | ⟨rfl, hJx3⟩)
        · have HR3 := Lib.hid (HRw.out.keep hk3)
          gi_wp2
          go_roundw
          case rel =>
            refine ⟨k + 1, by omega, ?_, HR3.out, ?_⟩
            · have := HA.out; congr 1; omega
            · rw [toldL_yes HK.out]; exact hJ3
          case measure => have := HRR.out; simp only [intOf]; omega
        · gi_wp2
          refine bodyPost_ret (results_none rfl _ _ _) rfl ?_
          refine ⟨⟨_, rfl⟩, .inr ⟨_, ?_, hJx3⟩⟩
          have h1 := toldL_prefix m (k + 1) 16384 (by omega)
          rw [toldL_yes HK.out] at h1
          exact h1
    · obtain ⟨R, hR⟩ : ∃ R : Nat, R = 65536 := ⟨_, rfl⟩
      rw [← hR] at c1
      have hRle : R ≤ a := by omega
      have hRle2 : ¬ ((a : Int) < (R : Int)) := by omega
      have e1 : decide ((a : Int) < (R : Int)) = false := by simp; omega
      have hke : k = 16384 := by omega
      have HKe := Lib.hid hke
      clear hR hke q6 q7 ha
      gi_wp2
      go_end0
      rw [HKe.out] at hJ
      exact ⟨⟨_, rfl⟩, .inl hJ⟩

theorem IsMem.ramAt {w : World} {B b : Nat} {fv : Value} {rg : Nat} {F : List Int} {m : Nat → Int} (h : IsMem w B b fv rg F m) {Bn : Nat} {W : World} (hW : Below w.heap.size w W) {n₀ : Nat} (hn : w.heap.size ≤ n₀) (hc : W.cell? ⟨Bn, 0, none⟩ = some (.pointer (some ⟨b, 0, none⟩))) : RamAt n₀ W Bn b rg m := by
  have hbl := lt_of_block h.blk
  refine ⟨by omega, by have := h.hrs; omega, hc, ⟨65536, Nat.le_refl _, (hW.cell (p := ⟨b, 1, none⟩) hbl).trans (two_cells h.blk).2⟩, fun i hi => ?_, h.words⟩
  obtain ⟨c0, c1, c2, c3⟩ := h.word i hi
  exact ⟨(hW.cell (p := ⟨rg, 4 * i, none⟩) h.hrs).trans c0, (hW.cell (p := ⟨rg, 4 * i + 1, none⟩) h.hrs).trans c1, (hW.cell (p := ⟨rg, 4 * i + 2, none⟩) h.hrs).trans c2, (hW.cell (p := ⟨rg, 4 * i + 3, none⟩) h.hrs).trans c3⟩

/-- Ram: the receiver is boxed; the function value captures the box. -/
theorem ram_any (p : Option Addr) (w : World) :
    Calls Try.prog 12 #[.pointer p] w fun e w' => e = .returned (.func (.func 29) #[] #[.pointer (some ⟨w.heap.size, 0, none⟩)]) ∧ w' = w.alloc (.cells #[.pointer p] 44) := by
  go_enter Try.func12, Try.ntmps12
  go_wp2
  go_ret
  exact ⟨rfl, rfl⟩

/-- What Ram hands back tells the words that aren't 0, rising. -/
theorem ram_stops (n : Nat) (hn : 1 ≤ n) (Bn b rg n₀ : Nat) (m : Nat → Int) (w : World) (hn₀ : n₀ ≤ w.heap.size) (hBn : Bn < w.heap.size) (hR : RamAt n₀ w Bn b rg m) :
    SeqStopsK Fence.wide n Try.prog 29 #[.pointer (some ⟨Bn, 0, none⟩)] (encT m) (KeepR n₀ Bn) (fun ys => ys = toldL m 16384) (fun pre => pre <+: toldL m 16384) (toldL m 16384).length w := fun l J Jx W hW _ _ hY h0 =>
  ram1_in n hn l Bn b rg n₀ m J Jx hY W (hR.keep ⟨hW.mono hn₀, hW.block Bn hBn⟩) h0

/-- Told words rise. -/
def Rising {m : Nat → Int} (l : List (Told m)) : Prop := l.Pairwise (fun x y => x.1 < y.1)
theorem toldL_lt {m : Nat → Int} : ∀ (n : Nat), ∀ x ∈ toldL m n, x.1 < n
  | 0, x, h => by simp [toldL] at h
  | n + 1, x, h => by
    rw [toldL] at h
    split at h
    · rcases List.mem_append.1 h with h | h
      · have := toldL_lt n x h; omega
      · obtain rfl := List.mem_singleton.1 h
        exact Nat.lt_succ_self n
    · have := toldL_lt n x h; omega
theorem toldL_rising (m : Nat → Int) : ∀ n, Rising (toldL m n)
  | 0 => by simp [toldL, Rising]
  | n + 1 => by
    have ih := toldL_rising m n
    rw [toldL]
    split
    · refine List.pairwise_append.2 ⟨ih, by simp, fun x hx y hy => ?_⟩
      obtain rfl := List.mem_singleton.1 hy
      exact toldL_lt n x hx
    · exact ih
theorem rising_prefix {m : Nat → Int} {l r : List (Told m)} (h : l <+: r) (hr : Rising r) : Rising l := List.Pairwise.sublist h.sublist hr

/-- Where the last one of them stands. -/
def lastOf {m : Nat → Int} (l : List (Told m)) : Int := match l.getLast? with | none => 0 | some x => 536870912 + ((4 * x.1 : Nat) : Int)
theorem lastOf_snoc {m : Nat → Int} (l : List (Told m)) (x : Told m) : lastOf (l ++ [x]) = 536870912 + ((4 * x.1 : Nat) : Int) := by simp [lastOf]
theorem lastOf_lt {m : Nat → Int} {l : List (Told m)} {x : Told m} (h : Rising (l ++ [x])) : lastOf l < 536870912 + ((4 * x.1 : Nat) : Int) := by
  unfold lastOf
  cases hl : l.getLast? with
  | none => simp only; omega
  | some y =>
    simp only
    have := (List.pairwise_append.1 h).2.2 y (List.mem_of_getLast? hl) x (by simp)
    omega
theorem lastOf_bd {m : Nat → Int} (l : List (Told m)) : 0 ≤ lastOf l ∧ lastOf l ≤ 4294967295 := by
  unfold lastOf
  cases hl : l.getLast? with
  | none => simp only; omega
  | some y => have := y.2.1; simp only; omega
end Go.Proofs.Ytmkencdkglbpbaa
