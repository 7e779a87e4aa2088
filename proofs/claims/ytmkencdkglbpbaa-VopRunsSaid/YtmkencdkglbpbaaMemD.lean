/- mem: New, Flash and Copy by contracts. -/
import Derived.Test.YtmkencdkglbpbaaMemC
import Derived.Deep.RegionWith
set_option maxRecDepth 100000
namespace Go.Proofs.Ytmkencdkglbpbaa
open Go.RowKit

/-- RAM as it is made. -/
def ramZero : Array Value := madeCells (Value.int .u8 0).cells 65536
theorem ramZero_get (j : Nat) (h : j < 65536) : ramZero[j]? = some (.int .u8 0) := by
  have h1 : (madeCells #[Value.int .u8 0] 65536).toList[j]? = some (.int .u8 0) := by
    rw [toList_madeCells_one, List.getElem?_replicate, if_pos h]
  show (madeCells #[Value.int .u8 0] 65536)[j]? = _
  rw [← Array.getElem?_toList]
  exact h1
theorem run_ram (w : World) : (Instr.makeSlice 26 (.int .i64 65536) (.int .i64 65536)).run Try.prog w = .ok (.slice (some ⟨w.heap.size, 0, none⟩) 65536 65536) (w.alloc (.cells ramZero 5)) := by
  obtain ⟨i0, hi, hz0, hz1, hz2⟩ := info_parts Try.infoU8
  have := run_make (P := Try.prog) w 26 5 i0 (.int .u8 0) Try.underlying26 hi hz0 .i64 .i64 65536 65536 (by omega) (by omega) (by rw [hz2]; omega) (by omega)
  rw [this, hz1]
  rfl
attribute [irreducible] ramZero

theorem ownsRow_base {w : World} {B B' : Nat} {e : TypeId} {v : Value} {n : Nat} {xs : List Value} (h : w.ownsRow B e 1 v n xs) (hB : B' ≤ B) : w.ownsRow B' e 1 v n xs := by
  obtain ⟨h1, h2⟩ := h
  refine ⟨h1, ?_⟩
  rcases h2 with h2 | ⟨g, cap, cur, hv, hg, r⟩
  · exact .inl h2
  · exact .inr ⟨g, cap, cur, hv, by omega, r⟩

theorem ownsRow_drew {w : World} {B : Nat} {e : TypeId} {v : Value} {n : Nat} {xs : List Value} (h : w.ownsRow B e 1 v n xs) : w.drew.ownsRow B e 1 v n xs := h

theorem ByteRow.below {w w' : World} {a : Option Addr} {n : Nat} {F : List Int} (h : ByteRow w a n F) (hb : Below w.heap.size w w') : ByteRow w' a n F := by
  obtain ⟨h1, h2, h3⟩ := h
  refine ⟨h1, h2, ?_⟩
  rcases h3 with h3 | ⟨b, o, rfl, hlt, hc⟩
  · exact .inl h3
  · exact .inr ⟨b, o, rfl, Nat.lt_of_lt_of_le hlt hb.size, fun i hi => by rw [hb.cell (p := ⟨b, o + i, none⟩) hlt]; exact hc i hi⟩

theorem IsMem.made {W : World} {B b : Nat} (hbk : b = W.heap.size) {v : Value} {rg : Nat} {F : List Int} (hr : W.heap[rg]? = some (.cells ramZero 5 (0, 0))) (hB : B ≤ rg) (hf : W.ownsRow B 5 1 v F.length (F.map (Value.int .u8))) (hl : F.length ≤ 65536)
    (hF : ∀ x ∈ F, 0 ≤ x ∧ x < 256) (hne : v.ownBlock ≠ some rg) : IsMem (W.alloc (.cells #[v, .slice (some ⟨rg, 0, none⟩) 65536 65536] 86)) B b v rg F (fun _ => 0) where
  blk := by
    subst hbk
    show (W.heap.push _)[W.heap.size]? = _
    simp
  hb := by subst hbk; exact Nat.le_trans hB (Nat.le_of_lt (lt_of_block hr))
  hr := hB
  hrs := by have := lt_of_block hr; simp; omega
  flash := hf.alloc _
  flen := hl
  fbytes := hF
  ram := by
    intro j hj
    rw [World.cell?_alloc_past _ _ _ (lt_of_block hr)]
    simp [World.cell?, hr, ramZero_get j hj]
  free := by
    intro j
    rw [World.frozen?_alloc_past _ _ _ (lt_of_block hr)]
    simp [World.frozen?, hr]
  words := by intro i; constructor <;> omega
  ne1 := by subst hbk; exact Nat.ne_of_lt (lt_of_block hr)
  ne2 := hne

theorem heap_last (w : World) (o : Obj) : (w.alloc o).heap[w.heap.size]? = some o := by
  show (w.heap.push o)[w.heap.size]? = _
  simp

/-- What New leaves. -/
def NewPost (w : World) (F : List Int) (e : Ending) (w' : World) : Prop := ∃ b fv rg, e = .returned (.tuple #[.pointer (some ⟨b, 0, none⟩), .int .i64 0]) ∧ IsMem w' w.heap.size b fv rg F (fun _ => 0) ∧ Below w.heap.size w w'

theorem new_big (a : Option Addr) (n cap : Nat) (w : World) (hn : 65536 < n) (hn2 : n ≤ 70000) :
    Calls Try.prog 14 #[.slice a n cap] w fun e w' => e = .returned (.tuple #[.pointer none, .int .i64 82]) ∧ w' = w := by
  go_enter Try.func14, Try.ntmps14
  go_wp2
  go_ret2
  exact ⟨rfl, rfl⟩

theorem new_any (a : Option Addr) (n cap : Nat) (F : List Int) (w : World) (hF : ByteRow w a n F) (hn : n ≤ 65536) (hcap : a = none → n = 0 ∧ cap = 0) :
    Calls Try.prog 14 #[.slice a n cap] w (NewPost w F) := by
  obtain rfl : F.length = n := hF.1
  have hrun := run_ram
  have hb := hF.2.1
  have HF := Lib.hid hF
  have Hcap := Lib.hid hcap
  clear hF hcap
  go_enter Try.func14, Try.ntmps14
  go_wp2
  go_region_with (go_at_call 33; refine (clone_any _ _ _ F _ (by first | exact HF.out | exact HF.out.below (((Below.refl _ w).alloc (Nat.le_refl _) _).drew)) (by omega) Hcap.out).mono ?_; rintro e w' ⟨v, rfl, hown, hbel⟩; obtain ⟨x, c', rfl, -⟩ := flash_shape hown)
  all_goals (try go_wp2)
  · have hl : F.length ≤ 65536 := hn
    go_ret2
    refine ⟨_, _, _, rfl, IsMem.made (B := w.heap.size) (W := w'.alloc (.cells ramZero 5)) (by simp) (rg := w'.heap.size) (heap_last _ _) hbel.size (hown.alloc _) hl hb (fun e => ?_), ?_⟩
    · have := (hown.lt _ e).2
      omega
    · exact (((Below.refl w.heap.size w).drew.trans hbel).alloc hbel.size _).alloc (by have := hbel.size; simp at this ⊢; omega) _
  · have hl : F.length ≤ 65536 := hn
    have hsz : w.heap.size + 1 ≤ w'.heap.size := by have := hbel.size; simpa using this
    go_ret2
    refine ⟨_, _, _, rfl, IsMem.made (W := w') rfl (rg := w.heap.size) (by rw [hbel.block _ (by simp)]; exact heap_last _ _) (Nat.le_refl _) (ownsRow_base hown (by simp)) hl hb (fun e => ?_), ?_⟩
    · have := (hown.lt _ e).1
      simp at this
      omega
    · exact ((((Below.refl w.heap.size w).alloc (Nat.le_refl _) _).drew.trans (hbel.mono (by simp))).alloc (by omega) _)
end Go.Proofs.Ytmkencdkglbpbaa
