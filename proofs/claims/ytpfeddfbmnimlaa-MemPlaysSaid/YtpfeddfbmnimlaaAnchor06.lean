/- The anchor of the laws of chapter 06. -/
import Derived.Test.YtpfeddfbmnimlaaMemE
set_option maxRecDepth 100000
namespace Go.Proofs.Ytpfeddfbmnimlaa
open Go.RowKit

theorem anchor06 (w : World) : Calls Try.prog 8 #[] w fun e w' => e = .returned (.bool true) ∧ Below w.heap.size w w' := by
  have hrow : ByteRow (w.alloc (.cells #[.int .u8 1, .int .u8 2] 5)) (some ⟨w.heap.size, 0, none⟩) 2 [1, 2] := by
    refine ⟨rfl, by simp, .inr ⟨w.heap.size, 0, rfl, by simp, fun i hi => ?_⟩⟩
    rw [World.cell?_alloc_at _ _ _ _ rfl]
    match i, hi with
    | 0, _ => rfl
    | 1, _ => rfl
  have Hrow := Lib.hid hrow
  clear hrow
  go_enter Try.func8, Try.ntmps8
  go_wp2_with fail
  refine (new_any (some ⟨w.heap.size, 0, none⟩) 2 2 [1, 2] _ Hrow.out (by omega) (fun e => by cases e)).mono ?_
  rintro e w1 ⟨b, fv, rg, rfl, hm, hb1⟩
  go_wp2_with fail
  refine (load_any hm 536870912 (by omega) (by omega)).mono ?_
  rintro e w2 ⟨rfl, rfl⟩
  rw [show loadV [1, 2] (fun _ => 0) 536870912 = (0, 0) from by decide]
  go_wp2_with fail
  refine (half_any hm 134217728 (by omega) (by omega)).mono ?_
  rintro e w2 ⟨rfl, hd⟩
  rw [show halfV [1, 2] 134217728 = (513, 0) from by decide]
  have hm2 := hm.drawn hd
  have hb2 := below_drawn hb1 hd
  go_wp2_with fail
  refine (store_any hm2 134217728 (by omega) (by omega) 1 (by omega) (by omega)).mono ?_
  rintro e w3 ⟨rfl, hst⟩
  rw [show storeE 134217728 = 62 from by decide]
  have hb3 := below_stored hb2 hst hb2.size
  go_wp2
  go_ret
  exact ⟨rfl, ((Below.refl _ _).alloc (Nat.le_refl _) _).trans (hb3.mono (by simp))⟩
end Go.Proofs.Ytpfeddfbmnimlaa
