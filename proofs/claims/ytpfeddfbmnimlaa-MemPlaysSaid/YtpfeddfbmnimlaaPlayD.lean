/- mem: Copy: a copy's RAM holds the same words. -/
import Derived.Test.YtpfeddfbmnimlaaPlayC
import Derived.Deep.RegionHeld3
set_option maxRecDepth 100000
set_option linter.unusedVariables false
namespace Go.Proofs.Ytpfeddfbmnimlaa
open Go.RowKit

/-- A copy: its RAM's words. -/
def CopyAt (W : World) (b rg : Nat) (m : Nat → Int) : Prop :=
  b < W.heap.size ∧ rg < W.heap.size ∧ (∃ C, 65536 ≤ C ∧ W.cell? ⟨b, 1, none⟩ = some (.slice (some ⟨rg, 0, none⟩) 65536 C)) ∧
  (∀ i, i < 16384 → W.cell? ⟨rg, 4 * i, none⟩ = some (.int .u8 (m i % 256)) ∧ W.cell? ⟨rg, 4 * i + 1, none⟩ = some (.int .u8 (m i / 256 % 256)) ∧
    W.cell? ⟨rg, 4 * i + 2, none⟩ = some (.int .u8 (m i / 65536 % 256)) ∧ W.cell? ⟨rg, 4 * i + 3, none⟩ = some (.int .u8 (m i / 16777216 % 256)))

/-- The bytes of RAM, as a list. -/
theorem ram_bytes {w : World} {B b : Nat} {fv : Value} {rg : Nat} {F : List Int} {m : Nat → Int} (h : IsMem w B b fv rg F m) : ∃ G : List Int, ByteRow w (some ⟨rg, 0, none⟩) 65536 G ∧
    ∀ i, i < 16384 → G[4 * i]? = some (m i % 256) ∧ G[4 * i + 1]? = some (m i / 256 % 256) ∧ G[4 * i + 2]? = some (m i / 65536 % 256) ∧ G[4 * i + 3]? = some (m i / 16777216 % 256) := by
  obtain ⟨G, hG⟩ : ∃ G, G = (List.range 65536).map fun j => m (j / 4) / 256 ^ (j % 4) % 256 := ⟨_, rfl⟩
  have hl : G.length = 65536 := by rw [hG]; simp
  have hg : ∀ j, j < 65536 → G[j]? = some (m (j / 4) / 256 ^ (j % 4) % 256) := by
    intro j hj
    rw [hG, List.getElem?_map, List.getElem?_range hj]; rfl
  clear hG
  refine ⟨G, ⟨hl, fun x hx => ?_, .inr ⟨rg, 0, rfl, h.hrs, fun i hi => ?_⟩⟩, fun i hi => ⟨?_, ?_, ?_, ?_⟩⟩
  · obtain ⟨j, hj, rfl⟩ := List.getElem_of_mem hx
    have := hg j (by omega)
    rw [List.getElem?_eq_getElem hj] at this
    have he := Option.some.inj this
    rw [he]
    omega
  · rw [Nat.zero_add, h.ram i hi, List.getD_eq_getElem?_getD, hg i hi]; rfl
  · rw [hg _ (by omega), show 4 * i / 4 = i from by omega, show 4 * i % 4 = 0 from by omega]; simp
  · rw [hg _ (by omega), show (4 * i + 1) / 4 = i from by omega, show (4 * i + 1) % 4 = 1 from by omega]; simp
  · rw [hg _ (by omega), show (4 * i + 2) / 4 = i from by omega, show (4 * i + 2) % 4 = 2 from by omega]; simp
  · rw [hg _ (by omega), show (4 * i + 3) / 4 = i from by omega, show (4 * i + 3) % 4 = 3 from by omega]; simp

set_option maxHeartbeats 2000000 in
theorem copy_any {w : World} {B b : Nat} {fv : Value} {rg : Nat} {F : List Int} {m : Nat → Int} (h : IsMem w B b fv rg F m) :
    Calls Try.prog 15 #[.pointer (some ⟨b, 0, none⟩)] w fun e w' => ∃ b' rg', e = .returned (.pointer (some ⟨b', 0, none⟩)) ∧ CopyAt w' b' rg' m ∧ w.heap.size ≤ b' ∧ w.heap.size ≤ rg' ∧ Below w.heap.size w w' := by
  obtain ⟨hc0, hc1⟩ := two_cells h.blk
  have hbl := lt_of_block h.blk
  obtain ⟨x, c, rfl, hcx, hcn, hF⟩ := flash_shape h.flash
  have hfl := h.flen
  have hrow : ByteRow w x F.length F := ⟨rfl, h.fbytes, hF.imp id fun ⟨g, e, hg, hc⟩ => ⟨g, 0, e, hg, fun i hi => by rw [Nat.zero_add]; exact hc i hi⟩⟩
  have hcap : x = none → F.length = 0 ∧ c = 0 := fun e => by have := hcn e; omega
  obtain ⟨G, hGr, hGw⟩ := ram_bytes h
  obtain ⟨R, hR⟩ : ∃ R : Nat, R = 65536 := ⟨_, rfl⟩
  rw [← hR] at hc1 hGr
  have hR7 : R ≤ 70000 := by omega
  have Hrow := Lib.hid hrow
  have Hcap := Lib.hid hcap
  have HG := Lib.hid hGr
  have HGw := Lib.hid hGw
  have HR := Lib.hid hR
  have hB : Below w.heap.size w w := Below.refl _ _
  clear hrow hcap hF hcn h hGr hGw hR
  go_enter Try.func15, Try.ntmps15
  go_wp2_with fail
  have hD : Below w.heap.size w w.drew := (Below.refl _ w).drew
  go_region_held3 (fun w' => w'.cell? ⟨b, 0, none⟩ = some (.slice x F.length c) ∧ w'.cell? ⟨b, 1, none⟩ = some (.slice (some ⟨rg, 0, none⟩) R R))
    (first
      | go_keep
      | exact ⟨(((hD.trans hbf).trans (hbg.mono (hD.trans hbf).size)).cell (p := ⟨b, 0, none⟩) hbl).trans hc0, (((hD.trans hbf).trans (hbg.mono (hD.trans hbf).size)).cell (p := ⟨b, 1, none⟩) hbl).trans hc1⟩
      | exact ⟨(((hD.trans hbg).trans (hbf.mono (hD.trans hbg).size)).cell (p := ⟨b, 0, none⟩) hbl).trans hc0, (((hD.trans hbg).trans (hbf.mono (hD.trans hbg).size)).cell (p := ⟨b, 1, none⟩) hbl).trans hc1⟩
      | exact ⟨((hD.trans hbf).cell (p := ⟨b, 0, none⟩) hbl).trans hc0, ((hD.trans hbf).cell (p := ⟨b, 1, none⟩) hbl).trans hc1⟩
      | exact ⟨((hD.trans hbg).cell (p := ⟨b, 0, none⟩) hbl).trans hc0, ((hD.trans hbg).cell (p := ⟨b, 1, none⟩) hbl).trans hc1⟩)
    (first
      | (go_at_call 19; refine (clone_any x F.length c F _ (by first | exact Hrow.out.below hD | exact Hrow.out.below (hD.trans hbg)) (by omega) Hcap.out).mono ?_; rintro e wf ⟨vf, rfl, hownf, hbf⟩; obtain ⟨xf, cf, rfl, -, -, -⟩ := flash_shape hownf; have Hownf := Lib.hid hownf; clear hownf)
      | (go_at_call 19; refine (clone_any (some ⟨rg, 0, none⟩) R R G _ (by first | exact HG.out.below hD | exact HG.out.below (hD.trans hbf)) hR7 (fun e => by cases e)).mono ?_; rintro e wg ⟨vg, rfl, howng, hbg⟩; obtain ⟨xg, cg, rfl, hcg1, -, hcg⟩ := flash_shape howng; have Hcg := Lib.hid hcg; clear hcg; have Howng := Lib.hid howng; clear howng))
  have hsf := (hD.trans hbf).size
  have HBg := Lib.hid ((hD.trans hbf).trans (hbg.mono hsf))
  have hRn : R ≠ 0 := by have := HR.out; omega
  obtain ⟨g, rfl, hg, hgc⟩ := Hcg.out.resolve_left hRn
  have hgb := (Howng.out.lt g rfl).1
  clear hbf hbg
  go_wp2
  go_ret
  have hBz := HBg.out.alloc HBg.out.size (.cells #[.slice xf F.length cf, .slice (some ⟨g, 0, none⟩) R cg] 58)
  have e1 : (wg.alloc (.cells #[.slice xf F.length cf, .slice (some ⟨g, 0, none⟩) R cg] 58)).cell? ⟨wg.heap.size, 1, none⟩ = some (.slice (some ⟨g, 0, none⟩) R cg) := World.cell?_alloc_at _ _ _ _ rfl
  have hold : ∀ j v, j < R → G[j]? = some v → (wg.alloc (.cells #[.slice xf F.length cf, .slice (some ⟨g, 0, none⟩) R cg] 58)).cell? ⟨g, j, none⟩ = some (.int .u8 v) := by
    intro j v hj hv
    rw [World.cell?_alloc_past _ _ _ hg, hgc j hj, List.getD_eq_getElem?_getD, hv]; rfl
  have hR2 := HR.out
  subst hR2
  refine ⟨wg.heap.size, g, rfl, ⟨by simp, by simp; omega, ⟨cg, hcg1, e1⟩, fun i hi => ?_⟩, HBg.out.size, by omega, hBz⟩
  obtain ⟨g0, g1, g2, g3⟩ := HGw.out i hi
  exact ⟨hold _ _ (by omega) g0, hold _ _ (by omega) g1, hold _ _ (by omega) g2, hold _ _ (by omega) g3⟩

theorem CopyAt.ramAt {w : World} {b rg : Nat} {m : Nat → Int} (h : CopyAt w b rg m) (hm : ∀ i, 0 ≤ m i ∧ m i < 4294967296) {Bn : Nat} {W : World} (hW : Below w.heap.size w W) {n₀ : Nat} (hn : w.heap.size ≤ n₀) (hc : W.cell? ⟨Bn, 0, none⟩ = some (.pointer (some ⟨b, 0, none⟩))) : RamAt n₀ W Bn b rg m := by
  obtain ⟨h1, h2, ⟨C, hC, h3⟩, h4⟩ := h
  refine ⟨by omega, by omega, hc, ⟨C, hC, (hW.cell (p := ⟨b, 1, none⟩) h1).trans h3⟩, fun i hi => ?_, hm⟩
  obtain ⟨c0, c1, c2, c3⟩ := h4 i hi
  exact ⟨(hW.cell (p := ⟨rg, 4 * i, none⟩) h2).trans c0, (hW.cell (p := ⟨rg, 4 * i + 1, none⟩) h2).trans c1, (hW.cell (p := ⟨rg, 4 * i + 2, none⟩) h2).trans c2, (hW.cell (p := ⟨rg, 4 * i + 3, none⟩) h2).trans c3⟩
end Go.Proofs.Ytpfeddfbmnimlaa
