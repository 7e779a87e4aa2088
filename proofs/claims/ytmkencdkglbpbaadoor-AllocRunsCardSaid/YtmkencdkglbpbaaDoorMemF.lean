/- mem: Copy: a memory of its own with the same words (the slice of a copy's RAM may have more room). -/
import Derived.Test.YtmkencdkglbpbaaDoorVopX
import Derived.Deep.RegionHeld3
set_option maxRecDepth 100000
set_option linter.unusedVariables false
namespace Go.Proofs.YtmkencdkglbpbaaDoor
open Go.RowKit

theorem IsMem.built {W : World} {B b : Nat} (hbk : b = W.heap.size) {v : Value} {rg C : Nat} {F : List Int} {m : Nat → Int} (hC : 65536 ≤ C) (hg : rg < W.heap.size) (hB : B ≤ rg) (hf : W.ownsRow B 5 1 v F.length (F.map (Value.int .u8))) (hl : F.length ≤ 65536)
    (hF : ∀ x ∈ F, 0 ≤ x ∧ x < 256) (hne : v.ownBlock ≠ some rg) (hram : ∀ j, j < 65536 → W.cell? ⟨rg, j, none⟩ = some (.int .u8 (m (j / 4) / 256 ^ (j % 4) % 256))) (hfree : ∀ j, W.frozen? ⟨rg, j, none⟩ = false) (hw : ∀ i, 0 ≤ m i ∧ m i < 4294967296) :
    IsMem (W.alloc (.cells #[v, .slice (some ⟨rg, 0, none⟩) 65536 C] 116)) B b v rg F m where
  blk := by
    subst hbk
    refine ⟨C, hC, ?_⟩
    show (W.heap.push _)[W.heap.size]? = _
    simp
  hb := by subst hbk; exact Nat.le_trans hB (Nat.le_of_lt hg)
  hr := hB
  hrs := by simp; omega
  flash := hf.alloc _
  flen := hl
  fbytes := hF
  ram := by
    intro j hj
    rw [World.cell?_alloc_past _ _ _ hg]
    exact hram j hj
  free := by
    intro j
    rw [World.frozen?_alloc_past _ _ _ hg]
    exact hfree j
  words := hw
  ne1 := by subst hbk; exact Nat.ne_of_lt hg
  ne2 := hne

/-- The bytes of RAM, as a list. -/
theorem ram_bytes {w : World} {B b : Nat} {fv : Value} {rg : Nat} {F : List Int} {m : Nat → Int} (h : IsMem w B b fv rg F m) : ∃ G : List Int, ByteRow w (some ⟨rg, 0, none⟩) 65536 G ∧
    ∀ j, j < 65536 → G[j]? = some (m (j / 4) / 256 ^ (j % 4) % 256) := by
  obtain ⟨G, hG⟩ : ∃ G, G = (List.range 65536).map fun j => m (j / 4) / 256 ^ (j % 4) % 256 := ⟨_, rfl⟩
  have hl : G.length = 65536 := by rw [hG]; simp
  have hg : ∀ j, j < 65536 → G[j]? = some (m (j / 4) / 256 ^ (j % 4) % 256) := by
    intro j hj
    rw [hG, List.getElem?_map, List.getElem?_range hj]; rfl
  clear hG
  refine ⟨G, ⟨hl, fun x hx => ?_, .inr ⟨rg, 0, rfl, h.hrs, fun i hi => ?_⟩⟩, hg⟩
  · obtain ⟨j, hj, rfl⟩ := List.getElem_of_mem hx
    have := hg j (by omega)
    rw [List.getElem?_eq_getElem hj] at this
    have he := Option.some.inj this
    rw [he]
    omega
  · rw [Nat.zero_add, h.ram i hi, List.getD_eq_getElem?_getD, hg i hi]; rfl

theorem own_free {w : World} {B : Nat} {e : TypeId} {v : Value} {n : Nat} {xs : List Value} (h : w.ownsRow B e 1 v n xs) {g : Nat} (hv : v.ownBlock = some g) (j : Nat) : w.frozen? ⟨g, j, none⟩ = false := by
  rcases h.2 with ⟨rfl, _⟩ | ⟨g2, cap, cur, rfl, _, hh, _⟩
  · cases hv
  · have : g2 = g := by simpa [Value.ownBlock] using hv
    subst this
    simp [World.frozen?, hh]

set_option maxHeartbeats 2000000 in
theorem copy_any {w : World} {B b : Nat} {fv : Value} {rg : Nat} {F : List Int} {m : Nat → Int} (h : IsMem w B b fv rg F m) :
    Calls Tryd.prog 32 #[.pointer (some ⟨b, 0, none⟩)] w fun e w' => ∃ b' fv' rg', e = .returned (.pointer (some ⟨b', 0, none⟩)) ∧ IsMem w' w.heap.size b' fv' rg' F m ∧ Below w.heap.size w w' := by
  obtain ⟨CC, hCC, hblk⟩ := h.blk
  obtain ⟨hc0, hc1⟩ := two_cells hblk
  have hbl := lt_of_block hblk
  obtain ⟨x, c, rfl, hcx, hcn, hF⟩ := flash_shape h.flash
  have hfl := h.flen
  have hrow : ByteRow w x F.length F := ⟨rfl, h.fbytes, hF.imp id fun ⟨g, e, hg, hc⟩ => ⟨g, 0, e, hg, fun i hi => by rw [Nat.zero_add]; exact hc i hi⟩⟩
  have hcap : x = none → F.length = 0 ∧ c = 0 := fun e => by have := hcn e; omega
  obtain ⟨G, hGr, hGw⟩ := ram_bytes h
  obtain ⟨R, hR⟩ : ∃ R : Nat, R = 65536 := ⟨_, rfl⟩
  rw [← hR] at hc1 hGr
  have hR7 : R ≤ 70000 := by omega
  have hRC : R ≤ CC := by omega
  have Hrow := Lib.hid hrow
  have Hcap := Lib.hid hcap
  have HG := Lib.hid hGr
  have HGw := Lib.hid hGw
  have HR := Lib.hid hR
  have HH := Lib.hid h
  have hB : Below w.heap.size w w := Below.refl _ _
  clear hrow hcap hF hcn h hGr hGw hR hblk
  go_enter Tryd.func32, Tryd.ntmps32
  go_wp2_with fail
  have hD : Below w.heap.size w w.drew := (Below.refl _ w).drew
  go_region_held3 (fun w' => w'.cell? ⟨b, 0, none⟩ = some (.slice x F.length c) ∧ w'.cell? ⟨b, 1, none⟩ = some (.slice (some ⟨rg, 0, none⟩) R CC))
    (first
      | go_keep
      | exact ⟨(((hD.trans hbf).trans (hbg.mono (hD.trans hbf).size)).cell (p := ⟨b, 0, none⟩) hbl).trans hc0, (((hD.trans hbf).trans (hbg.mono (hD.trans hbf).size)).cell (p := ⟨b, 1, none⟩) hbl).trans hc1⟩
      | exact ⟨(((hD.trans hbg).trans (hbf.mono (hD.trans hbg).size)).cell (p := ⟨b, 0, none⟩) hbl).trans hc0, (((hD.trans hbg).trans (hbf.mono (hD.trans hbg).size)).cell (p := ⟨b, 1, none⟩) hbl).trans hc1⟩
      | exact ⟨((hD.trans hbf).cell (p := ⟨b, 0, none⟩) hbl).trans hc0, ((hD.trans hbf).cell (p := ⟨b, 1, none⟩) hbl).trans hc1⟩
      | exact ⟨((hD.trans hbg).cell (p := ⟨b, 0, none⟩) hbl).trans hc0, ((hD.trans hbg).cell (p := ⟨b, 1, none⟩) hbl).trans hc1⟩)
    (first
      | (go_at_call 54; refine (clone_any x F.length c F _ (by first | exact Hrow.out.below hD | exact Hrow.out.below (hD.trans hbg)) (by omega) Hcap.out).mono ?_; rintro e wf ⟨vf, rfl, hownf, hbf⟩; obtain ⟨xf, cf, rfl, -, -, -⟩ := flash_shape hownf; have Hownf := Lib.hid hownf; clear hownf)
      | (go_at_call 54; refine (clone_any (some ⟨rg, 0, none⟩) R CC G _ (by first | exact HG.out.below hD | exact HG.out.below (hD.trans hbf)) hR7 (fun e => by cases e)).mono ?_; rintro e wg ⟨vg, rfl, howng, hbg⟩; obtain ⟨xg, cg, rfl, hcg1, -, hcg⟩ := flash_shape howng; have Hcg := Lib.hid hcg; clear hcg; have Howng := Lib.hid howng; clear howng))
  have hsf := (hD.trans hbf).size
  have HBg := Lib.hid ((hD.trans hbf).trans (hbg.mono hsf))
  have hRn : R ≠ 0 := by have := HR.out; omega
  obtain ⟨g, rfl, hg, hgc⟩ := Hcg.out.resolve_left hRn
  have hgb := (Howng.out.lt g rfl).1
  have hbg2 := hbg
  clear hbf hbg
  go_wp2
  go_ret
  have hBz := HBg.out.alloc HBg.out.size (.cells #[.slice xf F.length cf, .slice (some ⟨g, 0, none⟩) R cg] 116)
  have hR2 := HR.out
  subst hR2
  refine ⟨wg.heap.size, _, g, rfl, IsMem.built rfl hcg1 hg ?_ ?_ HH.out.flen HH.out.fbytes ?_ ?_ (own_free Howng.out rfl) HH.out.words, hBz⟩
  · have := hD.size; omega
  · exact ownsRow_below (ownsRow_base Hownf.out (by first | exact hD.size | exact HBg.out.size)) hbg2
  · intro e
    have := (Hownf.out.lt g e).2
    omega
  · intro j hj
    rw [hgc j hj, List.getD_eq_getElem?_getD, HGw.out j hj]; rfl
end Go.Proofs.YtmkencdkglbpbaaDoor
