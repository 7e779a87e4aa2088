/- MemHalves: the walk. -/
import Derived.Test.YtpfeddfbmnimlaaAnchor06
set_option maxRecDepth 100000
namespace Go.Proofs.Ytpfeddfbmnimlaa
open Go.RowKit

theorem byteRow_len {w : World} {a : Option Addr} {n : Nat} {F : List Int} (h : ByteRow w a n F) : F.length = n := h.1

theorem or_halves (x y : Int) (b0 : 0 ≤ x) (b0' : x < 65536) (b1 : 0 ≤ y) (b1' : y < 65536) : bits BinOp.or IntKind.u32 (y * 65536) x = x + 65536 * y := by
  obtain ⟨n0, rfl⟩ := Int.eq_ofNat_of_zero_le b0
  obtain ⟨n1, rfl⟩ := Int.eq_ofNat_of_zero_le b1
  have := u32_or_nat (n1 * 65536) n0 (by omega) (by omega)
  rw [nat_join 16 (n1 * 65536) n0 (by omega) (by omega)] at this
  rw [show (n1 : Int) * 65536 = ((n1 * 65536 : Nat) : Int) from by omega, this]
  omega

theorem memHalves_walk (a : Option Addr) (n cap : Nat) (F : List Int) (ad : Int) (w : World) (hF : ByteRow w a n F) (hcap : a = none → n = 0 ∧ cap = 0) (h0 : 0 ≤ ad) (h1 : ad < 4294967296) :
    Calls Try.prog 3 #[.slice a n cap, .int .u32 ad] w fun e w' => e = .returned (.bool true) ∧ Below w.heap.size w w' := by
  obtain rfl : F.length = n := hF.1
  have hby := hF.2.1
  by_cases hbig : 300 < F.length
  · clear hF hcap hby
    go_enter Try.func3, Try.ntmps3
    go_wp2_with fail
    refine (anchor06 w).mono ?_
    rintro e w1 ⟨rfl, hb⟩
    go_wp2
    go_ret
    exact ⟨rfl, hb⟩
  · have HF := Lib.hid hF
    have Hcap := Lib.hid hcap
    have Hby := Lib.hid hby
    clear hF hcap hby
    go_enter Try.func3, Try.ntmps3
    go_wp2_with fail
    refine (anchor06 w).mono ?_
    rintro e w1 ⟨rfl, hb⟩
    go_wp2_with fail
    refine (new_any a F.length cap F w1 (HF.out.below hb) (by omega) Hcap.out).mono ?_
    rintro e w2 ⟨b, fv, rg, rfl, hm, hb1⟩
    have hb2 := hb.trans (hb1.mono hb.size)
    go_wp2_with fail
    refine (load_any hm ad h0 h1).mono ?_
    rintro e w3 ⟨rfl, rfl⟩
    by_cases hr : 536870912 ≤ ad ∧ ad ≤ 536936444
    · obtain ⟨hr1, hr2⟩ := hr
      go_wp2_with fail
      refine (half_any hm ad h0 h1).mono ?_
      rintro e w4 ⟨rfl, hd⟩
      have hb3 := below_drawn hb2 hd
      by_cases hal : ad % 2 = 1
      · rw [show halfV F ad = (0, 60) from by simp [halfV, hal]]
        have t1 : (ad % 2 == 1) = true := by simpa using hal
        clear hal
        go_wp2
        go_ret
        exact ⟨rfl, hb3⟩
      · rw [show halfV F ad = (0, 61) from by simp only [halfV]; rw [if_neg (by omega), if_neg (by omega)]]
        have t1 : (ad % 2 == 1) = false := by simpa using hal
        have t2 : (ad % 2 == 0) = true := by simp; omega
        clear hal
        go_wp2
        go_ret
        exact ⟨rfl, hb3⟩
    · by_cases hal : ad % 4 ≠ 0
      · rw [show loadV F (fun _ => 0) ad = (0, 60) from by simp [loadV, hal]]
        clear hal
        have t1 : decide (536870912 ≤ ad) = false ∨ (decide (536870912 ≤ ad) = true ∧ decide (ad ≤ 536936444) = false) := by
          by_cases h2 : 536870912 ≤ ad
          · right; exact ⟨by simpa using h2, by simp; omega⟩
          · left; simpa using h2
        clear hr
        rcases t1 with t1 | ⟨t1, t2⟩
        all_goals
          go_wp2
          go_ret
          exact ⟨rfl, hb2⟩
      · by_cases hf : 134217728 ≤ ad ∧ ad - 134217728 + 4 ≤ F.length
        · obtain ⟨hf1, hf2⟩ := hf
          obtain ⟨i, hi⟩ : ∃ i : Nat, (ad - 134217728).toNat = i := ⟨_, rfl⟩
          have e1 : loadV F (fun _ => 0) ad = (wordAt F i, 0) := by simp only [loadV]; rw [if_neg hal, if_neg hr, if_pos ⟨hf1, hf2⟩, hi]
          have e2 : halfV F ad = (halfAt F i, 0) := by simp only [halfV]; rw [if_neg (by omega), if_pos (by omega), hi]
          have e3 : halfV F (ad + 2) = (halfAt F (i + 2), 0) := by simp only [halfV]; rw [if_neg (by omega), if_pos (by omega), show (ad + 2 - 134217728).toNat = i + 2 from by omega]
          have E2 := Lib.hid e2
          have E3 := Lib.hid e3
          rw [e1]
          have t1 : ¬ 536870912 ≤ ad := by omega
          have t2 : ad < 200000000 := by omega
          clear e1 e2 e3 hi hr hal
          go_wp2_with fail
          refine (half_any hm ad h0 h1).mono ?_
          rintro e w4 ⟨rfl, hd⟩
          have hm4 := hm.drawn hd
          have hb3 := below_drawn hb2 hd
          rw [E2.out]
          go_wp2_with fail
          refine (half_any hm4 (ad + 2) (by omega) (by omega)).mono ?_
          rintro e w5 ⟨rfl, hd5⟩
          have hb5 := below_drawn hb3 hd5
          rw [E3.out]
          obtain ⟨a0, b0⟩ := getD_bytes Hby.out i
          obtain ⟨a1, b1⟩ := getD_bytes Hby.out (i + 1)
          obtain ⟨a2, b2⟩ := getD_bytes Hby.out (i + 2)
          obtain ⟨a3, b3⟩ := getD_bytes Hby.out (i + 3)
          have k0 : 0 ≤ halfAt F i ∧ halfAt F i < 65536 := by unfold halfAt; omega
          have k1 : 0 ≤ halfAt F (i + 2) ∧ halfAt F (i + 2) < 65536 := by unfold halfAt; show 0 ≤ F.getD (i + 2) 0 + 256 * F.getD (i + 3) 0 ∧ F.getD (i + 2) 0 + 256 * F.getD (i + 3) 0 < 65536; omega
          have k2 : wordAt F i = halfAt F i + 65536 * halfAt F (i + 2) := by unfold wordAt halfAt; show _ = _ + 65536 * (F.getD (i + 2) 0 + 256 * F.getD (i + 3) 0); omega
          clear a0 b0 a1 b1 a2 b2 a3 b3
          rw [k2]
          clear k2
          generalize halfAt F i = x at *
          generalize halfAt F (i + 2) = y at *
          have ho := or_halves x y k0.1 k0.2 k1.1 k1.2
          obtain ⟨k01, k02⟩ := k0
          obtain ⟨k11, k12⟩ := k1
          have ht : (x + 65536 * y == bits BinOp.or IntKind.u32 (y * 65536) x) = true := by rw [ho]; simp
          clear ho
          go_wp2
          go_ret
          exact ⟨rfl, hb5⟩
        · rw [show loadV F (fun _ => 0) ad = (0, 61) from by simp only [loadV]; rw [if_neg hal, if_neg hr, if_neg hf]]
          have t1 : decide (536870912 ≤ ad) = false ∨ (decide (536870912 ≤ ad) = true ∧ decide (ad ≤ 536936444) = false) := by
            by_cases h2 : 536870912 ≤ ad
            · right; exact ⟨by simpa using h2, by simp; omega⟩
            · left; simpa using h2
          clear hr hf
          rcases t1 with t1 | ⟨t1, t2⟩
          all_goals
            go_wp2
            go_ret
            exact ⟨rfl, hb2⟩
end Go.Proofs.Ytpfeddfbmnimlaa
