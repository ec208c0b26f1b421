/-
  THE WALK of Sum16Sums.
-/
import Derived.Test.YtgbjdejbldifcaaMore
set_option linter.unusedSimpArgs false
set_option linter.unusedVariables false
namespace Go.Proofs.Ytgbjdejbldifcaa
open Go.RowKit

set_option maxHeartbeats 1000000 in
theorem sums_walk (s : BitVec 16) (l : List UInt8) (a : Option Addr) (cap : Nat) (w : World) (hl : l.length ≤ maxLen) (hB : Bytes w a l) (hn : a = none → cap = 0) :
    Calls Try.prog 3 #[.int .u16 s.toNat, .slice a l.length cap] w fun e w' => e = .returned (.bool true) ∧ Below w.heap.size w w' := by
  have hl2 := hl
  unfold maxLen at hl2
  by_cases hbig : (16384 : Int) < (l.length : Int)
  · go_enter Try.func3, Try.ntmps3
    go_wp2_with fail
    refine (known_any _).mono ?_
    rintro e w' ⟨rfl, hb⟩
    go_wp2_with fail
    go_ret
    exact ⟨rfl, hb⟩
  · have HB := Lib.hid hB
    have HN := Lib.hid hn
    clear hB hn
    go_enter Try.func3, Try.ntmps3
    go_wp2_with fail
    refine (lent_any l a cap w (by omega) HB.out HN.out).mono ?_
    rintro e w1 ⟨g, cap1, rfl, hg, hown, hb1⟩
    have hs1 := hb1.size
    have HO := Lib.hid hown
    have B1 := Lib.hid (HB.out.below hb1)
    have O1 := Lib.hid (bytes_of_own hown l ⟨[77], rfl⟩)
    clear hown
    go_wp2_with fail
    refine (on_any s l _ cap1 w1 hl O1.out).mono ?_
    rintro e w2 ⟨rfl, hb2⟩
    have hs2 := hb2.size
    have b2 := hb1.trans (hb2.mono hs1)
    have B2 := Lib.hid (B1.out.below hb2)
    have O2 := Lib.hid (O1.out.below hb2)
    have HO2 := Lib.hid (own_below HO.out hb2)
    clear hb2 B1 O1 HO
    go_wp2_with fail
    refine (refOn_any s l _ cap w2 hl B2.out).mono ?_
    rintro e w3 ⟨rfl, rfl⟩
    go_wp2_with fail
    refine (sum_any l _ cap1 w2 hl O2.out).mono ?_
    rintro e w3 ⟨rfl, hb3⟩
    have hs3 := hb3.size
    have b3 := b2.trans (hb3.mono b2.size)
    have B3 := Lib.hid (B2.out.below hb3)
    have O3 := Lib.hid (O2.out.below hb3)
    have HO3 := Lib.hid (own_below HO2.out hb3)
    clear hb3 B2 O2 HO2 b2
    go_wp2_with fail
    refine (refSum_any l _ cap w3 hl B3.out).mono ?_
    rintro e w4 ⟨rfl, rfl⟩
    go_wp2_with fail
    refine (right_any l _ cap1 s w3 hl O3.out).mono ?_
    rintro e w4 ⟨rfl, hb4⟩
    have b4 := b3.trans (hb4.mono b3.size)
    have B4 := Lib.hid (B3.out.below hb4)
    have HO4 := Lib.hid (own_below HO3.out hb4)
    clear hb4 B3 O3 HO3 b3
    go_wp2_with fail
    refine (refSum_any l _ cap w4 hl B4.out).mono ?_
    rintro e w5 ⟨rfl, rfl⟩
    go_wp2_with fail
    refine (kept_any l a cap g cap1 _ w4 (by omega) B4.out HN.out HO4.out).mono ?_
    rintro e w5 ⟨rfl, rfl⟩
    go_wp2_with fail
    refine (known_any _).mono ?_
    rintro e w6 ⟨rfl, hb6⟩
    go_wp2_with fail
    go_ret
    exact ⟨rfl, b4.trans (hb6.mono b4.size)⟩

theorem sums_frame (a0 : Int) (a1 : Option Addr) (len1 cap1 : Nat) (z1 : List Int) (w : World) (w0 : (Lit.int .u16 a0).wf = true) (w1 : IsRow .u8 w a1 len1 cap1 z1) :
    Calls Try.prog 3 #[.int .u16 a0, .slice a1 len1 cap1] w fun e w' => e = .returned (.bool true) ∧ Below w.heap.size w w' := by
  obtain ⟨s, rfl⟩ := u16_of w0
  obtain ⟨l, rfl, hB, hn, hl⟩ := w1.bytes
  exact sums_walk s l a1 cap1 w hl hB hn
end Go.Proofs.Ytgbjdejbldifcaa
