/-
  THE WALK of Sum16Whole.
-/
import Derived.Test.YtgbjdejbldifcaaMore
import Derived.Test.YtgbjdejbldifcaaCrc3
set_option linter.unusedSimpArgs false
set_option linter.unusedVariables false
namespace Go.Proofs.Ytgbjdejbldifcaa
open Go.RowKit

theorem big_walk (l m : List UInt8) (a b : Option Addr) (cap capb : Nat) (w : World) (hl : l.length ≤ maxLen) (hm : m.length ≤ maxLen) (hbig : (16384 : Int) < (l.length : Int) ∨ (16384 : Int) < (m.length : Int)) :
    Calls Try.prog 4 #[.slice a l.length cap, .slice b m.length capb] w fun e w' => e = .returned (.bool true) ∧ Below w.heap.size w w' := by
  unfold maxLen at hl hm
  by_cases h1 : (16384 : Int) < (l.length : Int)
  · go_enter Try.func4, Try.ntmps4
    go_wp2_with fail
    refine (known_any _).mono ?_
    rintro e w' ⟨rfl, hb⟩
    go_wp2_with fail
    go_ret
    exact ⟨rfl, hb⟩
  · have h2 : (16384 : Int) < (m.length : Int) := by omega
    clear hbig
    go_enter Try.func4, Try.ntmps4
    go_wp2_with fail
    refine (known_any _).mono ?_
    rintro e w' ⟨rfl, hb⟩
    go_wp2_with fail
    go_ret
    exact ⟨rfl, hb⟩

set_option maxHeartbeats 1000000 in
theorem whole_walk (l m : List UInt8) (a b : Option Addr) (cap capb : Nat) (w : World) (hl : l.length ≤ maxLen) (hm : m.length ≤ maxLen) (hB : Bytes w a l) (hn : a = none → cap = 0) (hBb : Bytes w b m) (hnb : b = none → capb = 0) :
    Calls Try.prog 4 #[.slice a l.length cap, .slice b m.length capb] w fun e w' => e = .returned (.bool true) ∧ Below w.heap.size w w' := by
  by_cases hbig : (16384 : Int) < (l.length : Int) ∨ (16384 : Int) < (m.length : Int)
  · exact big_walk l m a b cap capb w hl hm hbig
  · have hl2 : (l.length : Int) ≤ 16384 := by omega
    have hm2 : (m.length : Int) ≤ 16384 := by omega
    have HB := Lib.hid hB
    have HN := Lib.hid hn
    have HBb := Lib.hid hBb
    have HNb := Lib.hid hnb
    clear hB hn hBb hnb hbig hl hm
    go_enter Try.func4, Try.ntmps4
    go_wp2_with fail
    refine (join_any l m a b cap capb w (by omega) (by omega) HB.out HN.out HBb.out HNb.out).mono ?_
    rintro e w1 ⟨v1, rfl, hown1, hb1⟩
    obtain ⟨c, capc, rfl, hBc, hnc, hgc⟩ := own_slice hown1
    have hlen : (l ++ m).length = l.length + m.length := List.length_append
    generalize ht : l ++ m = t at *
    have ht2 : t.length ≤ 32768 := by omega
    have Ht := Lib.hid ht
    have C1 := Lib.hid hBc
    have NC := Lib.hid hnc
    have B1 := Lib.hid (HB.out.below hb1)
    have Bb1 := Lib.hid (HBb.out.below hb1)
    clear hown1 hBc hnc hgc ht hlen
    go_wp2_with fail
    refine (sum_any t c capc w1 (by unfold maxLen; omega) C1.out).mono ?_
    rintro e w2 ⟨rfl, hb2⟩
    have b2 := hb1.trans (hb2.mono hb1.size)
    have C2 := Lib.hid (C1.out.below hb2)
    have B2 := Lib.hid (B1.out.below hb2)
    have Bb2 := Lib.hid (Bb1.out.below hb2)
    clear hb2 hb1 B1 Bb1 C1
    have hs := (Crc.on 0#16 t).isLt
    generalize hs' : Crc.on 0#16 t = s at *
    have Hs := Lib.hid hs'
    clear hs'
    have hi1 : (UInt8.ofNat (s.toNat / 256)).toNat = s.toNat / 256 := by rw [UInt8.toNat_ofNat']; exact Nat.mod_eq_of_lt (by omega)
    have lo1 : (UInt8.ofNat (s.toNat % 256)).toNat = s.toNat % 256 := by rw [UInt8.toNat_ofNat']; exact Nat.mod_eq_of_lt (by omega)
    have H0 := Lib.hid (Crc.on_whole t (UInt8.ofNat (s.toNat / 256)) (UInt8.ofNat (s.toNat % 256)) (by rw [Hs.out]; exact hi1) (by rw [Hs.out]; exact lo1))
    have HC := Lib.hid (show (#[Value.int IntKind.u8 ((s.toNat : Int) / 256), Value.int IntKind.u8 ((s.toNat : Int) % 256)] : Array Value) = (bv [UInt8.ofNat (s.toNat / 256), UInt8.ofNat (s.toNat % 256)]).toArray from by simp only [bv, List.map_cons, List.map_nil, hi1, lo1]; simp)
    clear hi1 lo1
    go_wp2_with fail
    refine (join_any t [UInt8.ofNat (s.toNat / 256), UInt8.ofNat (s.toNat % 256)] c _ capc 2 _ (by omega) (by simp) (C2.out.below ((Below.refl _ _).alloc (Nat.le_refl _) _)) NC.out (bytes_new w2 _ _ 5 (0, 0) HC.out) (fun h => by cases h)).mono ?_
    rintro e w3 ⟨v3, rfl, hown3, hb3⟩
    obtain ⟨d, capd, rfl, hBd, hnd, hgd⟩ := own_slice hown3
    have b3 := (b2.alloc b2.size _).trans (hb3.mono (by have := b2.size; simp; omega))
    have hb23 := ((Below.refl w2.heap.size w2).alloc (Nat.le_refl _) _).trans (hb3.mono (by simp))
    have B3 := Lib.hid (B2.out.below hb23)
    have Bb3 := Lib.hid (Bb2.out.below hb23)
    have D3 := Lib.hid hBd
    have ND := Lib.hid hnd
    have hdl : (t ++ [UInt8.ofNat (s.toNat / 256), UInt8.ofNat (s.toNat % 256)]).length ≤ 40000 := by simp; omega
    generalize hd : t ++ [UInt8.ofNat (s.toNat / 256), UInt8.ofNat (s.toNat % 256)] = u at *
    clear hd hown3 hBd hnd hgd hb23 hb3 B2 Bb2 C2 b2 HC
    go_wp2_with fail
    refine (sum_any l a cap w3 (by unfold maxLen; omega) B3.out).mono ?_
    rintro e w4 ⟨rfl, hb4⟩
    have b4 := b3.trans (hb4.mono b3.size)
    have D4 := Lib.hid (D3.out.below hb4)
    have Bb4 := Lib.hid (Bb3.out.below hb4)
    clear b3 hb4 B3 Bb3 D3
    go_wp2_with fail
    refine (on_any _ m b capb w4 (by unfold maxLen; omega) Bb4.out).mono ?_
    rintro e w5 ⟨rfl, hb5⟩
    have b5 := b4.trans (hb5.mono b4.size)
    have D5 := Lib.hid (D4.out.below hb5)
    have e1 : Crc.on (Crc.on 0#16 l) m = s := by rw [← Crc.on_append, Ht.out, Hs.out]
    rw [e1]
    clear b4 hb5 D4 Bb4 e1
    go_wp2_with fail
    refine (sum_any u d capd w5 (by unfold maxLen; omega) D5.out).mono ?_
    rintro e w6 ⟨rfl, hb6⟩
    have b6 := b5.trans (hb6.mono b5.size)
    rw [show Crc.on 0#16 u = 0#16 from H0.out]
    clear b5 hb6 D5
    go_wp2_with fail
    refine (known_any _).mono ?_
    rintro e w7 ⟨rfl, hb7⟩
    go_wp2_with fail
    go_ret
    exact ⟨rfl, b6.trans (hb7.mono b6.size)⟩

theorem whole_frame (a0 : Option Addr) (len0 cap0 : Nat) (z0 : List Int) (a1 : Option Addr) (len1 cap1 : Nat) (z1 : List Int) (w : World) (w0 : IsRow .u8 w a0 len0 cap0 z0) (w1 : IsRow .u8 w a1 len1 cap1 z1) :
    Calls Try.prog 4 #[.slice a0 len0 cap0, .slice a1 len1 cap1] w fun e w' => e = .returned (.bool true) ∧ Below w.heap.size w w' := by
  obtain ⟨l, rfl, hB, hn, hl⟩ := w0.bytes
  obtain ⟨m, rfl, hBb, hnb, hm⟩ := w1.bytes
  exact whole_walk l m a0 a1 cap0 cap1 w hl hm hB hn hBb hnb
end Go.Proofs.Ytgbjdejbldifcaa
