/-
  THE CONTRACTS of sum16.On and of the reference's On: both give Crc.on.
-/
import Derived.Test.YtgbjdejbldifcaaChecked
import Derived.Test.YtgbjdejbldifcaaCrc
import Derived.Test.YtgbjdejbldifcaaKit
set_option linter.unusedSimpArgs false
set_option linter.unusedVariables false
namespace Go.Proofs.Ytgbjdejbldifcaa
open Go.RowKit

theorem on1 (r : BitVec 16) (bit : Bool) (n : Int) (hn : n = if bit then 1 else 0) (B : Nat) (w : World) (h : w.heap[B]? = some (.cells #[.int .u16 r.toNat] 22 (0,0))) :
  Calls Try.prog 18 #[.int .u16 n, .pointer (some ⟨B,0,none⟩)] w fun e w' => e = .returned (.tuple #[]) ∧ w'.heap[B]? = some (.cells #[.int .u16 (Crc.step r bit).toNat] 22 (0,0)) ∧ Upd (· = B) w w' := by
  have hc := cell_of_one h
  have hf := free_of_one h
  have hr := r.isLt
  have H := Lib.hid (Crc.step_int r bit)
  have K := Lib.hid (one_setCell h (u := .int .u16 (Crc.step r bit).toNat))
  have U := Lib.hid ((Upd.refl (· = B) w).setCell (p := ⟨B, 0, none⟩) (fun _ => rfl) (.int .u16 (Crc.step r bit).toNat))
  subst hn
  have hb0 : (0 : Int) ≤ if bit = true then 1 else 0 := by split <;> omega
  have hb1 : (if bit = true then 1 else 0 : Int) ≤ 1 := by split <;> omega
  generalize hb : (if bit = true then (1 : Int) else 0) = m at *
  clear h hb
  go_enter Try.func18, Try.ntmps18
  go_wp2
  go_end0
  rw [H.out]
  exact ⟨rfl, K.out, U.out⟩

theorem bit_of (c : UInt8) (k : Int) (h0 : 0 ≤ k) (h1 : k ≤ 7) : bits .and .u16 ((c.toNat : Int) / 2 ^ k.toNat) 1 = if c.toNat.testBit k.toNat then 1 else 0 := by
  obtain ⟨n, rfl⟩ := Int.eq_ofNat_of_zero_le h0
  simp only [Int.toNat_natCast]
  have hc := c.toNat_lt
  have hp : 0 < 2 ^ n := Nat.pow_pos (by omega)
  have h2 : ((c.toNat : Int) / 2 ^ n) = ((c.toNat / 2 ^ n : Nat) : Int) := by simp
  have h3 : c.toNat / 2 ^ n ≤ c.toNat := Nat.div_le_self _ _
  rw [h2, show (1 : Int) = ((1 : Nat) : Int) from rfl, u16_and_nat _ _ (by omega) (by omega)]
  simp only [Nat.testBit_eq_decide_div_mod_eq, Nat.and_one_is_mod]
  rcases Nat.mod_two_eq_zero_or_one (c.toNat / 2 ^ n) with h | h <;> simp [h]

theorem bits_take (st : BitVec 16) (c : UInt8) (j : Int) (h0 : 0 ≤ j) (h1 : j ≤ 7) : Crc.fold st ((Crc.bitsOf c).take (7 - (j - 1)).toNat) = Crc.step (Crc.fold st ((Crc.bitsOf c).take (7 - j).toNat)) (c.toNat.testBit j.toNat) := by
  obtain ⟨n, rfl⟩ := Int.eq_ofNat_of_zero_le h0
  have : n = 0 ∨ n = 1 ∨ n = 2 ∨ n = 3 ∨ n = 4 ∨ n = 5 ∨ n = 6 ∨ n = 7 := by omega
  rcases this with rfl | rfl | rfl | rfl | rfl | rfl | rfl | rfl <;> simp [Crc.bitsOf, Crc.fold]

set_option maxHeartbeats 400000 in
theorem bits_any (s : BitVec 16) (l : List UInt8) (a : Option Addr) (cap : Nat) (B : Nat) (w : World) (hl : l.length ≤ maxLen) (hB : Bytes w a l) (hne : l ≠ [] → blk a ≠ some B)
    (h : w.heap[B]? = some (.cells #[.int .u16 s.toNat] 22 (0,0))) :
    Calls Try.prog 17 #[.slice a l.length cap, .func (.func 18) #[] #[.pointer (some ⟨B, 0, none⟩)]] w fun e w' =>
      e = .returned (.tuple #[]) ∧ w'.heap[B]? = some (.cells #[.int .u16 (Crc.on s l).toNat] 22 (0,0)) ∧ Upd (· = B) w w' := by
  unfold maxLen at hl
  go_enter Try.func17, Try.ntmps17
  go_wp2
  go_loopw [5, 6, 9] (fun _ _ i wr => ∃ k : Nat, k ≤ l.length ∧ i = .int .i64 k ∧ wr.heap[B]? = some (.cells #[.int .u16 (Crc.on s (l.take k)).toNat] 22 (0,0)) ∧ Upd (· = B) w wr) (fun _ _ i _ => l.length - (intOf i).toNat)
  case atStart => exact ⟨0, Nat.zero_le _, rfl, h, Upd.refl _ _⟩
  case round =>
    obtain ⟨k, hk, rfl, hb, hg⟩ := hrel
    by_cases hlt : k < l.length
    · rcases hB.upd hg (fun i hi _ e => hne (by rintro rfl; simp at hlt) (by rw [hi, e])) with rfl | ⟨b, off, rfl, hcells⟩
      · simp at hlt
      have hcell := hcells k hlt
      obtain ⟨c, hc⟩ : ∃ c, l[k] = c := ⟨_, rfl⟩
      rw [hc] at hcell
      have hcv := c.toNat_lt
      have Hc := Lib.hid hc
      clear hcells hc
      go_wp2
      obtain ⟨wo, hwo⟩ : ∃ wo : World, wo = wr := ⟨_, rfl⟩
      subst hwo
      obtain ⟨st, hst⟩ : ∃ st, Crc.on s (l.take k) = st := ⟨_, rfl⟩
      rw [hst] at hb
      go_loopw [6] (fun v wr => ∃ j : Int, -1 ≤ j ∧ j ≤ 7 ∧ v = .int .i64 j ∧ wr.heap[B]? = some (.cells #[.int .u16 (Crc.fold st ((Crc.bitsOf c).take (7 - j).toNat)).toNat] 22 (0,0)) ∧ Upd (· = B) w wr) (fun v _ => (intOf v + 1).toNat)
      case atStart => exact ⟨7, by omega, by omega, rfl, by simpa [Crc.fold] using hb, hg⟩
      case round =>
        obtain ⟨j, hj0, hj1, rfl, hb2, hg2⟩ := hrel
        by_cases hj : 0 ≤ j
        · have hbit := Lib.hid (bit_of c j hj hj1)
          go_wp2_with fail
          refine (on1 _ _ _ hbit.out B _ hb2).mono ?_
          rintro e w' ⟨rfl, hb3, hg3⟩
          clear hb2
          go_wp2
          go_round
          case rel => exact ⟨j - 1, by omega, by omega, by go_num, by rw [bits_take st c j hj hj1]; exact hb3, hg2.trans hg3 (fun _ _ h => h)⟩
          case measure => simp [intOf]; omega
        · go_wp2
          have hj' : j = -1 := by omega
          subst hj'
          go_roundw
          case rel => exact ⟨k + 1, by omega, by go_num, by rw [List.take_succ_eq_append_getElem hlt, Crc.on_snoc, hst, Hc.out]; exact hb2, hg2⟩
          case measure => simp [intOf]; omega
    · go_wp2
      have : k = l.length := by omega
      subst this
      go_end0
      rw [List.take_length] at hb
      exact ⟨rfl, hb, hg⟩


theorem on_any (s : BitVec 16) (l : List UInt8) (a : Option Addr) (cap : Nat) (w : World) (hl : l.length ≤ maxLen) (hB : Bytes w a l) :
    Calls Try.prog 9 #[.int .u16 s.toNat, .slice a l.length cap] w fun e w' => e = .returned (.int .u16 (Crc.on s l).toNat) ∧ Below w.heap.size w w' := by
  have hu : Upd (fun _ => False) w (w.alloc (.cells #[.int .u16 s.toNat] 22)) := (Upd.refl _ w).alloc _
  have hne : l ≠ [] → blk a ≠ some w.heap.size := fun h => by obtain ⟨k, hk, hlt⟩ := hB.lt h; rw [hk]; intro e; simp at e; omega
  have HC := bits_any s l a cap w.heap.size (w.alloc (.cells #[.int .u16 s.toNat] 22)) hl (hB.upd hu (fun _ _ _ h => h)) hne (heap_alloc_new w _)
  have HH := Lib.hid HC
  clear HC hne
  go_enter Try.func9, Try.ntmps9
  go_wp2_with fail
  refine HH.out.mono ?_
  rintro e w' ⟨rfl, hb, hg⟩
  have hc := cell_of_one hb
  have hg2 := hu.trans (T := (· = w.heap.size)) hg (fun i hi e => by omega)
  go_wp2
  go_ret
  exact ⟨rfl, hg2.toBelow (Nat.le_refl _) (fun _ _ h => h)⟩

theorem ref_bit (c : UInt8) (j : Nat) (hj : j < 8) : 1 ≤ ((128 / 2 ^ j : Nat) : Int) ∧ ((128 / 2 ^ j : Nat) : Int) ≤ 128 ∧ ((c.toNat : Int) / ((128 / 2 ^ j : Nat) : Int)) % 2 = (if c.toNat.testBit (7 - j) then 1 else 0) ∧ ((128 / 2 ^ j : Nat) : Int) / 2 = ((128 / 2 ^ (j + 1) : Nat) : Int) := by
  have : j = 0 ∨ j = 1 ∨ j = 2 ∨ j = 3 ∨ j = 4 ∨ j = 5 ∨ j = 6 ∨ j = 7 := by omega
  have key : ∀ n, ((c.toNat : Int) / ((2 ^ n : Nat) : Int)) % 2 = if c.toNat.testBit n then 1 else 0 := by
    intro n
    simp only [Nat.testBit_eq_decide_div_mod_eq]
    have h2 : ((c.toNat : Int) / ((2 ^ n : Nat) : Int)) % 2 = ((c.toNat / 2 ^ n % 2 : Nat) : Int) := by simp
    rw [h2]
    rcases Nat.mod_two_eq_zero_or_one (c.toNat / 2 ^ n) with h | h <;> simp [h]
  rcases this with rfl | rfl | rfl | rfl | rfl | rfl | rfl | rfl
  · exact ⟨by decide, by decide, key 7, by decide⟩
  · exact ⟨by decide, by decide, key 6, by decide⟩
  · exact ⟨by decide, by decide, key 5, by decide⟩
  · exact ⟨by decide, by decide, key 4, by decide⟩
  · exact ⟨by decide, by decide, key 3, by decide⟩
  · exact ⟨by decide, by decide, key 2, by decide⟩
  · exact ⟨by decide, by decide, key 1, by decide⟩
  · exact ⟨by decide, by decide, key 0, by decide⟩

theorem ref_take (st : BitVec 16) (c : UInt8) (j : Nat) (hj : j < 8) : Crc.fold st ((Crc.bitsOf c).take (j + 1)) = Crc.step (Crc.fold st ((Crc.bitsOf c).take j)) (c.toNat.testBit (7 - j)) := by
  have : j = 0 ∨ j = 1 ∨ j = 2 ∨ j = 3 ∨ j = 4 ∨ j = 5 ∨ j = 6 ∨ j = 7 := by omega
  rcases this with rfl | rfl | rfl | rfl | rfl | rfl | rfl | rfl <;> simp [Crc.bitsOf, Crc.fold]

theorem Crc.ref_step (r : BitVec 16) (b : Bool) :
    (if ((r.toNat : Int) / 32768 != (if b then 1 else 0 : Int)) = true then bits .xor .i64 ((r.toNat : Int) * 2 % 65536) 4129 else (r.toNat : Int) * 2 % 65536) = ((Crc.step r b).toNat : Int) := by
  have hlt := r.isLt
  have h1 : ((r.toNat : Int) / 32768) = if r.msb then 1 else 0 := by
    rw [BitVec.msb_eq_decide]
    by_cases h : 2 ^ (16 - 1) ≤ r.toNat
    · simp [h]; omega
    · simp [h]; omega
  have h2 : ((r.toNat : Int) * 2 % 65536) = ((r.toNat * 2 % 65536 : Nat) : Int) := by omega
  have h3 : bits .xor .i64 ((r.toNat * 2 % 65536 : Nat) : Int) 4129 = ((r.toNat * 2 % 65536 ^^^ 4129 : Nat) : Int) := by
    exact i64_xor_nat (r.toNat * 2 % 65536) 4129 (by omega) (by decide)
  rw [h1, h2, h3]
  unfold Crc.step
  cases r.msb <;> cases b <;> simp [BitVec.toNat_xor, BitVec.toNat_shiftLeft, Nat.shiftLeft_eq]

set_option maxHeartbeats 1000000 in
theorem refOn_any (s : BitVec 16) (l : List UInt8) (a : Option Addr) (cap : Nat) (w : World) (hl : l.length ≤ maxLen) (hB : Bytes w a l) :
    Calls Try.prog 10 #[.int .u16 s.toNat, .slice a l.length cap] w fun e w' => e = .returned (.int .u16 (Crc.on s l).toNat) ∧ w = w' := by
  have hs := s.isLt
  unfold maxLen at hl
  go_enter Try.func10, Try.ntmps10
  go_wp2_with fail
  go_loop [5, 6, 7, 8, 9] (fun r i _ _ _ => ∃ k : Nat, k ≤ l.length ∧ i = .int .i64 k ∧ r = .int .i64 (Crc.on s (l.take k)).toNat) (fun _ i _ _ _ => l.length - (intOf i).toNat)
  case atStart => exact ⟨0, Nat.zero_le _, rfl, rfl⟩
  case round =>
    obtain ⟨k, hk, rfl, rfl⟩ := hrel
    by_cases hlt : k < l.length
    · rcases hB with rfl | ⟨b, off, rfl, hcells⟩
      · simp at hlt
      have hcell := hcells k hlt
      obtain ⟨c, hc⟩ : ∃ c, l[k] = c := ⟨_, rfl⟩
      rw [hc] at hcell
      have hcv := c.toNat_lt
      have Hc := Lib.hid hc
      obtain ⟨st, hst⟩ : ∃ st, Crc.on s (l.take k) = st := ⟨_, rfl⟩
      rw [hst]
      have Hst := Lib.hid hst
      clear hcells hc hst
      go_wp2
      go_loop [5, 7, 8, 9] (fun r p i _ => ∃ j : Nat, j ≤ 8 ∧ i = .int .i64 j ∧ p = .int .i64 ((128 / 2 ^ j : Nat) : Int) ∧ r = .int .i64 (Crc.fold st ((Crc.bitsOf c).take j)).toNat) (fun _ _ i _ => 8 - (intOf i).toNat)
      case atStart => exact ⟨0, by omega, rfl, rfl, rfl⟩
      case round =>
        obtain ⟨j, hj8, rfl, rfl, rfl⟩ := hrel
        by_cases hj : j < 8
        · obtain ⟨R, hR⟩ : ∃ R, Crc.fold st ((Crc.bitsOf c).take j) = R := ⟨_, rfl⟩
          obtain ⟨p, hp⟩ : ∃ p : Int, ((128 / 2 ^ j : Nat) : Int) = p := ⟨_, rfl⟩
          have hp1 : 1 ≤ p ∧ p ≤ 128 ∧ ((c.toNat : Int) / p) % 2 = (if c.toNat.testBit (7 - j) then 1 else 0) ∧ p / 2 = ((128 / 2 ^ (j + 1) : Nat) : Int) := by rw [← hp]; exact ref_bit c j hj
          obtain ⟨hp1, hp2, hpb, hpn⟩ := hp1
          have hq0 : 0 ≤ (c.toNat : Int) / p := Int.ediv_nonneg (by omega) (by omega)
          have hq1 : (c.toNat : Int) / p ≤ 255 := Int.le_trans (Int.ediv_le_self _ (by omega)) (by omega)
          have hRl := R.isLt
          have hstep := Crc.ref_step R (c.toNat.testBit (7 - j))
          have htk : Crc.fold st ((Crc.bitsOf c).take (j + 1)) = Crc.step R (c.toNat.testBit (7 - j)) := by rw [← hR]; exact ref_take st c j hj
          rw [hR, hp]
          rw [← hpb] at hstep
          have Hn := Lib.hid hpn
          have Ht := Lib.hid htk
          clear hp hR hpn hpb htk
          by_cases hx : ((R.toNat : Int) / 32768 != (c.toNat : Int) / p % 2) = true
          · rw [if_pos hx] at hstep
            have Hs := Lib.hid hstep
            clear hstep
            go_wp2
            go_round
            case rel => exact ⟨j + 1, by omega, by go_num, by rw [Hn.out], by rw [Hs.out, Ht.out]⟩
            case measure => simp [intOf]; omega
          · have hx' : ((R.toNat : Int) / 32768 != (c.toNat : Int) / p % 2) = false := by simpa using hx
            rw [if_neg hx] at hstep
            have Hs := Lib.hid hstep
            clear hstep hx
            go_wp2
            go_round
            case rel => exact ⟨j + 1, by omega, by go_num, by rw [Hn.out], by rw [Hs.out, Ht.out]⟩
            case measure => simp [intOf]; omega
        · go_wp2
          obtain rfl : j = 8 := by omega
          go_round
          case rel => exact ⟨k + 1, by omega, by go_num, by rw [List.take_succ_eq_append_getElem hlt, Crc.on_snoc, Hst.out, Hc.out]; rfl⟩
          case measure => simp [intOf]; omega
    · go_wp2
      have : k = l.length := by omega
      subst this
      go_ret
      rw [List.take_length] 
      exact ⟨rfl, rfl⟩
end Go.Proofs.Ytgbjdejbldifcaa
