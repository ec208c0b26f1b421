/-
  THE WALK of Sum16Turned.
-/
import Derived.Test.YtgbjdejbldifcaaMore
import Derived.Test.YtgbjdejbldifcaaCrc3
import Derived.Test.YtgbjdejbldifcaaCount
set_option linter.unusedSimpArgs false
set_option linter.unusedVariables false
namespace Go.Proofs.Ytgbjdejbldifcaa
open Go.RowKit

theorem tbig_walk (l : List UInt8) (a : Option Addr) (cap : Nat) (at0 bu : Int) (w : World) (hl : l.length ≤ maxLen) (hbig : (16384 : Int) < (l.length : Int) ∨ l.length = 0) :
    Calls Try.prog 5 #[.slice a l.length cap, .int .i64 at0, .int .u16 bu] w fun e w' => e = .returned (.bool true) ∧ Below w.heap.size w w' := by
  unfold maxLen at hl
  by_cases h1 : (16384 : Int) < (l.length : Int)
  · clear hbig
    go_enter Try.func5, Try.ntmps5
    go_wp2_with fail
    refine (known_any _).mono ?_
    rintro e w' ⟨rfl, hb⟩
    go_wp2_with fail
    go_ret
    exact ⟨rfl, hb⟩
  · have h3 : l.length = 0 := by omega
    have h2 : ((l.length : Int) == 0) = true := by simp [h3]
    clear hbig h3
    go_enter Try.func5, Try.ntmps5
    go_wp2_with fail
    refine (known_any _).mono ?_
    rintro e w' ⟨rfl, hb⟩
    go_wp2_with fail
    go_ret
    exact ⟨rfl, hb⟩

theorem bit16 (bu : BitVec 16) (m : Nat) : bits .and .u16 ((bu.toNat : Int) / 2 ^ m) 1 = if bu.toNat.testBit m then 1 else 0 := by
  have hc := bu.isLt
  have h2 : ((bu.toNat : Int) / 2 ^ m) = ((bu.toNat / 2 ^ m : Nat) : Int) := by simp
  have h3 : bu.toNat / 2 ^ m ≤ bu.toNat := Nat.div_le_self _ _
  rw [h2, show (1 : Int) = ((1 : Nat) : Int) from rfl, u16_and_nat _ _ (by omega) (by omega)]
  simp only [Nat.testBit_eq_decide_div_mod_eq, Nat.and_one_is_mod]
  rcases Nat.mod_two_eq_zero_or_one (bu.toNat / 2 ^ m) with h | h <;> simp [h]

/-- Has one of the first m turns been made? -/
def anyT (n k : Nat) (bu : BitVec 16) : Nat → Bool
  | 0 => false
  | m + 1 => anyT n k bu m || (decide (k + m < n) && bu.toNat.testBit m)

theorem anyT_iff (n k : Nat) (bu : BitVec 16) (m : Nat) : anyT n k bu m = true ↔ ∃ j, j < m ∧ k + j < n ∧ bu.toNat.testBit j = true := by
  induction m with
  | zero => simp [anyT]
  | succ m ih =>
    simp only [anyT, Bool.or_eq_true, Bool.and_eq_true, decide_eq_true_eq, ih]
    constructor
    · rintro (⟨j, hj, h⟩ | h)
      · exact ⟨j, by omega, h⟩
      · exact ⟨m, by omega, h⟩
    · rintro ⟨j, hj, h⟩
      by_cases e : j = m
      · subst e; exact .inr h
      · exact .inl ⟨j, by omega, h⟩

theorem turn_no (l : List UInt8) (k : Nat) (f : Nat → Bool) (m : Nat) (h : ¬ f m = true) : Crc.turn l k f (m + 1) = Crc.turn l k f m := by
  simp [Crc.turn, h]
theorem turn_yes (l : List UInt8) (k : Nat) (f : Nat → Bool) (m : Nat) (h : k + m < 8 * l.length) (hf : f m = true) : Crc.turn l k f (m + 1) = Crc.flip (Crc.turn l k f m) (k + m) := by
  simp [Crc.turn, h, hf]

theorem turn_end (l : List UInt8) (k : Nat) (f : Nat → Bool) (m : Nat) (hm : m ≤ 16) (h : ¬ k + m < 8 * l.length ∨ m = 16) : Crc.turn l k f m = Crc.turn l k f 16 := by
  rcases h with h | rfl
  · obtain ⟨d, hd⟩ : ∃ d, 16 = m + d := ⟨16 - m, by omega⟩
    rw [hd]
    clear hd hm
    induction d with
    | zero => rfl
    | succ d ih =>
      rw [← Nat.add_assoc, ih]
      simp only [Crc.turn]
      rw [if_neg (by omega)]
  · rfl

theorem dec_end (n k : Nat) (bu : BitVec 16) (m : Nat) (hm : m ≤ 16) (h : ¬ k + m < n ∨ m = 16) : anyT n k bu m = anyT n k bu 16 := by
  rcases h with h | rfl
  · rw [Bool.eq_iff_iff, anyT_iff, anyT_iff]
    constructor
    · rintro ⟨j, hj, hp, hq⟩; exact ⟨j, by omega, hp, hq⟩
    · rintro ⟨j, hj, hp, hq⟩; exact ⟨j, by omega, hp, hq⟩
  · rfl

theorem turned_eq (l : List UInt8) (k : Nat) (bu : BitVec 16) (hk : k ≤ 8 * l.length) (d : Bool) (hd : anyT (8 * l.length) k bu 16 = d) :
    (((Crc.on 0#16 (Crc.turn l k (fun i => bu.toNat.testBit i) 16)).toNat : Int) != ((Crc.on 0#16 l).toNat : Int)) = d := by
  have := Crc.on_turn l k (fun i => bu.toNat.testBit i) hk
  subst hd
  rw [Bool.eq_iff_iff]
  simp only [bne_iff_ne, ne_eq, anyT_iff]
  rw [show (((Crc.on 0#16 (Crc.turn l k (fun i => bu.toNat.testBit i) 16)).toNat : Int) = ((Crc.on 0#16 l).toNat : Int)) ↔ Crc.on 0#16 (Crc.turn l k (fun i => bu.toNat.testBit i) 16) = Crc.on 0#16 l from by rw [BitVec.toNat_eq]; omega]
  rw [this]
  constructor
  · intro h
    apply Classical.byContradiction
    intro hn
    exact h (fun i hi hc => hn ⟨i, hi, hc⟩)
  · rintro ⟨j, hj, hc⟩ h
    exact h j hj hc

theorem xor_u8 (c : UInt8) (r : Nat) (hr : r < 8) : bits .xor .u8 (c.toNat : Int) (128 / 2 ^ r) = (((c ^^^ ((128 : UInt8) >>> UInt8.ofNat r)).toNat : Nat) : Int) := by
  have hc := c.toNat_lt
  have h2 : ((128 : Int) / 2 ^ r) = ((128 / 2 ^ r : Nat) : Int) := by simp
  have h3 : 128 / 2 ^ r ≤ 128 := Nat.div_le_self _ _
  rw [h2, u8_xor_nat _ _ (by omega) (by omega), UInt8.toNat_xor]
  have : r = 0 ∨ r = 1 ∨ r = 2 ∨ r = 3 ∨ r = 4 ∨ r = 5 ∨ r = 6 ∨ r = 7 := by omega
  rcases this with rfl | rfl | rfl | rfl | rfl | rfl | rfl | rfl <;> rfl

theorem bv_flip (l : List UInt8) (j : Nat) (c : UInt8) (hj : j / 8 < l.length) (hc : l[j / 8] = c) : bv (Crc.flip l j) = (bv l).set (j / 8) (.int .u8 (bits .xor .u8 (c.toNat : Int) (128 / 2 ^ (j % 8)))) := by
  rw [xor_u8 c (j % 8) (by omega)]
  apply List.ext_getElem?
  intro i
  simp only [bv, Crc.flip, List.getElem?_map, List.getElem?_modify, List.getElem?_set, List.length_map]
  by_cases h : j / 8 = i
  · subst h
    simp [hj, hc]
  · simp [h]

set_option maxHeartbeats 1000000 in
theorem turned_walk (l : List UInt8) (a : Option Addr) (cap : Nat) (at0 : Int) (bu : BitVec 16) (w : World) (hl : l.length ≤ maxLen) (hB : Bytes w a l) (hn : a = none → cap = 0) :
    Calls Try.prog 5 #[.slice a l.length cap, .int .i64 at0, .int .u16 bu.toNat] w fun e w' => e = .returned (.bool true) ∧ Below w.heap.size w w' := by
  by_cases hbig : (16384 : Int) < (l.length : Int) ∨ l.length = 0
  · exact tbig_walk l a cap at0 _ w hl hbig
  · have hl2 : (l.length : Int) ≤ 16384 := by omega
    have hl1 : (1 : Int) ≤ (l.length : Int) := by omega
    have h2 : ((l.length : Int) == 0) = false := by rw [beq_eq_false_iff_ne]; omega
    have HB := Lib.hid hB
    have HN := Lib.hid hn
    clear hB hn hbig hl
    go_enter Try.func5, Try.ntmps5
    go_wp2_with fail
    refine (join_any l [] a none cap 0 w (by omega) (by simp) HB.out HN.out (.inl rfl) (fun _ => rfl)).mono ?_
    rintro e w1 ⟨v1, rfl, hown1, hb1⟩
    simp only [List.append_nil, List.length_nil, Nat.add_zero] at hown1
    obtain ⟨g, capc, rfl, hg0, hg1⟩ := own_shape hown1 (by omega)
    have B1 := Lib.hid (HB.out.below hb1)
    have O1 := Lib.hid hown1
    have hcap := own_cap hown1
    unfold maxLen at hcap
    clear hown1
    go_wp2_with fail
    refine (count_any at0 (8 * (l.length : Int)) w1 (by omega) (by omega)).mono ?_
    rintro e w2 ⟨k, hk, rfl, rfl⟩
    have hk2 : k < 8 * l.length := by omega
    go_wp2_with fail
    have htl := Crc.turn_length l k (fun i => bu.toNat.testBit i)
    go_loopw [10, 11] (fun t i wr => ∃ m : Nat, m ≤ 16 ∧ i = .int .i64 m ∧ t = .bool (anyT (8 * l.length) k bu m) ∧
        wr.ownsRow w.heap.size 5 1 (.slice (some ⟨g, 0, none⟩) l.length capc) l.length (bv (Crc.turn l k (fun i => bu.toNat.testBit i) m)) ∧ Below w.heap.size w wr) (fun _ i _ => 16 - (intOf i).toNat)
    case atStart => exact ⟨0, by omega, rfl, rfl, O1.out, hb1⟩
    case round =>
      obtain ⟨m, hm, rfl, rfl, hown, hbr⟩ := hrel
      have O2 := Lib.hid hown
      have htm := htl m
      clear hown htl
      by_cases hm16 : m < 16
      · by_cases hkm : k + m < 8 * l.length
        · have hj : (k + m) / 8 < (Crc.turn l k (fun i => bu.toNat.testBit i) m).length := by omega
          have hcell : wr.cell? ⟨g, (k + m) / 8, none⟩ = some (.int .u8 (((Crc.turn l k (fun i => bu.toNat.testBit i) m)[(k + m) / 8]).toNat : Int)) := by
            rw [O2.out.cellAt _ (by omega), bv_get _ _ hj]
          have hfr := O2.out.frozenAt ((k + m) / 8)
          generalize hc : (Crc.turn l k (fun i => bu.toNat.testBit i) m)[(k + m) / 8] = c at *
          have Hc := Lib.hid hc; have Hj := Lib.hid hj
          have hcv := c.toNat_lt
          clear hc
          cases hb : bu.toNat.testBit m with
          | false =>
            have ht : (bits .and .u16 ((bu.toNat : Int) / 2 ^ m) 1 == 1) = false := by rw [bit16 bu m]; simp [hb]
            have Hb := Lib.hid hb
            clear hb hcell hfr
            go_wp2_with fail
            go_roundw
            case rel => exact ⟨m + 1, by omega, by go_num, by simp [anyT, Hb.out], by rw [turn_no _ _ _ _ (fun h => by simp [Hb.out] at h)]; exact O2.out, hbr⟩
            case measure => simp [intOf]; omega
          | true =>
            have ht : (bits .and .u16 ((bu.toNat : Int) / 2 ^ m) 1 == 1) = true := by rw [bit16 bu m]; simp [hb]
            have Hb := Lib.hid hb
            clear hb
            go_wp2_with fail
            go_roundw
            case rel => exact ⟨m + 1, by omega, by go_num, by simp [anyT, Hb.out, hkm], by rw [turn_yes _ _ _ _ hkm Hb.out, bv_flip _ _ _ Hj.out Hc.out]; exact (O2.out.stored _ _).1, hbr.setCell (p := ⟨g, (k + m) / 8, none⟩) hg0 _⟩
            case measure => simp [intOf]; omega
        · have F1 := turn_end l k (fun i => bu.toNat.testBit i) m hm (.inl hkm)
          have F2 := dec_end (8 * l.length) k bu m hm (.inl hkm)
          rw [F1] at O2
          rw [F2]
          generalize hd : anyT (8 * l.length) k bu 16 = d at *
          have heq := Lib.hid (turned_eq l k bu (by omega) d hd)
          have hdl := Crc.turn_length l k (fun i => bu.toNat.testBit i) 16
          generalize htn : Crc.turn l k (fun i => bu.toNat.testBit i) 16 = T at *
          have R0 := Lib.hid (HB.out.below hbr)
          have R1 := Lib.hid (bytes_of_own O2.out T (List.prefix_refl _))
          clear F1 F2 hd htn
          go_wp2_with fail
          have HS := sum_any T (some ⟨g, 0, none⟩) capc wr (by unfold maxLen; omega) R1.out
          rw [hdl] at HS
          refine HS.mono ?_
          clear HS
          rintro e w3 ⟨rfl, hb3⟩
          have b3 := hbr.trans (hb3.mono hbr.size)
          have R3 := Lib.hid (R0.out.below hb3)
          clear hb3 R0 R1 O2 hbr
          go_wp2_with fail
          refine (sum_any l a cap w3 (by unfold maxLen; omega) R3.out).mono ?_
          rintro e w4 ⟨rfl, hb4⟩
          have b4 := b3.trans (hb4.mono b3.size)
          have hq := heq.out
          clear hb4 R3 b3
          go_wp2_with fail
          refine (known_any _).mono ?_
          rintro e w5 ⟨rfl, hb5⟩
          go_wp2_with fail
          go_ret
          exact ⟨rfl, b4.trans (hb5.mono b4.size)⟩
      · have F1 := turn_end l k (fun i => bu.toNat.testBit i) m hm (.inr (by omega))
        have F2 := dec_end (8 * l.length) k bu m hm (.inr (by omega))
        rw [F1] at O2
        rw [F2]
        generalize hd : anyT (8 * l.length) k bu 16 = d at *
        have heq := Lib.hid (turned_eq l k bu (by omega) d hd)
        have hdl := Crc.turn_length l k (fun i => bu.toNat.testBit i) 16
        generalize htn : Crc.turn l k (fun i => bu.toNat.testBit i) 16 = T at *
        have R0 := Lib.hid (HB.out.below hbr)
        have R1 := Lib.hid (bytes_of_own O2.out T (List.prefix_refl _))
        clear F1 F2 hd htn
        go_wp2_with fail
        have HS := sum_any T (some ⟨g, 0, none⟩) capc wr (by unfold maxLen; omega) R1.out
        rw [hdl] at HS
        refine HS.mono ?_
        clear HS
        rintro e w3 ⟨rfl, hb3⟩
        have b3 := hbr.trans (hb3.mono hbr.size)
        have R3 := Lib.hid (R0.out.below hb3)
        clear hb3 R0 R1 O2 hbr
        go_wp2_with fail
        refine (sum_any l a cap w3 (by unfold maxLen; omega) R3.out).mono ?_
        rintro e w4 ⟨rfl, hb4⟩
        have b4 := b3.trans (hb4.mono b3.size)
        have hq := heq.out
        clear hb4 R3 b3
        go_wp2_with fail
        refine (known_any _).mono ?_
        rintro e w5 ⟨rfl, hb5⟩
        go_wp2_with fail
        go_ret
        exact ⟨rfl, b4.trans (hb5.mono b4.size)⟩

theorem turned_frame (a0 : Option Addr) (len0 cap0 : Nat) (z0 : List Int) (a1 a2 : Int) (w : World) (w0 : IsRow .u8 w a0 len0 cap0 z0) (w1 : (Lit.int .i64 a1).wf = true) (w2 : (Lit.int .u16 a2).wf = true) :
    Calls Try.prog 5 #[.slice a0 len0 cap0, .int .i64 a1, .int .u16 a2] w fun e w' => e = .returned (.bool true) ∧ Below w.heap.size w w' := by
  obtain ⟨l, rfl, hB, hn, hl⟩ := w0.bytes
  obtain ⟨s, rfl⟩ := u16_of w2
  exact turned_walk l a0 cap0 a1 s w hl hB hn
end Go.Proofs.Ytgbjdejbldifcaa
