/-
  CONTRACTS of heart's New, Period, Watch and the document's.
-/
import Derived.Test.YtpnnmcicpjebmaaBeatsLaw
set_option linter.unusedSimpArgs false
set_option linter.unusedVariables false
namespace Go.Proofs.Ytpnnmcicpjebmaa
open Go.RowKit
attribute [local go_sem] Oper.semAt_some

theorem hnew_ok (n : Int) (w : World) (h : 1 ≤ n ∧ n ≤ 127) : Calls Try.prog 12 #[.int .i64 n] w fun e w' => e = .returned (.tuple #[.pointer (some ⟨w.heap.size, 0, none⟩), .int .i64 0]) ∧ w.alloc (.cells #[.int .i64 n, .int .i64 0, .int .i64 0, .slice none 0 0] 80) = w' := by
  have q0 : decide (n < 1) = false := by rw [decide_eq_false_iff_not]; omega
  have q1 : decide (127 < n) = false := by rw [decide_eq_false_iff_not]; omega
  clear h
  go_enter Try.func12, Try.ntmps12
  go_wp2_with fail
  go_ret2
  exact ⟨rfl, rfl⟩
theorem hnew_no (n : Int) (w : World) (h : ¬ (1 ≤ n ∧ n ≤ 127)) : Calls Try.prog 12 #[.int .i64 n] w fun e w' => e = .returned (.tuple #[.pointer none, .int .i64 1]) ∧ w = w' := by
  by_cases c : n < 1
  · clear h
    go_enter Try.func12, Try.ntmps12
    go_wp2
    all_goals (go_ret2; exact ⟨rfl, rfl⟩)
  · have q0 : decide (n < 1) = false := by rw [decide_eq_false_iff_not]; omega
    have q1 : decide (127 < n) = true := by rw [decide_eq_true_iff]; omega
    clear h c
    go_enter Try.func12, Try.ntmps12
    go_wp2_with fail
    go_ret2
    exact ⟨rfl, rfl⟩

theorem there_ok (b : Nat) (n : Int) (w : World) (hc : w.cell? ⟨b, 0, none⟩ = some (.int .i64 n)) (hn : n ≠ 0) : Calls Try.prog 46 #[.pointer (some ⟨b, 0, none⟩)] w fun e w' => e = .returned (.bool true) ∧ w = w' := by
  have h1 : (n != 0) = true := by rw [bne_iff_ne]; exact hn
  clear hn
  go_enter Try.func46, Try.ntmps46
  go_wp2_with fail
  go_ret
  exact ⟨rfl, rfl⟩
theorem there_nil (w : World) : Calls Try.prog 46 #[.pointer none] w fun e w' => e = .returned (.bool false) ∧ w = w' := by
  go_enter Try.func46, Try.ntmps46
  go_wp2_with fail
  go_ret
  exact ⟨rfl, rfl⟩

/-- The heart in block b. -/
def Hrt (w : World) (b : Nat) (n ev le : Int) (ps : Value) : Prop := w.heap[b]? = some (.cells #[.int .i64 n, .int .i64 ev, .int .i64 le, ps] 80 (0, 0))
theorem Hrt.cells {w : World} {b : Nat} {n ev le : Int} {ps : Value} (h : Hrt w b n ev le ps) :
    w.cell? ⟨b, 0, none⟩ = some (.int .i64 n) ∧ w.cell? ⟨b, 1, none⟩ = some (.int .i64 ev) ∧ w.cell? ⟨b, 2, none⟩ = some (.int .i64 le) ∧ w.cell? ⟨b, 3, none⟩ = some ps := cells4 h

theorem period_ok (b : Nat) (n ev le : Int) (ps : Value) (t : Int) (w : World) (h : Hrt w b n ev le ps) (hn : n ≠ 0) (ht : 0 ≤ t ∧ t ≤ 65535) :
    Calls Try.prog 18 #[.pointer (some ⟨b, 0, none⟩), .int .i64 t] w fun e w' => e = .returned (.int .i64 0) ∧ Hrt w' b n t t ps ∧ Upd (· = b) w w' := by
  obtain ⟨c0, c1, c2, c3⟩ := h.cells
  have f1 := free_of h 1
  have f2 := free_of h 2
  have HH := Lib.hid (hset (hset h 1 (.int .i64 t)) 2 (.int .i64 t))
  have HT := Lib.hid (there_ok b n w c0 hn)
  have q0 : decide (t < 0) = false := by rw [decide_eq_false_iff_not]; omega
  have q1 : decide (65535 < t) = false := by rw [decide_eq_false_iff_not]; omega
  clear h ht
  go_enter Try.func18, Try.ntmps18
  go_wp2_with fail
  refine HT.out.mono ?_
  rintro e w1 ⟨rfl, rfl⟩
  go_wp2_with fail
  go_ret
  exact ⟨rfl, HH.out, ((Upd.refl (· = b) w).setCell (p := ⟨b, 1, none⟩) (fun _ => rfl) _).setCell (p := ⟨b, 2, none⟩) (fun _ => rfl) _⟩
theorem period_no (b : Nat) (n ev le : Int) (ps : Value) (t : Int) (w : World) (h : Hrt w b n ev le ps) (hn : n ≠ 0) (ht : ¬ (0 ≤ t ∧ t ≤ 65535)) :
    Calls Try.prog 18 #[.pointer (some ⟨b, 0, none⟩), .int .i64 t] w fun e w' => e = .returned (.int .i64 9) ∧ w = w' := by
  obtain ⟨c0, c1, c2, c3⟩ := h.cells
  have HT := Lib.hid (there_ok b n w c0 hn)
  clear h
  by_cases c : t < 0
  · have q0 : decide (t < 0) = true := decide_eq_true c
    clear ht c
    go_enter Try.func18, Try.ntmps18
    go_wp2_with fail
    refine HT.out.mono ?_
    rintro e w1 ⟨rfl, rfl⟩
    go_wp2_with fail
    go_ret
    exact ⟨rfl, rfl⟩
  · have q0 : decide (t < 0) = false := decide_eq_false c
    have q1 : decide (65535 < t) = true := by rw [decide_eq_true_iff]; omega
    clear ht c
    go_enter Try.func18, Try.ntmps18
    go_wp2_with fail
    refine HT.out.mono ?_
    rintro e w1 ⟨rfl, rfl⟩
    go_wp2_with fail
    go_ret
    exact ⟨rfl, rfl⟩
theorem period_nil (t : Int) (w : World) : Calls Try.prog 18 #[.pointer none, .int .i64 t] w fun e w' => e = .returned (.int .i64 17) ∧ w = w' := by
  go_enter Try.func18, Try.ntmps18
  go_wp2_with fail
  refine (there_nil _).mono ?_
  rintro e w1 ⟨rfl, rfl⟩
  go_wp2_with fail
  go_ret
  exact ⟨rfl, rfl⟩

def waOk (u : Nat) : Prop := u < 8388608 ∧ u / 65536 ≠ 0 ∧ u % 65536 ≠ 0
instance (u : Nat) : Decidable (waOk u) := by unfold waOk; infer_instance
def waN (u : Nat) : Int := if waOk u then ((u / 65536 : Nat) : Int) else 0
def waT (u : Nat) : Int := if waOk u then ((u % 65536 : Nat) : Int) else 0

theorem and_top (u : Nat) (hu : u < 4294967296) : (bits .and .u32 (u : Int) 4286578688 != 0) = decide (8388608 ≤ u) := by
  have h := (bits_nat .u32 32 (by decide) (fun n h0 h1 => by rw [IntKind.wrap_u32]; omega) u 4286578688 hu (by decide)).1
  rw [show ((4286578688 : Nat) : Int) = 4286578688 from rfl] at h
  rw [h]
  by_cases c : 8388608 ≤ u
  · rw [decide_eq_true c, bne_iff_ne]
    intro e
    have e' : u &&& 4286578688 = 0 := by omega
    have h1 : (u &&& 4286578688) / 2 ^ 23 = 0 := by rw [e']
    rw [Nat.and_div_two_pow] at h1
    have h2 : (4286578688 : Nat) / 2 ^ 23 = 2 ^ 9 - 1 := by decide
    rw [h2, Nat.and_two_pow_sub_one_eq_mod] at h1
    omega
  · rw [decide_eq_false c, bne_eq_false_iff_eq]
    have h1 : u &&& 4286578688 = 0 := by
      have h2 : (4286578688 : Nat) = 511 * 2 ^ 23 := by decide
      apply Nat.eq_of_testBit_eq
      intro j
      rw [Nat.testBit_and, Nat.zero_testBit]
      by_cases hj : j < 23
      · rw [h2, Nat.testBit_mul_two_pow]; simp [show ¬ 23 ≤ j by omega]
      · have : u.testBit j = false := Nat.testBit_lt_two_pow (Nat.lt_of_lt_of_le (show u < 2 ^ 23 by omega) (Nat.pow_le_pow_right (by omega) (by omega)))
        rw [this]; rfl
    omega
theorem and_low (u : Nat) (hu : u < 4294967296) : bits .and .u32 (u : Int) 65535 = ((u % 65536 : Nat) : Int) := by
  have h := (bits_nat .u32 32 (by decide) (fun n h0 h1 => by rw [IntKind.wrap_u32]; omega) u 65535 hu (by decide)).1
  rw [show ((65535 : Nat) : Int) = 65535 from rfl] at h
  rw [h, show (65535 : Nat) = 2 ^ 16 - 1 from rfl, Nat.and_two_pow_sub_one_eq_mod]

set_option maxHeartbeats 1000000 in
theorem watch_any (u : Nat) (hu : u < 4294967296) (w : World) : Calls Try.prog 35 #[.int .u32 (u : Int)] w fun e w' => e = .returned (.tuple #[.int .i64 (waN u), .int .i64 (waT u), .bool (decide (waOk u))]) ∧ w = w' := by
  have e1 := and_top u hu
  have e2 := and_low u hu
  have b0 : (0 : Int) ≤ (u : Int) := by omega
  have b1 : (u : Int) < 4294967296 := by omega
  by_cases h : waOk u
  · have r1 : waN u = (u : Int) / 65536 := by unfold waN; rw [if_pos h]; omega
    have r2 : waT u = (u : Int) % 65536 := by unfold waT; rw [if_pos h]; omega
    rw [r1, r2, decide_eq_true h]
    obtain ⟨h1, h2, h3⟩ := h
    have q1 : decide (8388608 ≤ u) = false := by rw [decide_eq_false_iff_not]; omega
    have q1' : decide ((8388608 : Int) ≤ (u : Int)) = false := by rw [decide_eq_false_iff_not]; omega
    have q2 : ((u : Int) / 65536 == 0) = false := by rw [beq_eq_false_iff_ne]; omega
    have q3 : ((u : Int) % 65536 == 0) = false := by rw [beq_eq_false_iff_ne]; omega
    have q4 : (u : Int) / 65536 % 128 = (u : Int) / 65536 := by omega
    clear r1 r2 h1 h2 h3
    go_enter Try.func35, Try.ntmps35
    go_wp2_with fail
    go_ret3
    first | exact ⟨rfl, rfl⟩ | exact ⟨ret_iib q4 rfl rfl, rfl⟩
  · have r1 : waN u = 0 := by unfold waN; rw [if_neg h]
    have r2 : waT u = 0 := by unfold waT; rw [if_neg h]
    rw [r1, r2, decide_eq_false h]
    clear r1 r2
    by_cases h1 : 8388608 ≤ u
    · have q1 : decide (8388608 ≤ u) = true := decide_eq_true h1
      have q1' : decide ((8388608 : Int) ≤ (u : Int)) = true := by rw [decide_eq_true_iff]; omega
      clear h h1
      go_enter Try.func35, Try.ntmps35
      go_wp2_with fail
      go_ret3
      exact ⟨rfl, rfl⟩
    · have q1 : decide (8388608 ≤ u) = false := decide_eq_false h1
      have q1' : decide ((8388608 : Int) ≤ (u : Int)) = false := by rw [decide_eq_false_iff_not]; omega
      have q4 : (u : Int) / 65536 % 128 = (u : Int) / 65536 := by omega
      by_cases h2 : (u : Int) / 65536 = 0
      · have q2 : ((u : Int) / 65536 == 0) = true := by rw [h2]; rfl
        clear h h1 h2
        by_cases h3 : (u : Int) % 65536 = 0
        · have q3 : ((u : Int) % 65536 == 0) = true := by rw [h3]; rfl
          clear h3
          go_enter Try.func35, Try.ntmps35
          go_wp2_with fail
          go_ret3
          exact ⟨rfl, rfl⟩
        · have q3 : ((u : Int) % 65536 == 0) = false := by rw [beq_eq_false_iff_ne]; exact h3
          clear h3
          go_enter Try.func35, Try.ntmps35
          go_wp2_with fail
          go_ret3
          exact ⟨rfl, rfl⟩
      · have q2 : ((u : Int) / 65536 == 0) = false := by rw [beq_eq_false_iff_ne]; exact h2
        have h3 : (u : Int) % 65536 = 0 := by unfold waOk at h; omega
        have q3 : ((u : Int) % 65536 == 0) = true := by rw [h3]; rfl
        clear h h1 h2 h3
        go_enter Try.func35, Try.ntmps35
        go_wp2_with fail
        go_ret3
        exact ⟨rfl, rfl⟩
set_option maxHeartbeats 1000000 in
theorem rwatch_any (u : Nat) (hu : u < 4294967296) (w : World) : Calls Try.prog 36 #[.int .u32 (u : Int)] w fun e w' => e = .returned (.tuple #[.int .i64 (waN u), .int .i64 (waT u), .bool (decide (waOk u))]) ∧ w = w' := by
  have e1 := and_top u hu
  have e2 := and_low u hu
  have b0 : (0 : Int) ≤ (u : Int) := by omega
  have b1 : (u : Int) < 4294967296 := by omega
  by_cases h : waOk u
  · have r1 : waN u = (u : Int) / 65536 := by unfold waN; rw [if_pos h]; omega
    have r2 : waT u = (u : Int) % 65536 := by unfold waT; rw [if_pos h]; omega
    rw [r1, r2, decide_eq_true h]
    obtain ⟨h1, h2, h3⟩ := h
    have q1 : decide (8388608 ≤ u) = false := by rw [decide_eq_false_iff_not]; omega
    have q1' : decide ((8388608 : Int) ≤ (u : Int)) = false := by rw [decide_eq_false_iff_not]; omega
    have q2 : ((u : Int) / 65536 == 0) = false := by rw [beq_eq_false_iff_ne]; omega
    have q3 : ((u : Int) % 65536 == 0) = false := by rw [beq_eq_false_iff_ne]; omega
    have q4 : (u : Int) / 65536 % 128 = (u : Int) / 65536 := by omega
    clear r1 r2 h1 h2 h3
    go_enter Try.func36, Try.ntmps36
    go_wp2_with fail
    go_ret3
    first | exact ⟨rfl, rfl⟩ | exact ⟨ret_iib q4 rfl rfl, rfl⟩
  · have r1 : waN u = 0 := by unfold waN; rw [if_neg h]
    have r2 : waT u = 0 := by unfold waT; rw [if_neg h]
    rw [r1, r2, decide_eq_false h]
    clear r1 r2
    by_cases h1 : 8388608 ≤ u
    · have q1 : decide (8388608 ≤ u) = true := decide_eq_true h1
      have q1' : decide ((8388608 : Int) ≤ (u : Int)) = true := by rw [decide_eq_true_iff]; omega
      clear h h1
      go_enter Try.func36, Try.ntmps36
      go_wp2_with fail
      go_ret3
      exact ⟨rfl, rfl⟩
    · have q1 : decide (8388608 ≤ u) = false := decide_eq_false h1
      have q1' : decide ((8388608 : Int) ≤ (u : Int)) = false := by rw [decide_eq_false_iff_not]; omega
      have q4 : (u : Int) / 65536 % 128 = (u : Int) / 65536 := by omega
      by_cases h2 : (u : Int) / 65536 = 0
      · have q2 : ((u : Int) / 65536 == 0) = true := by rw [h2]; rfl
        clear h h1 h2
        by_cases h3 : (u : Int) % 65536 = 0
        · have q3 : ((u : Int) % 65536 == 0) = true := by rw [h3]; rfl
          clear h3
          go_enter Try.func36, Try.ntmps36
          go_wp2_with fail
          go_ret3
          exact ⟨rfl, rfl⟩
        · have q3 : ((u : Int) % 65536 == 0) = false := by rw [beq_eq_false_iff_ne]; exact h3
          clear h3
          go_enter Try.func36, Try.ntmps36
          go_wp2_with fail
          go_ret3
          exact ⟨rfl, rfl⟩
      · have q2 : ((u : Int) / 65536 == 0) = false := by rw [beq_eq_false_iff_ne]; exact h2
        have h3 : (u : Int) % 65536 = 0 := by unfold waOk at h; omega
        have q3 : ((u : Int) % 65536 == 0) = true := by rw [h3]; rfl
        clear h h1 h2 h3
        go_enter Try.func36, Try.ntmps36
        go_wp2_with fail
        go_ret3
        exact ⟨rfl, rfl⟩
end Go.Proofs.Ytpnnmcicpjebmaa
