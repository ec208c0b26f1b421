/-
  LAW ClockEvery: the walk.
-/
import Derived.Test.YtcicmpegajahkaaWrap
import Derived.Test.YtcicmpegajahkaaNext
import Derived.IntWalk
set_option linter.unusedSimpArgs false
set_option linter.unusedVariables false
namespace Go.Proofs.Ytcicmpegajahkaa
open Go.RowKit
attribute [local go_sem] Oper.semAt_some

/-- One timer alone. -/
def one (k : Nat) (x : Int) : Nat → Int := fun j => if j = k then x else 0

theorem one_set (k : Nat) (x : Int) : setF zeroF (k : Int) x = one k x := by
  funext j; unfold setF zeroF one
  by_cases h : j = k
  · simp [h]
  · rw [if_neg (by omega), if_neg h]

theorem one_again (k : Nat) (x y : Int) : setF (one k y) (k : Int) x = one k x := by
  funext j; unfold setF one
  by_cases h : j = k
  · simp [h]
  · rw [if_neg (by omega), if_neg h, if_neg h]

theorem one_filter (k : Nat) (hk : k < 16) (p : Nat → Bool) (hp : ∀ i, i < 16 → p i = (i == k)) : (List.range 16).filter p = [k] := by
  have e : (List.range 16).filter p = (List.range 16).filter (· == k) := List.filter_congr (fun i hi => hp i (by simpa using hi))
  rw [e]
  have : ∀ k, k < 16 → (List.range 16).filter (· == k) = [k] := by decide
  exact this k hk

theorem none_filter (p : Nat → Bool) (hp : ∀ i, i < 16 → p i = false) : (List.range 16).filter p = [] := by
  rw [List.filter_eq_nil_iff]
  intro i hi
  simp [hp i (by simpa using hi)]

theorem one_running (k : Nat) (hk : k < 16) (x : Int) (hx : 0 < x) : running (one k x) = [k] :=
  one_filter k hk _ fun i _ => by unfold one; by_cases h : i = k <;> simp [h, hx]

theorem one_out (k : Nat) (hk : k < 16) : tickZ (one k 1) = [(k : Int)] := by
  unfold tickZ tickOut
  rw [one_filter k hk _ fun i _ => by unfold one; by_cases h : i = k <;> simp [h]]
  rfl

theorem one_quiet (k : Nat) (x : Int) (hx : x ≠ 1) : tickZ (one k x) = [] := by
  unfold tickZ tickOut
  rw [none_filter _ fun i _ => by unfold one; by_cases h : i = k <;> simp [h, hx]]
  rfl

theorem one_tick (k : Nat) (x n : Int) (hx : 0 < x) : tickL (one k x) (one k n) = one k (if x = 1 then n else x - 1) := by
  funext j; unfold tickL one
  by_cases h : j = k <;> simp [h, hx]

theorem one_leftN (k : Nat) (hk : k < 16) (x : Int) (hx : 0 < x) : leftN (one k x) (k : Int) = x := by
  unfold leftN
  rw [if_pos ⟨by omega, by omega, by simpa [one] using hx⟩]
  simp [one]
theorem one_leftB (k : Nat) (hk : k < 16) (x : Int) (hx : 0 < x) : leftB (one k x) (k : Int) = true := by
  unfold leftB
  rw [decide_eq_true_iff]
  exact ⟨by omega, by omega, by simpa [one] using hx⟩
theorem one_leftB0 (k : Nat) : leftB (one k 0) (k : Int) = false := by
  unfold leftB
  rw [decide_eq_false_iff_not]
  rintro ⟨_, _, h⟩
  simp [one] at h
theorem one_nextN (k : Nat) (hk : k < 16) (x : Int) (hx : 0 < x) : nextN (one k x) = x := by
  unfold nextN nextK; rw [one_running k hk x hx]; simp [least, one]
theorem one_nextB (k : Nat) (hk : k < 16) (x : Int) (hx : 0 < x) : nextB (one k x) = true := by
  unfold nextB nextK; rw [one_running k hk x hx]; simp [least]

theorem mod_step (t n : Nat) (hn : 1 ≤ n) : ((t + 1) % n = 0 ↔ n - t % n = 1) ∧ ((t + 1) % n ≠ 0 → (t + 1) % n = t % n + 1) ∧ t % n < n := by
  have h1 := Nat.mod_lt t (show n > 0 by omega)
  by_cases h : t % n + 1 = n
  · have : (t + 1) % n = 0 := by
      rcases Nat.lt_or_ge 1 n with hh | hh
      · rw [Nat.add_mod, Nat.mod_eq_of_lt hh, h, Nat.mod_self]
      · have : n = 1 := by omega
        subst this; exact Nat.mod_one _
    exact ⟨⟨fun _ => by omega, fun _ => this⟩, fun h => absurd this h, h1⟩
  · have : (t + 1) % n = t % n + 1 := by
      rw [Nat.add_mod]
      rcases Nat.lt_or_ge 1 n with hh | hh
      · rw [Nat.mod_eq_of_lt hh, Nat.mod_eq_of_lt (by omega)]
      · omega
    exact ⟨⟨fun _ => by omega, fun _ => by omega⟩, fun _ => this, h1⟩

set_option maxRecDepth 100000 in
set_option maxHeartbeats 2000000 in
theorem every_walk (name ticks : UInt8) (w : World) : Calls Try.prog 4 #[.int .u8 (name.toNat : Int), .int .u8 (ticks.toNat : Int)] w fun e w' => e = .returned (.bool true) ∧ Below w.heap.size w w' := by
  have hn1 := name.toNat_lt
  have ht1 := ticks.toNat_lt
  generalize name.toNat = nm at *
  generalize ticks.toNat = tk at *
  go_enter Try.func4, Try.ntmps4
  go_wp2_with fail
  refine (new_any _).mono ?_
  rintro e w1 ⟨rfl, hC, hB, hlt⟩
  have HC := Lib.hid hC
  clear hC
  generalize hb0 : w.heap.size = b at hB hlt HC ⊢
  go_wp2_with fail
  obtain ⟨k, hk, hk16⟩ : ∃ k : Nat, (nm : Int) % 16 = (k : Int) ∧ k < 16 := ⟨nm % 16, by omega, by omega⟩
  obtain ⟨n, hn, hn1', hn40⟩ : ∃ n : Nat, 1 + (tk : Int) % 40 = (n : Int) ∧ 1 ≤ n ∧ n ≤ 40 := ⟨1 + tk % 40, by omega, by omega, by omega⟩
  rw [hk, hn]
  clear hk hn
  refine (every_ok b k n _ _ _ HC.out (by unfold fits; omega)).mono ?_
  rintro e w2 ⟨rfl, hC, hu1⟩
  rw [one_set] at hC
  clear HC
  have HC := Lib.hid hC
  have HB := Lib.hid (hB.updTo hu1 (Nat.le_refl _) (by omega))
  clear hC hB hu1
  go_wp2_with fail
  go_loopw [8] (fun i wr => ∃ t : Nat, t ≤ 3 * n + 1 ∧ i = .int .i64 (t + 1 : Nat) ∧ Clk wr b (one k (n - t % n : Nat)) (one k n) ∧ Below b w wr ∧ b < wr.heap.size) (fun i _ => 3 * n + 2 - (intOf i).toNat)
  case atStart => exact ⟨0, by omega, rfl, by simpa using HC.out, HB.out, HC.out.lt⟩
  case round =>
    obtain ⟨t, ht, rfl, hCr, hBr, hltr⟩ := hrel
    clear HC HB hlt
    have HC := Lib.hid hCr
    clear hCr
    obtain ⟨m1, m2, m3⟩ := mod_step t n hn1'
    have hx0 : 0 < ((n - t % n : Nat) : Int) := by omega
    have hx40 : ((n - t % n : Nat) : Int) ≤ 1048576 := by omega
    by_cases hlast : t < 3 * n + 1
    · have hle : ((t + 1 : Nat) : Int) ≤ 3 * (n : Int) + 1 := by omega
      have hr : ((t : Int) + 1).tmod (n : Int) = (((t + 1) % n : Nat) : Int) := rfl
      have hz : ((n : Int) == 0) = false := by rw [beq_eq_false_iff_ne]; omega
      have hz2 : ¬ n = 0 := by omega
      have hwn : IntKind.i64.wrap (n : Int) = (n : Int) := IntWalk.i64_in _ (by omega)
      have HW := Lib.hid (And.intro hr (And.intro hz (And.intro hz2 hwn)))
      clear hr hz hz2 hwn
      generalize hxe : ((n - t % n : Nat) : Int) = x at *
      go_wp2_with fail
      refine (tick_ints b _ _ _ HC.out (fun i hi => by unfold one; split <;> omega)).mono ?_
      rintro e w3 ⟨al, cl, rfl, hl, hlb, hC, hu3⟩
      rw [one_tick k x n hx0] at hC
      clear HC
      have HC := Lib.hid hC
      have HB := Lib.hid (hBr.updTo hu3 (Nat.le_refl _) (by omega))
      have hlt3 : b < w3.heap.size := by have := hu3.size; omega
      clear hC hBr hu3
      by_cases hx1 : x = 1
      · subst hx1
        rw [one_out k hk16] at hl ⊢
        have hc : w3.cell? ⟨0, 0, none⟩ = none ∨ True := .inr trivial
        obtain ⟨ab, ao, rfl, hcell⟩ : ∃ ab ao, al = some ⟨ab, ao, none⟩ ∧ w3.cell? ⟨ab, ao, none⟩ = some (.int .i64 k) := by
          rcases hl with hl | ⟨ab, ao, rfl, hl⟩
          · cases hl
          · exact ⟨ab, ao, rfl, by simpa using hl 0 (by simp)⟩
        have hm0 : (t + 1) % n = 0 := m1.2 (by omega)
        rw [if_pos rfl] at HC
        have e0 : (((((t + 1) % n : Nat) : Int)) == 0) = true := by rw [hm0]; rfl
        have e1 : ((n : Int) != (n : Int) - (((t + 1) % n : Nat) : Int)) = false := by rw [hm0]; simp
        have hcell' := Lib.hid hcell
        clear hl hc hcell
        go_wp2_with fail
        refine (left_any b _ _ (k : Int) _ HC.out).mono ?_
        rintro e w4 ⟨rfl, hb4⟩
        rw [one_leftN k hk16 _ (by omega), one_leftB k hk16 _ (by omega)]
        have HC4 := Lib.hid (HC.out.upd (Upd.ofBelow' (S := fun _ => False) hb4) (fun h => h))
        have hB4 := HB.out.trans (hb4.mono (Nat.le_of_lt hlt3))
        have hlt4 := hb4.size
        clear HC HB
        go_wp2_with fail
        refine (next_any b _ _ _ HC4.out).mono ?_
        rintro e w5 ⟨rfl, hb5⟩
        rw [one_nextN k hk16 _ (by omega), one_nextB k hk16 _ (by omega)]
        have HC5 := Lib.hid (HC4.out.upd (Upd.ofBelow' (S := fun _ => False) hb5) (fun h => h))
        have HB5 := Lib.hid (hB4.trans (hb5.mono (by omega)))
        have hlt5 := hb5.size
        clear HC4 hB4
        have hcell5 : w5.cell? ⟨ab, ao, none⟩ = some (.int .i64 k) := by
          have h4 := hb4.cell (World.block_lt_of_cell? w3 _ hcell'.out)
          have h5 := hb5.cell (p := ⟨ab, ao, none⟩) (Nat.lt_of_lt_of_le (World.block_lt_of_cell? w3 _ hcell'.out) hb4.size)
          exact h5.trans (h4.trans hcell'.out)
        clear hb4 hb5
        obtain ⟨hr, hz, hz2, hwn⟩ := HW.out
        rw [hm0, Int.natCast_zero] at hr e0 e1
        go_wp2_with fail
        go_quiet (fail)
        go_wp2_with fail
        go_roundw
        case rel =>
          refine ⟨t + 1, by omega, by go_num, ?_, ⟨HB5.out.os, HB5.out.tape, HB5.out.output, HB5.out.size, HB5.out.block⟩, ?_⟩
          · have e : ((n - (t + 1) % n : Nat) : Int) = (n : Int) := by omega
            rw [e]
            exact (HC5.out.same rfl)
          · show b < w5.heap.size
            omega
        case measure => simp [intOf]; omega
      · have hl0 := one_quiet k x hx1
        rw [hl0] at hl ⊢
        have hm0 : (t + 1) % n = t % n + 1 := m2 (fun h => hx1 (by have := m1.1 h; omega))
        rw [if_neg hx1] at HC
        obtain ⟨y, hy⟩ : ∃ y, x - 1 = y := ⟨_, rfl⟩
        rw [hy] at HC
        obtain ⟨r, hr'⟩ : ∃ r, r = (t + 1) % n := ⟨_, rfl⟩
        rw [← hr'] at HW hm0
        have hrx : (n : Int) - (r : Int) = y := by omega
        have HX := Lib.hid (And.intro hr' (And.intro hm0 (And.intro hxe hy)))
        have hx0' : 0 < y := by omega
        have hr1 : ¬ r = 0 := by omega
        have hy40 : y ≤ 40 := by omega
        have hlt4' : b < w3.heap.size := by omega
        clear m1 m2 m3 hxe hy hm0 hr'
        clear hl
        go_wp2_with fail
        refine (left_any b _ _ (k : Int) _ HC.out).mono ?_
        rintro e w4 ⟨rfl, hb4⟩
        rw [one_leftN k hk16 _ (by omega), one_leftB k hk16 _ (by omega)]
        have HC4 := Lib.hid (HC.out.upd (Upd.ofBelow' (S := fun _ => False) hb4) (fun h => h))
        have hB4 := HB.out.trans (hb4.mono (Nat.le_of_lt hlt3))
        have hlt4 := hb4.size
        clear HC HB
        go_wp2_with fail
        refine (next_any b _ _ _ HC4.out).mono ?_
        rintro e w5 ⟨rfl, hb5⟩
        rw [one_nextN k hk16 _ (by omega), one_nextB k hk16 _ (by omega)]
        have HC5 := Lib.hid (HC4.out.upd (Upd.ofBelow' (S := fun _ => False) hb5) (fun h => h))
        have HB5 := Lib.hid (hB4.trans (hb5.mono (by omega)))
        have hlt5 := hb5.size
        clear HC4 hB4
        clear hb4 hb5
        obtain ⟨hr, hz, hz2, hwn⟩ := HW.out
        have hw2 : IntKind.i64.wrap y = y := by exact IntWalk.i64_in _ (by omega)
        go_wp2_with fail
        go_quiet (fail)
        go_wp2_with fail
        obtain ⟨hr', hm0, hxe, hy⟩ := HX.out
        go_roundw
        case rel =>
          refine ⟨t + 1, by omega, by go_num, ?_, ⟨HB5.out.os, HB5.out.tape, HB5.out.output, HB5.out.size, HB5.out.block⟩, ?_⟩
          · have e : ((n - (t + 1) % n : Nat) : Int) = y := by rw [← hr']; omega
            rw [e]
            exact (HC5.out.same rfl)
          · show b < w5.heap.size
            omega
        case measure => simp [intOf]; omega
    · have hle : ¬ ((t + 1 : Nat) : Int) ≤ 3 * (n : Int) + 1 := by omega
      generalize hxe : ((n - t % n : Nat) : Int) = x at *
      clear m1 m2 m3 hxe
      go_wp2_with fail
      refine (stop_ok b k _ _ _ HC.out (by omega) (by omega)).mono ?_
      rintro e w3 ⟨rfl, hC, hu3⟩
      rw [one_again, one_again] at hC
      clear HC
      have HC := Lib.hid hC
      have HB := Lib.hid (hBr.updTo hu3 (Nat.le_refl _) (by omega))
      have hlt3 : b < w3.heap.size := by have := hu3.size; omega
      clear hC hBr hu3
      go_wp2_with fail
      refine (left_any b _ _ (k : Int) _ HC.out).mono ?_
      rintro e w4 ⟨rfl, hb4⟩
      rw [one_leftB0 k]
      have HC4 := Lib.hid (HC.out.upd (Upd.ofBelow' (S := fun _ => False) hb4) (fun h => h))
      have HB4 := Lib.hid (HB.out.trans (hb4.mono (Nat.le_of_lt hlt3)))
      have hlt4 := hb4.size
      clear HC HB
      go_wp2_with fail
      refine (tick_ints b _ _ _ HC4.out (fun i hi => by unfold one; split <;> omega)).mono ?_
      rintro e w5 ⟨al, cl, rfl, hl, hlb, hC, hu5⟩
      have hl0 := one_quiet k 0 (by omega)
      rw [hl0] at hl ⊢
      have HB5 := Lib.hid (HB4.out.updTo hu5 (Nat.le_refl _) (by omega))
      have hlt5 : b < w5.heap.size := by have := hu5.size; omega
      clear hl hlb hC hu5 hl0 HC4 HB4
      go_wp2_with fail
      refine (known_any _).mono ?_
      rintro e w6 ⟨rfl, hb6⟩
      go_wp2_with fail
      go_ret
      exact ⟨rfl, by rw [hb0]; exact HB5.out.trans (hb6.mono (by omega))⟩

theorem every_frame (a0 a1 : Int) (w : World) (w0 : (Lit.int .u8 a0).wf = true) (w1 : (Lit.int .u8 a1).wf = true) :
    Calls Try.prog 4 #[.int .u8 a0, .int .u8 a1] w fun e w' => e = .returned (.bool true) ∧ Below w.heap.size w w' := by
  obtain ⟨s, rfl⟩ := u8_of w0
  obtain ⟨t, rfl⟩ := u8_of w1
  exact every_walk s t w
end Go.Proofs.Ytcicmpegajahkaa
