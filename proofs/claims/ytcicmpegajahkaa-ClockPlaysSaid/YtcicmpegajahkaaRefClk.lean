/-
  CONTRACTS of the document's clock.
-/
import Derived.Test.YtcicmpegajahkaaWrap
import Derived.Test.YtcicmpegajahkaaNext
import Derived.Test.YtcicmpegajahkaaAid
import Derived.Handy
import Derived.Deep.Light
import Derived.BigQuiet
import Derived.Deep.QuietTactic
import Derived.BigRegion
set_option linter.unusedSimpArgs false
set_option linter.unusedVariables false
namespace Go.Proofs.Ytcicmpegajahkaa
open Go.RowKit
attribute [local go_sem] Oper.semAt_some

/-- The document's clock in block c. -/
def RClk (w : World) (c : Nat) (L A : Nat → Int) : Prop :=
  ∃ cs : Array Value, w.heap[c]? = some (.cells cs 41 (0, 0)) ∧ cs.size = 32 ∧ ∀ i, i < 16 → cs[i]? = some (.int .i64 (L i)) ∧ cs[16 + i]? = some (.int .i64 (A i))

theorem RClk.left {w : World} {c : Nat} {L A : Nat → Int} (h : RClk w c L A) (i : Nat) (hi : i < 16) : w.cell? ⟨c, i, none⟩ = some (.int .i64 (L i)) := by
  obtain ⟨cs, hh, hs, hc⟩ := h
  simp [World.cell?, hh, (hc i hi).1]
theorem RClk.again {w : World} {c : Nat} {L A : Nat → Int} (h : RClk w c L A) (i : Nat) (hi : i < 16) : w.cell? ⟨c, 16 + i, none⟩ = some (.int .i64 (A i)) := by
  obtain ⟨cs, hh, hs, hc⟩ := h
  simp [World.cell?, hh, (hc i hi).2]
theorem RClk.free {w : World} {c : Nat} {L A : Nat → Int} (h : RClk w c L A) (o : Nat) : w.frozen? ⟨c, o, none⟩ = false := by
  obtain ⟨cs, hh, hs, hc⟩ := h
  simp [World.frozen?, hh]
theorem RClk.lt {w : World} {c : Nat} {L A : Nat → Int} (h : RClk w c L A) : c < w.heap.size := by
  obtain ⟨cs, hh, hs, hc⟩ := h
  exact lt_of_block hh
theorem RClk.same {w w' : World} {c : Nat} {L A : Nat → Int} (h : RClk w c L A) (hk : w'.heap[c]? = w.heap[c]?) : RClk w' c L A := by
  obtain ⟨cs, hh, hs, hc⟩ := h
  exact ⟨cs, hk.trans hh, hs, hc⟩
theorem RClk.upd {w w' : World} {c : Nat} {L A : Nat → Int} {S : Nat → Prop} (h : RClk w c L A) (hu : Upd S w w') (hn : ¬ S c) : RClk w' c L A := h.same (hu.block c h.lt hn)
theorem RClk.ext {w : World} {c : Nat} {L A L' A' : Nat → Int} (h : RClk w c L A) (hL : ∀ i, i < 16 → L' i = L i) (hA : ∀ i, i < 16 → A' i = A i) : RClk w c L' A' := by
  obtain ⟨cs, hh, hs, hc⟩ := h
  exact ⟨cs, hh, hs, fun i hi => by rw [hL i hi, hA i hi]; exact hc i hi⟩
theorem RClk.setL {w : World} {c : Nat} {L A : Nat → Int} (h : RClk w c L A) (i : Nat) (hi : i < 16) (x : Int) : RClk (w.setCell ⟨c, i, none⟩ (.int .i64 x)) c (fun j => if j = i then x else L j) A := by
  obtain ⟨cs, hh, hs, hc⟩ := h
  refine ⟨cs.setIfInBounds i (.int .i64 x), heap_setCell_same w c i cs 41 _ hh, by simpa using hs, fun j hj => ?_⟩
  obtain ⟨h1, h2⟩ := hc j hj
  constructor
  · by_cases e : j = i
    · subst e; simp [Array.getElem?_setIfInBounds]; omega
    · rw [Array.getElem?_setIfInBounds_ne (by omega)]; simpa [e] using h1
  · rw [Array.getElem?_setIfInBounds_ne (by omega)]; exact h2
theorem RClk.setA {w : World} {c : Nat} {L A : Nat → Int} (h : RClk w c L A) (i : Nat) (hi : i < 16) (x : Int) : RClk (w.setCell ⟨c, 16 + i, none⟩ (.int .i64 x)) c L (fun j => if j = i then x else A j) := by
  obtain ⟨cs, hh, hs, hc⟩ := h
  refine ⟨cs.setIfInBounds (16 + i) (.int .i64 x), heap_setCell_same w c (16 + i) cs 41 _ hh, by simpa using hs, fun j hj => ?_⟩
  obtain ⟨h1, h2⟩ := hc j hj
  constructor
  · rw [Array.getElem?_setIfInBounds_ne (by omega)]; exact h1
  · by_cases e : j = i
    · subst e; simp [Array.getElem?_setIfInBounds]; omega
    · rw [Array.getElem?_setIfInBounds_ne (by omega)]; simpa [e] using h2
theorem rclk_new (w : World) (cs : Array Value) (h : cs = Array.replicate 32 (.int .i64 0)) : RClk (w.alloc (.cells cs 41)) w.heap.size zeroF zeroF := by
  subst h
  refine ⟨_, heap_alloc_new w _, by simp, fun i hi => ?_⟩
  simp [zeroF, Array.getElem?_replicate]
  omega

theorem rbegin_ok (c : Nat) (name ticks again : Int) (L A : Nat → Int) (w : World) (h : RClk w c L A) (hf : fits name ticks) :
    Calls Try.prog 25 #[.pointer (some ⟨c, 0, none⟩), .int .i64 name, .int .i64 ticks, .int .i64 again] w fun e w' => e = .returned (.int .i64 0) ∧ RClk w' c (setF L name ticks) (setF A name again) ∧ Upd (· = c) w w' := by
  obtain ⟨g0, g1, h1, h2⟩ := hf
  obtain ⟨n, rfl⟩ := Int.eq_ofNat_of_zero_le g0
  have hn : n < 16 := by omega
  have d0 := h.left n hn
  have d1 := h.again n hn
  have f0 := h.free n
  have f1 := h.free (16 + n)
  have e1 : setF L (n : Int) ticks = fun j => if j = n then ticks else L j := by funext j; unfold setF; by_cases e : j = n <;> simp [e] <;> omega
  have e2 : setF A (n : Int) again = fun j => if j = n then again else A j := by funext j; unfold setF; by_cases e : j = n <;> simp [e] <;> omega
  have H : Hid (RClk ((w.setCell ⟨c, n, none⟩ (.int .i64 ticks)).setCell ⟨c, 16 + n, none⟩ (.int .i64 again)) c (setF L (n : Int) ticks) (setF A (n : Int) again)) := by
    rw [e1, e2]; exact (h.setL n hn ticks).setA n hn again
  have q0 : decide ((n : Int) < 0) = false := by rw [decide_eq_false_iff_not]; omega
  have q1 : decide (16 ≤ (n : Int)) = false := by rw [decide_eq_false_iff_not]; omega
  have q2 : decide (ticks < 1) = false := by rw [decide_eq_false_iff_not]; omega
  have q3 : decide (1048576 < ticks) = false := by rw [decide_eq_false_iff_not]; omega
  clear h e1 e2
  go_enter Try.func25, Try.ntmps25
  go_wp2_with fail
  go_ret
  exact ⟨rfl, H.out, ((Upd.refl (· = c) w).setCell (p := ⟨c, n, none⟩) (fun _ => rfl) _).setCell (p := ⟨c, 16 + n, none⟩) (fun _ => rfl) _⟩

theorem rbegin_no (c : Nat) (name ticks again : Int) (w : World) (hf : ¬ fits name ticks) :
    Calls Try.prog 25 #[.pointer (some ⟨c, 0, none⟩), .int .i64 name, .int .i64 ticks, .int .i64 again] w fun e w' => e = .returned (.int .i64 1) ∧ w = w' := by
  have hf' : name < 0 ∨ (0 ≤ name ∧ 16 ≤ name) ∨ (0 ≤ name ∧ name < 16 ∧ ticks < 1) ∨ (0 ≤ name ∧ name < 16 ∧ 1 ≤ ticks ∧ 1048576 < ticks) := by unfold fits at hf; omega
  clear hf
  rcases hf' with g | ⟨g, g2⟩ | ⟨g, g2, g3⟩ | ⟨g, g2, g3, g4⟩
  · go_enter Try.func25, Try.ntmps25
    go_wp2
    all_goals (go_ret; exact ⟨rfl, rfl⟩)
  · have q0 : decide (name < 0) = false := by rw [decide_eq_false_iff_not]; omega
    go_enter Try.func25, Try.ntmps25
    go_wp2
    all_goals (go_ret; exact ⟨rfl, rfl⟩)
  · have q0 : decide (name < 0) = false := by rw [decide_eq_false_iff_not]; omega
    have q1 : decide (16 ≤ name) = false := by rw [decide_eq_false_iff_not]; omega
    go_enter Try.func25, Try.ntmps25
    go_wp2
    all_goals (go_ret; exact ⟨rfl, rfl⟩)
  · have q0 : decide (name < 0) = false := by rw [decide_eq_false_iff_not]; omega
    have q1 : decide (16 ≤ name) = false := by rw [decide_eq_false_iff_not]; omega
    have q2 : decide (ticks < 1) = false := by rw [decide_eq_false_iff_not]; omega
    go_enter Try.func25, Try.ntmps25
    go_wp2
    all_goals (go_ret; exact ⟨rfl, rfl⟩)

theorem rset_ok (c : Nat) (name ticks : Int) (L A : Nat → Int) (w : World) (h : RClk w c L A) (hf : fits name ticks) :
    Calls Try.prog 15 #[.pointer (some ⟨c, 0, none⟩), .int .i64 name, .int .i64 ticks] w fun e w' => e = .returned (.int .i64 0) ∧ RClk w' c (setF L name ticks) (setF A name 0) ∧ Upd (· = c) w w' := by
  go_enter Try.func15, Try.ntmps15
  go_wp2_with fail
  refine (rbegin_ok c name ticks 0 L A _ h hf).mono ?_
  rintro e w' ⟨rfl, hC, hu⟩
  have HC := Lib.hid hC
  clear hC h
  go_wp2_with fail
  go_ret
  exact ⟨rfl, HC.out, hu⟩
theorem rset_no (c : Nat) (name ticks : Int) (w : World) (hf : ¬ fits name ticks) :
    Calls Try.prog 15 #[.pointer (some ⟨c, 0, none⟩), .int .i64 name, .int .i64 ticks] w fun e w' => e = .returned (.int .i64 1) ∧ w = w' := by
  go_enter Try.func15, Try.ntmps15
  go_wp2_with fail
  refine (rbegin_no c name ticks 0 _ hf).mono ?_
  rintro e w' ⟨rfl, rfl⟩
  go_wp2_with fail
  go_ret
  exact ⟨rfl, rfl⟩
theorem revery_ok (c : Nat) (name ticks : Int) (L A : Nat → Int) (w : World) (h : RClk w c L A) (hf : fits name ticks) :
    Calls Try.prog 16 #[.pointer (some ⟨c, 0, none⟩), .int .i64 name, .int .i64 ticks] w fun e w' => e = .returned (.int .i64 0) ∧ RClk w' c (setF L name ticks) (setF A name ticks) ∧ Upd (· = c) w w' := by
  go_enter Try.func16, Try.ntmps16
  go_wp2_with fail
  refine (rbegin_ok c name ticks ticks L A _ h hf).mono ?_
  rintro e w' ⟨rfl, hC, hu⟩
  have HC := Lib.hid hC
  clear hC h
  go_wp2_with fail
  go_ret
  exact ⟨rfl, HC.out, hu⟩
theorem revery_no (c : Nat) (name ticks : Int) (w : World) (hf : ¬ fits name ticks) :
    Calls Try.prog 16 #[.pointer (some ⟨c, 0, none⟩), .int .i64 name, .int .i64 ticks] w fun e w' => e = .returned (.int .i64 1) ∧ w = w' := by
  go_enter Try.func16, Try.ntmps16
  go_wp2_with fail
  refine (rbegin_no c name ticks ticks _ hf).mono ?_
  rintro e w' ⟨rfl, rfl⟩
  go_wp2_with fail
  go_ret
  exact ⟨rfl, rfl⟩

theorem rstop_ok (c : Nat) (name : Int) (L A : Nat → Int) (w : World) (h : RClk w c L A) (g0 : 0 ≤ name) (g1 : name < 16) :
    Calls Try.prog 17 #[.pointer (some ⟨c, 0, none⟩), .int .i64 name] w fun e w' => e = .returned (.tuple #[]) ∧ RClk w' c (setF L name 0) A ∧ Upd (· = c) w w' := by
  obtain ⟨n, rfl⟩ := Int.eq_ofNat_of_zero_le g0
  have hn : n < 16 := by omega
  have d0 := h.left n hn
  have f0 := h.free n
  have e1 : setF L (n : Int) 0 = fun j => if j = n then 0 else L j := by funext j; unfold setF; by_cases e : j = n <;> simp [e] <;> omega
  have H : Hid (RClk (w.setCell ⟨c, n, none⟩ (.int .i64 0)) c (setF L (n : Int) 0) A) := by rw [e1]; exact h.setL n hn 0
  clear h e1
  go_enter Try.func17, Try.ntmps17
  go_wp2_with fail
  go_end0
  exact ⟨rfl, H.out, (Upd.refl (· = c) w).setCell (p := ⟨c, n, none⟩) (fun _ => rfl) _⟩
theorem rstop_no (c : Nat) (name : Int) (w : World) (hf : ¬ (0 ≤ name ∧ name < 16)) :
    Calls Try.prog 17 #[.pointer (some ⟨c, 0, none⟩), .int .i64 name] w fun e w' => e = .returned (.tuple #[]) ∧ w = w' := by
  by_cases g : name < 0
  · have q0 : decide (0 ≤ name) = false := by rw [decide_eq_false_iff_not]; omega
    clear hf
    go_enter Try.func17, Try.ntmps17
    go_wp2_with fail
    all_goals (go_end0; exact ⟨rfl, rfl⟩)
  · have q0 : 0 ≤ name := by omega
    have q1 : decide (name < 16) = false := by rw [decide_eq_false_iff_not]; omega
    clear hf g
    go_enter Try.func17, Try.ntmps17
    go_wp2_with fail
    all_goals (go_end0; exact ⟨rfl, rfl⟩)

theorem rhas_any (c : Nat) (L A : Nat → Int) (name : Int) (w : World) (h : RClk w c L A) (hL : ∀ i, i < 16 → 0 ≤ L i) :
    Calls Try.prog 18 #[.pointer (some ⟨c, 0, none⟩), .int .i64 name] w fun e w' => e = .returned (.tuple #[.int .i64 (leftN L name), .bool (leftB L name)]) ∧ w = w' := by
  by_cases g : 0 ≤ name ∧ name < 16
  · obtain ⟨g0, g1⟩ := g
    obtain ⟨n, rfl⟩ := Int.eq_ofNat_of_zero_le g0
    have hn : n < 16 := by omega
    have d0 := h.left n hn
    have hl := hL n hn
    have q0 : decide ((n : Int) < 0) = false := by rw [decide_eq_false_iff_not]; omega
    have q1 : decide (16 ≤ (n : Int)) = false := by rw [decide_eq_false_iff_not]; omega
    by_cases hz : L n = 0
    · have e1 : leftN L (n : Int) = 0 := by unfold leftN; rw [if_neg]; rintro ⟨_, _, k⟩; simp at k; omega
      have e2 : leftB L (n : Int) = false := by unfold leftB; rw [decide_eq_false_iff_not]; rintro ⟨_, _, k⟩; simp at k; omega
      rw [e1, e2]
      rw [hz] at d0
      clear h hL e1 e2 hz hl
      go_enter Try.func18, Try.ntmps18
      go_wp2_with fail
      go_ret2
      exact ⟨rfl, rfl⟩
    · have hh : hit L (n : Int) := ⟨g0, g1, by simp; omega⟩
      have e1 : leftN L (n : Int) = L n := by unfold leftN; rw [if_pos hh]; simp
      have e2 : leftB L (n : Int) = true := by unfold leftB; exact decide_eq_true hh
      rw [e1, e2]
      generalize L n = x at *
      have hz' : (x == 0) = false := by rw [beq_eq_false_iff_ne]; exact hz
      clear h hL e1 e2 hz hl hh
      go_enter Try.func18, Try.ntmps18
      go_wp2_with fail
      go_ret2
      exact ⟨rfl, rfl⟩
  · have e1 : leftN L name = 0 := by unfold leftN; rw [if_neg]; rintro ⟨k1, k2, k⟩; exact g ⟨k1, k2⟩
    have e2 : leftB L name = false := by unfold leftB; rw [decide_eq_false_iff_not]; rintro ⟨k1, k2, k⟩; exact g ⟨k1, k2⟩
    rw [e1, e2]
    clear e1 e2 h hL
    by_cases g0 : name < 0
    · have q0 : decide (name < 0) = true := decide_eq_true g0
      clear g g0
      go_enter Try.func18, Try.ntmps18
      go_wp2_with fail
      go_ret2
      exact ⟨rfl, rfl⟩
    · have q0 : decide (name < 0) = false := decide_eq_false g0
      have q1 : decide (16 ≤ name) = true := by rw [decide_eq_true_iff]; omega
      clear g g0
      go_enter Try.func18, Try.ntmps18
      go_wp2_with fail
      go_ret2
      exact ⟨rfl, rfl⟩

/-- The least of the first i that run. -/
def accI (L : Nat → Int) (i : Nat) : Option Int := ((((List.range i).filter fun j => decide (0 < L j))).map L).foldl least none
theorem accI_all (L : Nat → Int) : accI L 16 = nextK L (running L).length := by
  unfold accI nextK
  rw [List.take_of_length_le (Nat.le_refl _)]
  rfl
theorem accI_succ (L : Nat → Int) (i : Nat) : accI L (i + 1) = if 0 < L i then least (accI L i) (L i) else accI L i := by
  unfold accI
  rw [List.range_succ, List.filter_append]
  by_cases h : 0 < L i
  · simp [h]
  · simp [h]
theorem accI_pos (L : Nat → Int) (i : Nat) : ∀ m, accI L i = some m → 0 < m := by
  induction i with
  | zero => intro m h; simp [accI] at h
  | succ i ih =>
    intro m h
    rw [accI_succ] at h
    by_cases c : 0 < L i
    · rw [if_pos c] at h
      unfold least at h
      cases ha : accI L i with
      | none => rw [ha] at h; simp at h; omega
      | some x =>
        rw [ha] at h
        have := ih x ha
        simp only at h
        split at h <;> (injection h with h; omega)
    · rw [if_neg c] at h; exact ih m h

set_option maxHeartbeats 1000000 in
theorem rnext_any (c : Nat) (L A : Nat → Int) (w : World) (h : RClk w c L A) :
    Calls Try.prog 22 #[.pointer (some ⟨c, 0, none⟩)] w fun e w' => e = .returned (.tuple #[.int .i64 (nextN L), .bool (nextB L)]) ∧ w = w' := by
  have HC := Lib.hid h
  have HF : Hid (nextN L = (accI L 16).getD 0 ∧ nextB L = (accI L 16).isSome) := by unfold nextN nextB; rw [accI_all]; exact ⟨rfl, rfl⟩
  generalize nextN L = N at *
  generalize nextB L = B at *
  clear h
  go_enter Try.func22, Try.ntmps22
  go_wp2_with fail
  go_loop [4, 5] (fun n i => ∃ k : Nat, k ≤ 16 ∧ i = .int .i64 k ∧ n = .int .i64 ((accI L k).getD 0)) (fun _ i => 16 - (intOf i).toNat)
  case atStart => exact ⟨0, by omega, rfl, rfl⟩
  case round =>
    obtain ⟨k, hk, rfl, rfl⟩ := hrel
    by_cases hk16 : k < 16
    · have d1 : (k : Int) < 16 := by omega
      have d0 := HC.out.left k hk16
      have hs := accI_succ L k
      have hp := accI_pos L k
      generalize L k = x at *
      cases ha : accI L k with
      | none =>
        rw [ha] at hs
        have HS := Lib.hid hs
        have HA := Lib.hid ha
        clear hs hp ha
        by_cases hx : 0 < x
        · have hxb : decide (0 < x) = true := decide_eq_true hx
          go_wp2_with fail
          go_round
          case rel => exact ⟨k + 1, by omega, by go_num, by rw [HS.out, if_pos hx]; rfl⟩
          case measure => simp [intOf]; omega
        · have hxb : decide (0 < x) = false := decide_eq_false hx
          go_wp2_with fail
          go_round
          case rel => exact ⟨k + 1, by omega, by go_num, by rw [HS.out, if_neg hx]⟩
          case measure => simp [intOf]; omega
      | some m =>
        rw [ha] at hs
        have hm := hp m ha
        have hm0 : (m == 0) = false := by rw [beq_eq_false_iff_ne]; omega
        have HS := Lib.hid hs
        have HA := Lib.hid ha
        clear hs hp ha
        simp only [Option.getD_some]
        by_cases hx : 0 < x
        · have hxb : decide (0 < x) = true := decide_eq_true hx
          by_cases hxm : x < m
          · have hxb2 : decide (x < m) = true := decide_eq_true hxm
            go_wp2_with fail
            go_round
            case rel => exact ⟨k + 1, by omega, by go_num, by rw [HS.out, if_pos hx]; simp [least, hxm]⟩
            case measure => simp [intOf]; omega
          · have hxb2 : decide (x < m) = false := decide_eq_false hxm
            go_wp2_with fail
            go_round
            case rel => exact ⟨k + 1, by omega, by go_num, by rw [HS.out, if_pos hx]; simp [least, hxm]⟩
            case measure => simp [intOf]; omega
        · have hxb : decide (0 < x) = false := decide_eq_false hx
          go_wp2_with fail
          go_round
          case rel => exact ⟨k + 1, by omega, by go_num, by rw [HS.out, if_neg hx]; rfl⟩
          case measure => simp [intOf]; omega
    · obtain rfl : k = 16 := by omega
      obtain ⟨h1, h2⟩ := HF.out
      have hp := accI_pos L 16
      cases ha : accI L 16 with
      | none =>
        rw [ha] at h1 h2
        subst h1 h2
        clear hp ha
        simp only [Option.getD_none]
        go_wp2_with fail
        go_ret2
        exact ⟨rfl, rfl⟩
      | some m =>
        rw [ha] at h1 h2
        have hm := hp m ha
        simp only [Option.getD_some, Option.isSome_some] at h1 h2
        rw [← h1] at hm
        have hm0 : decide (0 < N) = true := decide_eq_true hm
        subst h2
        clear hp ha
        simp only [Option.getD_some]
        rw [← h1]
        clear h1
        go_wp2_with fail
        go_ret2
        exact ⟨rfl, rfl⟩
end Go.Proofs.Ytcicmpegajahkaa
