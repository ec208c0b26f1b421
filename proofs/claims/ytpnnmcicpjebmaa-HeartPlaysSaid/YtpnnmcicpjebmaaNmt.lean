/-
  CONTRACTS of nmt's functions and the document's, on numbers alone.
-/
import Derived.Test.YtpnnmcicpjebmaaChecked
import Derived.Test.YtpnnmcicpjebmaaAid
import Derived.BigQuiet
import Derived.Deep.QuietTactic
import Derived.Handy
import Derived.Deep.Light
set_option linter.unusedSimpArgs false
set_option linter.unusedVariables false
namespace Go.Proofs.Ytpnnmcicpjebmaa
open Go.RowKit
attribute [local go_sem] Oper.semAt_some

theorem ret_bool {p : Prop} [Decidable p] {b : Bool} (h : b = true ↔ p) : Ending.returned (.bool b) = .returned (.bool (decide p)) := by
  by_cases hp : p
  · rw [decide_eq_true hp, h.2 hp]
  · rw [decide_eq_false hp]
    cases b
    · rfl
    · exact absurd (h.1 rfl) hp
theorem ret_int {k : IntKind} {a b : Int} (h : a = b) : Ending.returned (.int k a) = .returned (.int k b) := by rw [h]
theorem ret_ii {k l : IntKind} {a b c d : Int} (h : a = b) (h2 : c = d) : Ending.returned (.tuple #[.int k a, .int l c]) = .returned (.tuple #[.int k b, .int l d]) := by rw [h, h2]
theorem ret_ib {p : Prop} [Decidable p] {k : IntKind} {a b : Int} {c : Bool} (h : a = b) (h2 : c = true ↔ p) : Ending.returned (.tuple #[.int k a, .bool c]) = .returned (.tuple #[.int k b, .bool (decide p)]) := by
  have := ret_bool h2
  rw [h]
  injection this with this
  injection this with this
  rw [this]

def knS (s : Int) : Prop := s = 0 ∨ s = 4 ∨ s = 5 ∨ s = 127
instance (s : Int) : Decidable (knS s) := by unfold knS; infer_instance
def tgN (c : Int) : Int := if c = 1 then 5 else if c = 2 then 4 else if c = 128 then 127 else 0
def tgB (c : Int) : Prop := c = 1 ∨ c = 2 ∨ c = 128 ∨ c = 129 ∨ c = 130
instance (c : Int) : Decidable (tgB c) := by unfold tgB; infer_instance

theorem kn_any (s : Int) (w : World) : Calls Try.prog 26 #[.int .i64 s] w fun e w' => e = .returned (.bool (decide (knS s))) ∧ w = w' := by
  go_enter Try.func26, Try.ntmps26
  go_wp2
  all_goals
    go_ret
    refine ⟨ret_bool ?_, rfl⟩
    go_light
    unfold knS
    simp_all
    try omega

theorem rkn_any (s : Int) (w : World) : Calls Try.prog 27 #[.int .i64 s] w fun e w' => e = .returned (.bool (decide (knS s))) ∧ w = w' := by
  go_enter Try.func27, Try.ntmps27
  go_wp2
  all_goals
    go_ret
    refine ⟨ret_bool ?_, rfl⟩
    go_light
    unfold knS
    simp_all
    try omega

theorem target_any (c : Int) (w : World) : Calls Try.prog 52 #[.int .i64 c] w fun e w' => e = .returned (.tuple #[.int .i64 (tgN c), .bool (decide (tgB c))]) ∧ w = w' := by
  go_enter Try.func52, Try.ntmps52
  go_wp2
  all_goals
    go_ret2
    refine ⟨ret_ib ?_ ?_, rfl⟩
    · go_light; unfold tgN; simp_all
    · go_light; unfold tgB; simp_all; try omega

def svB (s v : Int) : Prop := (s = 5 ∧ 1 ≤ v ∧ v ≤ 6) ∨ (s = 127 ∧ 2 ≤ v ∧ v ≤ 6) ∨ (s = 4 ∧ 5 ≤ v ∧ v ≤ 6)
instance (s v : Int) : Decidable (svB s v) := by unfold svB; infer_instance

theorem sv_any (s v : Int) (w : World) : Calls Try.prog 28 #[.int .i64 s, .int .i64 v] w fun e w' => e = .returned (.bool (decide (svB s v))) ∧ w = w' := by
  go_enter Try.func28, Try.ntmps28
  go_wp2
  all_goals
    go_ret
    refine ⟨ret_bool ?_, rfl⟩
    go_light
    unfold svB
    simp_all
    try omega

theorem rsv_any (s v : Int) (w : World) : Calls Try.prog 29 #[.int .i64 s, .int .i64 v] w fun e w' => e = .returned (.bool (decide (svB s v))) ∧ w = w' := by
  go_enter Try.func29, Try.ntmps29
  go_wp2
  all_goals
    go_ret
    refine ⟨ret_bool ?_, rfl⟩
    go_light
    unfold svB
    simp_all
    try omega

def nxOk (s c : Int) : Prop := knS s ∧ s ≠ 0 ∧ tgB c
instance (s c : Int) : Decidable (nxOk s c) := by unfold nxOk; infer_instance
def nxS (s c : Int) : Int := if nxOk s c then tgN c else s
def nxR (s c : Int) : Int := if nxOk s c ∧ tgN c = 0 then c else 0

theorem next_any (s c : Int) (w : World) : Calls Try.prog 24 #[.int .i64 s, .int .i64 c] w fun e w' => e = .returned (.tuple #[.int .i64 (nxS s c), .int .i64 (nxR s c)]) ∧ w = w' := by
  go_enter Try.func24, Try.ntmps24
  go_wp2_with (first | (go_at_call 52; refine (target_any _ _).mono ?_; rintro e w' ⟨rfl, rfl⟩) | (go_at_call 26; refine (kn_any _ _).mono ?_; rintro e w' ⟨rfl, rfl⟩))
  all_goals
    go_ret2
    refine ⟨ret_ii ?_ ?_, rfl⟩
    · go_light; unfold nxS nxOk; simp_all
    · go_light; unfold nxR nxOk; simp_all
theorem rnext_any (s c : Int) (w : World) : Calls Try.prog 25 #[.int .i64 s, .int .i64 c] w fun e w' => e = .returned (.tuple #[.int .i64 (nxS s c), .int .i64 (nxR s c)]) ∧ w = w' := by
  go_enter Try.func25, Try.ntmps25
  go_wp2_with (go_at_call 27; refine (rkn_any _ _).mono ?_; rintro e w' ⟨rfl, rfl⟩)
  all_goals
    go_ret2
    refine ⟨ret_ii ?_ ?_, rfl⟩
    · go_light; unfold nxS nxOk tgB tgN; simp_all
    · go_light; unfold nxR nxOk tgB tgN; simp_all
end Go.Proofs.Ytpnnmcicpjebmaa
