/-
  CONTRACTS of Restricted, canid's and the document's; equality of structs.
-/
import Derived.Test.YtagkbacgdkbbeaaIds
set_option linter.unusedSimpArgs false
set_option linter.unusedVariables false
namespace Go.Proofs.Ytagkbacgdkbbeaa
open Go.RowKit
attribute [local go_sem] Oper.semAt_some

def restr (id : Int) : Prop := id < 128 ∨ 2047 < id ∨ (257 ≤ id ∧ id ≤ 384) ∨ (1409 ≤ id ∧ id ≤ 1535) ∨ (1537 ≤ id ∧ id ≤ 1663) ∨ (1760 ≤ id ∧ id ≤ 1791) ∨ 1792 < id
instance (id : Int) : Decidable (restr id) := by unfold restr; infer_instance

set_option maxHeartbeats 1000000 in
theorem restr_any (id : Int) (w : World) : Calls Try.prog 27 #[.int .i64 id] w fun e w' => e = .returned (.bool (decide (restr id))) ∧ w = w' := by
  by_cases c0 : id < 128
  · rw [decide_eq_true (show restr id from .inl c0)]
    go_enter Try.func27, Try.ntmps27
    go_wp2_with fail
    go_ret
    exact ⟨rfl, rfl⟩
  by_cases c1 : 2047 < id
  · rw [decide_eq_true (show restr id from .inr (.inl c1))]
    clear c0
    have d0 : ¬ id < 128 := by omega
    go_enter Try.func27, Try.ntmps27
    go_wp2_with fail
    go_ret
    exact ⟨rfl, rfl⟩
  have h0 : 128 ≤ id := by omega
  have h1 : id ≤ 2047 := by omega
  clear c0 c1
  by_cases c2 : 257 ≤ id ∧ id ≤ 384
  · rw [decide_eq_true (show restr id from .inr (.inr (.inl c2)))]
    go_enter Try.func27, Try.ntmps27
    go_wp2_with fail
    refine (between_yes _ _ _ c2.1 c2.2 _).mono ?_
    rintro e w' ⟨rfl, rfl⟩
    go_wp2_with fail
    go_ret
    exact ⟨rfl, rfl⟩
  have c2' : id < 257 ∨ 384 < id := by omega
  by_cases c3 : 1409 ≤ id ∧ id ≤ 1535
  · rw [decide_eq_true (show restr id from .inr (.inr (.inr (.inl c3))))]
    clear c2
    go_enter Try.func27, Try.ntmps27
    go_wp2_with fail
    refine (between_no _ _ _ c2' _).mono ?_
    rintro e w' ⟨rfl, rfl⟩
    go_wp2_with fail
    refine (between_yes _ _ _ c3.1 c3.2 _).mono ?_
    rintro e w' ⟨rfl, rfl⟩
    go_wp2_with fail
    go_ret
    exact ⟨rfl, rfl⟩
  have c3' : id < 1409 ∨ 1535 < id := by omega
  by_cases c4 : 1537 ≤ id ∧ id ≤ 1663
  · rw [decide_eq_true (show restr id from .inr (.inr (.inr (.inr (.inl c4)))))]
    clear c2 c3
    go_enter Try.func27, Try.ntmps27
    go_wp2_with fail
    refine (between_no _ _ _ c2' _).mono ?_
    rintro e w' ⟨rfl, rfl⟩
    go_wp2_with fail
    refine (between_no _ _ _ c3' _).mono ?_
    rintro e w' ⟨rfl, rfl⟩
    go_wp2_with fail
    refine (between_yes _ _ _ c4.1 c4.2 _).mono ?_
    rintro e w' ⟨rfl, rfl⟩
    go_wp2_with fail
    go_ret
    exact ⟨rfl, rfl⟩
  have c4' : id < 1537 ∨ 1663 < id := by omega
  by_cases c5 : 1760 ≤ id ∧ id ≤ 1791
  · rw [decide_eq_true (show restr id from .inr (.inr (.inr (.inr (.inr (.inl c5))))))]
    clear c2 c3 c4
    go_enter Try.func27, Try.ntmps27
    go_wp2_with fail
    refine (between_no _ _ _ c2' _).mono ?_
    rintro e w' ⟨rfl, rfl⟩
    go_wp2_with fail
    refine (between_no _ _ _ c3' _).mono ?_
    rintro e w' ⟨rfl, rfl⟩
    go_wp2_with fail
    refine (between_no _ _ _ c4' _).mono ?_
    rintro e w' ⟨rfl, rfl⟩
    go_wp2_with fail
    refine (between_yes _ _ _ c5.1 c5.2 _).mono ?_
    rintro e w' ⟨rfl, rfl⟩
    go_wp2_with fail
    go_ret
    exact ⟨rfl, rfl⟩
  have c5' : id < 1760 ∨ 1791 < id := by omega
  have e : decide (restr id) = decide (1792 < id) := by
    rw [decide_eq_decide]; unfold restr; omega
  rw [e]
  clear e c2 c3 c4 c5
  go_enter Try.func27, Try.ntmps27
  go_wp2_with fail
  refine (between_no _ _ _ c2' _).mono ?_
  rintro e w' ⟨rfl, rfl⟩
  go_wp2_with fail
  refine (between_no _ _ _ c3' _).mono ?_
  rintro e w' ⟨rfl, rfl⟩
  go_wp2_with fail
  refine (between_no _ _ _ c4' _).mono ?_
  rintro e w' ⟨rfl, rfl⟩
  go_wp2_with fail
  refine (between_no _ _ _ c5' _).mono ?_
  rintro e w' ⟨rfl, rfl⟩
  go_wp2_with fail
  go_ret
  exact ⟨rfl, rfl⟩

set_option maxHeartbeats 1000000 in
theorem rrestr_any (id : Int) (w : World) : Calls Try.prog 28 #[.int .i64 id] w fun e w' => e = .returned (.bool (decide (restr id))) ∧ w = w' := by
  have key : ∀ b : Bool, (b = true ↔ restr id) → Ending.returned (.bool b) = Ending.returned (.bool (decide (restr id))) := by
    intro b hb
    by_cases h : restr id
    · rw [decide_eq_true h, hb.2 h]
    · rw [decide_eq_false h]
      cases b
      · rfl
      · exact absurd (hb.1 rfl) h
  have HK := Lib.hid key
  clear key
  generalize hd : decide (restr id) = d at *
  clear hd
  go_enter Try.func28, Try.ntmps28
  go_wp2
  all_goals
    go_ret
    refine ⟨HK.out _ ?_, rfl⟩
    unfold restr
    simp
    try omega
end Go.Proofs.Ytagkbacgdkbbeaa
