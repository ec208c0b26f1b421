/-
  CONTRACT of the document's Id.
-/
import Derived.Test.YtagkbacgdkbbeaaIds
import Derived.IntWalk
set_option linter.unusedSimpArgs false
set_option linter.unusedVariables false
namespace Go.Proofs.Ytagkbacgdkbbeaa
open Go.RowKit
attribute [local go_sem] Oper.semAt_some

set_option maxHeartbeats 1000000 in
theorem rid_yes (k n d : Int) (w : World) (h : okN k n d) : Calls Try.prog 23 #[.agg #[.int .i64 k, .int .i64 n, .int .i64 d]] w fun e w' => e = .returned (.tuple #[.int .i64 (idN k n d), .int .i64 (idE k n d)]) ∧ Below w.heap.size w w' := by
  rw [(idN_yes h).1, (idN_yes h).2]
  have hb : Below w.heap.size w ((w.alloc (.cells #[.int .i64 k, .int .i64 n, .int .i64 d] 53)).alloc (.cells #[.int .i64 0, .int .i64 0, .int .i64 128, .int .i64 256, .int .i64 128, .int .i64 128, .int .i64 256, .int .i64 1408, .int .i64 1536, .int .i64 1792] 3)) := ((Below.refl _ w).alloc (Nat.le_refl _) _).alloc (by simp) _
  have HB := Lib.hid hb
  clear hb
  rcases h with ⟨h1, h2, rfl, rfl⟩ | ⟨h1, h2, h3, h4, h5⟩ | ⟨h1, rfl, h4, h5⟩
  · have : k = 1 ∨ k = 2 ∨ k = 3 := by omega
    clear h1 h2
    rcases this with rfl | rfl | rfl <;>
    · simp only [bN]
      go_enter Try.func23, Try.ntmps23
      go_wp2_with fail
      go_quiet (fail)
      go_wp2_with fail
      go_ret2
      exact ⟨rfl, HB.out.trans ⟨rfl, rfl, rfl, Nat.le_refl _, fun _ _ => rfl⟩⟩
  · have n1 : decide (n < 1) = false := by rw [decide_eq_false_iff_not]; omega
    have n4 : decide (4 < n) = false := by rw [decide_eq_false_iff_not]; omega
    have d1 : decide (d < 1) = false := by rw [decide_eq_false_iff_not]; omega
    have d4 : decide (127 < d) = false := by rw [decide_eq_false_iff_not]; omega
    have w0 : IntKind.i64.wrap (256 * n) = 256 * n := IntWalk.i64_in _ (by omega)
    rcases h1 with rfl | rfl
    · have w1 : IntKind.i64.wrap (128 + 256 * n) = 128 + 256 * n := IntWalk.i64_in _ (by omega)
      have w2 : IntKind.i64.wrap (128 + 256 * n + d) = 128 + 256 * n + d := IntWalk.i64_in _ (by omega)
      simp only [bN]
      go_enter Try.func23, Try.ntmps23
      go_wp2_with fail
      go_quiet (fail)
      go_wp2_with fail
      go_ret2
      exact ⟨rfl, HB.out.trans ⟨rfl, rfl, rfl, Nat.le_refl _, fun _ _ => rfl⟩⟩
    · have w1 : IntKind.i64.wrap (256 + 256 * n) = 256 + 256 * n := IntWalk.i64_in _ (by omega)
      have w2 : IntKind.i64.wrap (256 + 256 * n + d) = 256 + 256 * n + d := IntWalk.i64_in _ (by omega)
      simp only [bN]
      go_enter Try.func23, Try.ntmps23
      go_wp2_with fail
      go_quiet (fail)
      go_wp2_with fail
      go_ret2
      exact ⟨rfl, HB.out.trans ⟨rfl, rfl, rfl, Nat.le_refl _, fun _ _ => rfl⟩⟩
  · have d1 : decide (d < 1) = false := by rw [decide_eq_false_iff_not]; omega
    have d4 : decide (127 < d) = false := by rw [decide_eq_false_iff_not]; omega
    have w1 : IntKind.i64.wrap (128 + d) = 128 + d := IntWalk.i64_in _ (by omega)
    have w2 : IntKind.i64.wrap (1408 + d) = 1408 + d := IntWalk.i64_in _ (by omega)
    have w3 : IntKind.i64.wrap (1536 + d) = 1536 + d := IntWalk.i64_in _ (by omega)
    have w4 : IntKind.i64.wrap (1792 + d) = 1792 + d := IntWalk.i64_in _ (by omega)
    rcases h1 with rfl | rfl | rfl | rfl <;>
    · simp only [bN]
      go_enter Try.func23, Try.ntmps23
      go_wp2_with fail
      go_quiet (fail)
      go_wp2_with fail
      go_ret2
      exact ⟨rfl, HB.out.trans ⟨rfl, rfl, rfl, Nat.le_refl _, fun _ _ => rfl⟩⟩

set_option maxHeartbeats 1000000 in
theorem rid_no (k n d : Int) (w : World) (h : ¬ okN k n d) : Calls Try.prog 23 #[.agg #[.int .i64 k, .int .i64 n, .int .i64 d]] w fun e w' => e = .returned (.tuple #[.int .i64 (idN k n d), .int .i64 (idE k n d)]) ∧ Below w.heap.size w w' := by
  rw [(idN_no h).1, (idN_no h).2]
  have hb : Below w.heap.size w (w.alloc (.cells #[.int .i64 k, .int .i64 n, .int .i64 d] 53)) := (Below.refl _ w).alloc (Nat.le_refl _) _
  have HB := Lib.hid hb
  clear hb
  unfold okN at h
  by_cases c0 : k < 1
  · have k1 : decide (k < 1) = true := by rw [decide_eq_true_iff]; omega
    have k5 : (k == 5) = false := by rw [beq_eq_false_iff_ne]; omega
    have k6 : (k == 6) = false := by rw [beq_eq_false_iff_ne]; omega
    clear h c0
    go_enter Try.func23, Try.ntmps23
    go_wp2_with fail
    go_ret2
    exact ⟨rfl, HB.out⟩
  by_cases c9 : 9 < k
  · have k1 : decide (k < 1) = false := by rw [decide_eq_false_iff_not]; omega
    have k9 : decide (9 < k) = true := by rw [decide_eq_true_iff]; omega
    have k5 : (k == 5) = false := by rw [beq_eq_false_iff_ne]; omega
    have k6 : (k == 6) = false := by rw [beq_eq_false_iff_ne]; omega
    clear h c0 c9
    go_enter Try.func23, Try.ntmps23
    go_wp2_with fail
    go_ret2
    exact ⟨rfl, HB.out⟩
  by_cases c2 : k = 5 ∨ k = 6
  · by_cases n1 : n < 1
    · have n1' : decide (n < 1) = true := by rw [decide_eq_true_iff]; omega
      clear h c0 c9 n1
      rcases c2 with rfl | rfl <;>
      · skip
        go_enter Try.func23, Try.ntmps23
        go_wp2_with fail
        go_ret2
        exact ⟨rfl, HB.out⟩
    have n1' : decide (n < 1) = false := by rw [decide_eq_false_iff_not]; omega
    by_cases n4 : 4 < n
    · have n4' : decide (4 < n) = true := by rw [decide_eq_true_iff]; omega
      clear h c0 c9 n1 n4
      rcases c2 with rfl | rfl <;>
      · skip
        go_enter Try.func23, Try.ntmps23
        go_wp2_with fail
        go_ret2
        exact ⟨rfl, HB.out⟩
    have n4' : decide (4 < n) = false := by rw [decide_eq_false_iff_not]; omega
    by_cases d1 : d < 1
    · have d1' : decide (d < 1) = true := by rw [decide_eq_true_iff]; omega
      clear h c0 c9 n1 n4 d1
      rcases c2 with rfl | rfl <;>
      · skip
        go_enter Try.func23, Try.ntmps23
        go_wp2_with fail
        go_ret2
        exact ⟨rfl, HB.out⟩
    have d1' : decide (d < 1) = false := by rw [decide_eq_false_iff_not]; omega
    have d4' : decide (127 < d) = true := by rw [decide_eq_true_iff]; omega
    clear h c0 c9 n1 n4 d1
    rcases c2 with rfl | rfl <;>
    · skip
      go_enter Try.func23, Try.ntmps23
      go_wp2_with fail
      go_ret2
      exact ⟨rfl, HB.out⟩
  by_cases n0 : n = 0
  · subst n0
    by_cases c3 : k ≤ 3
    · have d0 : (d != 0) = true := by rw [bne_iff_ne]; omega
      have : k = 1 ∨ k = 2 ∨ k = 3 := by omega
      clear h c0 c9 c2 c3
      rcases this with rfl | rfl | rfl <;>
      · skip
        go_enter Try.func23, Try.ntmps23
        go_wp2_with fail
        go_ret2
        exact ⟨rfl, HB.out⟩
    have c4 : k = 4 ∨ k = 7 ∨ k = 8 ∨ k = 9 := by omega
    by_cases d1 : d < 1
    · have d1' : decide (d < 1) = true := by rw [decide_eq_true_iff]; omega
      clear h c0 c9 c2 c3 d1
      rcases c4 with rfl | rfl | rfl | rfl <;>
      · skip
        go_enter Try.func23, Try.ntmps23
        go_wp2_with fail
        go_ret2
        exact ⟨rfl, HB.out⟩
    have d1' : decide (d < 1) = false := by rw [decide_eq_false_iff_not]; omega
    have d4' : decide (127 < d) = true := by rw [decide_eq_true_iff]; omega
    clear h c0 c9 c2 c3 d1
    rcases c4 with rfl | rfl | rfl | rfl <;>
    · skip
      go_enter Try.func23, Try.ntmps23
      go_wp2_with fail
      go_ret2
      exact ⟨rfl, HB.out⟩
  have n0' : (n != 0) = true := by rw [bne_iff_ne]; omega
  have c4 : k = 1 ∨ k = 2 ∨ k = 3 ∨ k = 4 ∨ k = 7 ∨ k = 8 ∨ k = 9 := by omega
  clear h c0 c9 c2 n0
  rcases c4 with rfl | rfl | rfl | rfl | rfl | rfl | rfl <;>
  · skip
    go_enter Try.func23, Try.ntmps23
    go_wp2_with fail
    go_ret2
    exact ⟨rfl, HB.out⟩

theorem rid_any (k n d : Int) (w : World) : Calls Try.prog 23 #[.agg #[.int .i64 k, .int .i64 n, .int .i64 d]] w fun e w' => e = .returned (.tuple #[.int .i64 (idN k n d), .int .i64 (idE k n d)]) ∧ Below w.heap.size w w' := by
  by_cases h : okN k n d
  · exact rid_yes k n d w h
  · exact rid_no k n d w h
end Go.Proofs.Ytagkbacgdkbbeaa
