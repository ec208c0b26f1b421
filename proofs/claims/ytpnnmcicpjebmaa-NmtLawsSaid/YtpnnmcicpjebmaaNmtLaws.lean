/-
  LAWS NmtSteps and NmtLaws: the walks.
-/
import Derived.Test.YtpnnmcicpjebmaaKnown25
set_option linter.unusedSimpArgs false
set_option linter.unusedVariables false
namespace Go.Proofs.Ytpnnmcicpjebmaa
open Go.RowKit
attribute [local go_sem] Oper.semAt_some

set_option maxRecDepth 100000 in
set_option maxHeartbeats 1000000 in
theorem steps_walk (s c v : Int) (w : World) : Calls Try.prog 6 #[.int .i64 s, .int .i64 c, .int .i64 v] w fun e w' => e = .returned (.bool true) ∧ Below w.heap.size w w' := by
  go_enter Try.func6, Try.ntmps6
  go_wp2_with fail
  refine (next_any s c _).mono ?_
  rintro e w1 ⟨rfl, rfl⟩
  go_wp2_with fail
  refine (rnext_any s c _).mono ?_
  rintro e w1 ⟨rfl, rfl⟩
  generalize nxS s c = x at *
  generalize nxR s c = y at *
  go_wp2_with fail
  refine (kn_any s _).mono ?_
  rintro e w1 ⟨rfl, rfl⟩
  go_wp2_with fail
  refine (rkn_any s _).mono ?_
  rintro e w1 ⟨rfl, rfl⟩
  generalize decide (knS s) = k at *
  go_wp2_with fail
  refine (sv_any s v _).mono ?_
  rintro e w1 ⟨rfl, rfl⟩
  go_wp2_with fail
  refine (rsv_any s v _).mono ?_
  rintro e w1 ⟨rfl, rfl⟩
  generalize decide (svB s v) = z at *
  go_wp2_with fail
  refine (known25 _).mono ?_
  rintro e w1 ⟨rfl, hb⟩
  go_wp2_with fail
  go_ret
  exact ⟨rfl, hb⟩

theorem steps_frame (a0 a1 a2 : Int) (w : World) (w0 : (Lit.int .i64 a0).wf = true) (w1 : (Lit.int .i64 a1).wf = true) (w2 : (Lit.int .i64 a2).wf = true) :
    Calls Try.prog 6 #[.int .i64 a0, .int .i64 a1, .int .i64 a2] w fun e w' => e = .returned (.bool true) ∧ Below w.heap.size w w' := steps_walk a0 a1 a2 w

theorem nx_no (s c : Int) (h : ¬ tgB c) : nxS s c = s ∧ nxR s c = 0 := by
  unfold nxS nxR
  exact ⟨if_neg (fun k => h k.2.2), if_neg (fun k => h k.1.2.2)⟩
theorem nx_0 (c : Int) : nxS 0 c = 0 ∧ nxR 0 c = 0 := by
  unfold nxS nxR
  exact ⟨if_neg (fun k => k.2.1 rfl), if_neg (fun k => k.1.2.1 rfl)⟩
theorem sv_imp (v : Int) (h : svB 4 v) : svB 127 v ∧ svB 5 v := by unfold svB at *; omega
theorem sv_0 (v : Int) : decide (svB 0 v) = false := by rw [decide_eq_false_iff_not]; unfold svB; omega

set_option maxRecDepth 100000 in
set_option maxHeartbeats 1000000 in
theorem laws_1 (v : Int) (w : World) : Calls Try.prog 7 #[.int .i64 1, .int .i64 v] w fun e w' => e = .returned (.bool true) ∧ Below w.heap.size w w' := by
  have HS := Lib.hid (sv_imp v)
  have HZ := Lib.hid (sv_0 v)
  have HN := Lib.hid (nx_0 (1))
  generalize hp : decide (svB 4 v) = p at *
  have HP := Lib.hid hp
  clear hp
  go_enter Try.func7, Try.ntmps7
  go_wp2_with fail
  refine (next_any 127 1 _).mono ?_
  rintro e w1 ⟨rfl, rfl⟩
  rw [show nxS 127 1 = 5 by decide +kernel, show nxR 127 1 = 0 by decide +kernel]
  go_wp2_with fail
  refine (next_any 5 1 _).mono ?_
  rintro e w1 ⟨rfl, rfl⟩
  rw [show nxS 5 1 = 5 by decide +kernel, show nxR 5 1 = 0 by decide +kernel]
  go_wp2_with fail
  refine (next_any 4 1 _).mono ?_
  rintro e w1 ⟨rfl, rfl⟩
  rw [show nxS 4 1 = 5 by decide +kernel, show nxR 4 1 = 0 by decide +kernel]
  go_wp2_with fail
  refine (next_any 0 1 _).mono ?_
  rintro e w1 ⟨rfl, rfl⟩
  rw [HN.out.1, HN.out.2]
  go_wp2_with fail
  refine (kn_any 5 _).mono ?_
  rintro e w1 ⟨rfl, rfl⟩
  rw [show decide (knS 5) = true by decide +kernel]
  go_wp2_with fail
  refine (kn_any 5 _).mono ?_
  rintro e w1 ⟨rfl, rfl⟩
  rw [show decide (knS 5) = true by decide +kernel]
  go_wp2_with fail
  refine (kn_any 5 _).mono ?_
  rintro e w1 ⟨rfl, rfl⟩
  rw [show decide (knS 5) = true by decide +kernel]
  go_wp2_with fail
  refine (sv_any 127 1 _).mono ?_
  rintro e w1 ⟨rfl, rfl⟩
  rw [show decide (svB 127 1) = false by decide +kernel]
  go_wp2_with fail
  refine (sv_any 4 1 _).mono ?_
  rintro e w1 ⟨rfl, rfl⟩
  rw [show decide (svB 4 1) = false by decide +kernel]
  go_wp2_with fail
  refine (sv_any 0 v _).mono ?_
  rintro e w1 ⟨rfl, rfl⟩
  rw [HZ.out]
  go_wp2_with fail
  refine (sv_any 4 2 _).mono ?_
  rintro e w1 ⟨rfl, rfl⟩
  rw [show decide (svB 4 2) = false by decide +kernel]
  go_wp2_with fail
  refine (sv_any 4 3 _).mono ?_
  rintro e w1 ⟨rfl, rfl⟩
  rw [show decide (svB 4 3) = false by decide +kernel]
  go_wp2_with fail
  refine (sv_any 4 4 _).mono ?_
  rintro e w1 ⟨rfl, rfl⟩
  rw [show decide (svB 4 4) = false by decide +kernel]
  go_wp2_with fail
  refine (sv_any 4 v _).mono ?_
  rintro e w1 ⟨rfl, rfl⟩
  rw [HP.out]
  cases p
  · go_wp2_with fail
    refine (known25 _).mono ?_
    rintro e w1 ⟨rfl, hb⟩
    go_wp2_with fail
    go_ret
    exact ⟨rfl, hb⟩
  · obtain ⟨q1, q2⟩ := HS.out (of_decide_eq_true HP.out)
    have Q1 := Lib.hid (decide_eq_true q1)
    have Q2 := Lib.hid (decide_eq_true q2)
    clear q1 q2
    go_wp2_with fail
    refine (sv_any 127 v _).mono ?_
    rintro e w1 ⟨rfl, rfl⟩
    rw [Q1.out]
    go_wp2_with fail
    refine (sv_any 5 v _).mono ?_
    rintro e w1 ⟨rfl, rfl⟩
    rw [Q2.out]
    go_wp2_with fail
    refine (known25 _).mono ?_
    rintro e w1 ⟨rfl, hb⟩
    go_wp2_with fail
    go_ret
    exact ⟨rfl, hb⟩

set_option maxRecDepth 100000 in
set_option maxHeartbeats 1000000 in
theorem laws_2 (v : Int) (w : World) : Calls Try.prog 7 #[.int .i64 2, .int .i64 v] w fun e w' => e = .returned (.bool true) ∧ Below w.heap.size w w' := by
  have HS := Lib.hid (sv_imp v)
  have HZ := Lib.hid (sv_0 v)
  have HN := Lib.hid (nx_0 (2))
  generalize hp : decide (svB 4 v) = p at *
  have HP := Lib.hid hp
  clear hp
  go_enter Try.func7, Try.ntmps7
  go_wp2_with fail
  refine (next_any 127 2 _).mono ?_
  rintro e w1 ⟨rfl, rfl⟩
  rw [show nxS 127 2 = 4 by decide +kernel, show nxR 127 2 = 0 by decide +kernel]
  go_wp2_with fail
  refine (next_any 5 2 _).mono ?_
  rintro e w1 ⟨rfl, rfl⟩
  rw [show nxS 5 2 = 4 by decide +kernel, show nxR 5 2 = 0 by decide +kernel]
  go_wp2_with fail
  refine (next_any 4 2 _).mono ?_
  rintro e w1 ⟨rfl, rfl⟩
  rw [show nxS 4 2 = 4 by decide +kernel, show nxR 4 2 = 0 by decide +kernel]
  go_wp2_with fail
  refine (next_any 0 2 _).mono ?_
  rintro e w1 ⟨rfl, rfl⟩
  rw [HN.out.1, HN.out.2]
  go_wp2_with fail
  refine (kn_any 4 _).mono ?_
  rintro e w1 ⟨rfl, rfl⟩
  rw [show decide (knS 4) = true by decide +kernel]
  go_wp2_with fail
  refine (kn_any 4 _).mono ?_
  rintro e w1 ⟨rfl, rfl⟩
  rw [show decide (knS 4) = true by decide +kernel]
  go_wp2_with fail
  refine (kn_any 4 _).mono ?_
  rintro e w1 ⟨rfl, rfl⟩
  rw [show decide (knS 4) = true by decide +kernel]
  go_wp2_with fail
  refine (sv_any 127 1 _).mono ?_
  rintro e w1 ⟨rfl, rfl⟩
  rw [show decide (svB 127 1) = false by decide +kernel]
  go_wp2_with fail
  refine (sv_any 4 1 _).mono ?_
  rintro e w1 ⟨rfl, rfl⟩
  rw [show decide (svB 4 1) = false by decide +kernel]
  go_wp2_with fail
  refine (sv_any 0 v _).mono ?_
  rintro e w1 ⟨rfl, rfl⟩
  rw [HZ.out]
  go_wp2_with fail
  refine (sv_any 4 2 _).mono ?_
  rintro e w1 ⟨rfl, rfl⟩
  rw [show decide (svB 4 2) = false by decide +kernel]
  go_wp2_with fail
  refine (sv_any 4 3 _).mono ?_
  rintro e w1 ⟨rfl, rfl⟩
  rw [show decide (svB 4 3) = false by decide +kernel]
  go_wp2_with fail
  refine (sv_any 4 4 _).mono ?_
  rintro e w1 ⟨rfl, rfl⟩
  rw [show decide (svB 4 4) = false by decide +kernel]
  go_wp2_with fail
  refine (sv_any 4 v _).mono ?_
  rintro e w1 ⟨rfl, rfl⟩
  rw [HP.out]
  cases p
  · go_wp2_with fail
    refine (known25 _).mono ?_
    rintro e w1 ⟨rfl, hb⟩
    go_wp2_with fail
    go_ret
    exact ⟨rfl, hb⟩
  · obtain ⟨q1, q2⟩ := HS.out (of_decide_eq_true HP.out)
    have Q1 := Lib.hid (decide_eq_true q1)
    have Q2 := Lib.hid (decide_eq_true q2)
    clear q1 q2
    go_wp2_with fail
    refine (sv_any 127 v _).mono ?_
    rintro e w1 ⟨rfl, rfl⟩
    rw [Q1.out]
    go_wp2_with fail
    refine (sv_any 5 v _).mono ?_
    rintro e w1 ⟨rfl, rfl⟩
    rw [Q2.out]
    go_wp2_with fail
    refine (known25 _).mono ?_
    rintro e w1 ⟨rfl, hb⟩
    go_wp2_with fail
    go_ret
    exact ⟨rfl, hb⟩

set_option maxRecDepth 100000 in
set_option maxHeartbeats 1000000 in
theorem laws_128 (v : Int) (w : World) : Calls Try.prog 7 #[.int .i64 128, .int .i64 v] w fun e w' => e = .returned (.bool true) ∧ Below w.heap.size w w' := by
  have HS := Lib.hid (sv_imp v)
  have HZ := Lib.hid (sv_0 v)
  have HN := Lib.hid (nx_0 (128))
  generalize hp : decide (svB 4 v) = p at *
  have HP := Lib.hid hp
  clear hp
  go_enter Try.func7, Try.ntmps7
  go_wp2_with fail
  refine (next_any 127 128 _).mono ?_
  rintro e w1 ⟨rfl, rfl⟩
  rw [show nxS 127 128 = 127 by decide +kernel, show nxR 127 128 = 0 by decide +kernel]
  go_wp2_with fail
  refine (next_any 5 128 _).mono ?_
  rintro e w1 ⟨rfl, rfl⟩
  rw [show nxS 5 128 = 127 by decide +kernel, show nxR 5 128 = 0 by decide +kernel]
  go_wp2_with fail
  refine (next_any 4 128 _).mono ?_
  rintro e w1 ⟨rfl, rfl⟩
  rw [show nxS 4 128 = 127 by decide +kernel, show nxR 4 128 = 0 by decide +kernel]
  go_wp2_with fail
  refine (next_any 0 128 _).mono ?_
  rintro e w1 ⟨rfl, rfl⟩
  rw [HN.out.1, HN.out.2]
  go_wp2_with fail
  refine (kn_any 127 _).mono ?_
  rintro e w1 ⟨rfl, rfl⟩
  rw [show decide (knS 127) = true by decide +kernel]
  go_wp2_with fail
  refine (kn_any 127 _).mono ?_
  rintro e w1 ⟨rfl, rfl⟩
  rw [show decide (knS 127) = true by decide +kernel]
  go_wp2_with fail
  refine (kn_any 127 _).mono ?_
  rintro e w1 ⟨rfl, rfl⟩
  rw [show decide (knS 127) = true by decide +kernel]
  go_wp2_with fail
  refine (sv_any 127 1 _).mono ?_
  rintro e w1 ⟨rfl, rfl⟩
  rw [show decide (svB 127 1) = false by decide +kernel]
  go_wp2_with fail
  refine (sv_any 4 1 _).mono ?_
  rintro e w1 ⟨rfl, rfl⟩
  rw [show decide (svB 4 1) = false by decide +kernel]
  go_wp2_with fail
  refine (sv_any 0 v _).mono ?_
  rintro e w1 ⟨rfl, rfl⟩
  rw [HZ.out]
  go_wp2_with fail
  refine (sv_any 4 2 _).mono ?_
  rintro e w1 ⟨rfl, rfl⟩
  rw [show decide (svB 4 2) = false by decide +kernel]
  go_wp2_with fail
  refine (sv_any 4 3 _).mono ?_
  rintro e w1 ⟨rfl, rfl⟩
  rw [show decide (svB 4 3) = false by decide +kernel]
  go_wp2_with fail
  refine (sv_any 4 4 _).mono ?_
  rintro e w1 ⟨rfl, rfl⟩
  rw [show decide (svB 4 4) = false by decide +kernel]
  go_wp2_with fail
  refine (sv_any 4 v _).mono ?_
  rintro e w1 ⟨rfl, rfl⟩
  rw [HP.out]
  cases p
  · go_wp2_with fail
    refine (known25 _).mono ?_
    rintro e w1 ⟨rfl, hb⟩
    go_wp2_with fail
    go_ret
    exact ⟨rfl, hb⟩
  · obtain ⟨q1, q2⟩ := HS.out (of_decide_eq_true HP.out)
    have Q1 := Lib.hid (decide_eq_true q1)
    have Q2 := Lib.hid (decide_eq_true q2)
    clear q1 q2
    go_wp2_with fail
    refine (sv_any 127 v _).mono ?_
    rintro e w1 ⟨rfl, rfl⟩
    rw [Q1.out]
    go_wp2_with fail
    refine (sv_any 5 v _).mono ?_
    rintro e w1 ⟨rfl, rfl⟩
    rw [Q2.out]
    go_wp2_with fail
    refine (known25 _).mono ?_
    rintro e w1 ⟨rfl, hb⟩
    go_wp2_with fail
    go_ret
    exact ⟨rfl, hb⟩

set_option maxRecDepth 100000 in
set_option maxHeartbeats 1000000 in
theorem laws_129 (v : Int) (w : World) : Calls Try.prog 7 #[.int .i64 129, .int .i64 v] w fun e w' => e = .returned (.bool true) ∧ Below w.heap.size w w' := by
  have HS := Lib.hid (sv_imp v)
  have HZ := Lib.hid (sv_0 v)
  have HN := Lib.hid (nx_0 (129))
  generalize hp : decide (svB 4 v) = p at *
  have HP := Lib.hid hp
  clear hp
  go_enter Try.func7, Try.ntmps7
  go_wp2_with fail
  refine (next_any 127 129 _).mono ?_
  rintro e w1 ⟨rfl, rfl⟩
  rw [show nxS 127 129 = 0 by decide +kernel, show nxR 127 129 = 129 by decide +kernel]
  go_wp2_with fail
  refine (next_any 5 129 _).mono ?_
  rintro e w1 ⟨rfl, rfl⟩
  rw [show nxS 5 129 = 0 by decide +kernel, show nxR 5 129 = 129 by decide +kernel]
  go_wp2_with fail
  refine (next_any 4 129 _).mono ?_
  rintro e w1 ⟨rfl, rfl⟩
  rw [show nxS 4 129 = 0 by decide +kernel, show nxR 4 129 = 129 by decide +kernel]
  go_wp2_with fail
  refine (next_any 0 129 _).mono ?_
  rintro e w1 ⟨rfl, rfl⟩
  rw [HN.out.1, HN.out.2]
  go_wp2_with fail
  refine (kn_any 0 _).mono ?_
  rintro e w1 ⟨rfl, rfl⟩
  rw [show decide (knS 0) = true by decide +kernel]
  go_wp2_with fail
  refine (kn_any 0 _).mono ?_
  rintro e w1 ⟨rfl, rfl⟩
  rw [show decide (knS 0) = true by decide +kernel]
  go_wp2_with fail
  refine (kn_any 0 _).mono ?_
  rintro e w1 ⟨rfl, rfl⟩
  rw [show decide (knS 0) = true by decide +kernel]
  go_wp2_with fail
  refine (sv_any 127 1 _).mono ?_
  rintro e w1 ⟨rfl, rfl⟩
  rw [show decide (svB 127 1) = false by decide +kernel]
  go_wp2_with fail
  refine (sv_any 4 1 _).mono ?_
  rintro e w1 ⟨rfl, rfl⟩
  rw [show decide (svB 4 1) = false by decide +kernel]
  go_wp2_with fail
  refine (sv_any 0 v _).mono ?_
  rintro e w1 ⟨rfl, rfl⟩
  rw [HZ.out]
  go_wp2_with fail
  refine (sv_any 4 2 _).mono ?_
  rintro e w1 ⟨rfl, rfl⟩
  rw [show decide (svB 4 2) = false by decide +kernel]
  go_wp2_with fail
  refine (sv_any 4 3 _).mono ?_
  rintro e w1 ⟨rfl, rfl⟩
  rw [show decide (svB 4 3) = false by decide +kernel]
  go_wp2_with fail
  refine (sv_any 4 4 _).mono ?_
  rintro e w1 ⟨rfl, rfl⟩
  rw [show decide (svB 4 4) = false by decide +kernel]
  go_wp2_with fail
  refine (sv_any 4 v _).mono ?_
  rintro e w1 ⟨rfl, rfl⟩
  rw [HP.out]
  cases p
  · go_wp2_with fail
    refine (known25 _).mono ?_
    rintro e w1 ⟨rfl, hb⟩
    go_wp2_with fail
    go_ret
    exact ⟨rfl, hb⟩
  · obtain ⟨q1, q2⟩ := HS.out (of_decide_eq_true HP.out)
    have Q1 := Lib.hid (decide_eq_true q1)
    have Q2 := Lib.hid (decide_eq_true q2)
    clear q1 q2
    go_wp2_with fail
    refine (sv_any 127 v _).mono ?_
    rintro e w1 ⟨rfl, rfl⟩
    rw [Q1.out]
    go_wp2_with fail
    refine (sv_any 5 v _).mono ?_
    rintro e w1 ⟨rfl, rfl⟩
    rw [Q2.out]
    go_wp2_with fail
    refine (known25 _).mono ?_
    rintro e w1 ⟨rfl, hb⟩
    go_wp2_with fail
    go_ret
    exact ⟨rfl, hb⟩

set_option maxRecDepth 100000 in
set_option maxHeartbeats 1000000 in
theorem laws_130 (v : Int) (w : World) : Calls Try.prog 7 #[.int .i64 130, .int .i64 v] w fun e w' => e = .returned (.bool true) ∧ Below w.heap.size w w' := by
  have HS := Lib.hid (sv_imp v)
  have HZ := Lib.hid (sv_0 v)
  have HN := Lib.hid (nx_0 (130))
  generalize hp : decide (svB 4 v) = p at *
  have HP := Lib.hid hp
  clear hp
  go_enter Try.func7, Try.ntmps7
  go_wp2_with fail
  refine (next_any 127 130 _).mono ?_
  rintro e w1 ⟨rfl, rfl⟩
  rw [show nxS 127 130 = 0 by decide +kernel, show nxR 127 130 = 130 by decide +kernel]
  go_wp2_with fail
  refine (next_any 5 130 _).mono ?_
  rintro e w1 ⟨rfl, rfl⟩
  rw [show nxS 5 130 = 0 by decide +kernel, show nxR 5 130 = 130 by decide +kernel]
  go_wp2_with fail
  refine (next_any 4 130 _).mono ?_
  rintro e w1 ⟨rfl, rfl⟩
  rw [show nxS 4 130 = 0 by decide +kernel, show nxR 4 130 = 130 by decide +kernel]
  go_wp2_with fail
  refine (next_any 0 130 _).mono ?_
  rintro e w1 ⟨rfl, rfl⟩
  rw [HN.out.1, HN.out.2]
  go_wp2_with fail
  refine (kn_any 0 _).mono ?_
  rintro e w1 ⟨rfl, rfl⟩
  rw [show decide (knS 0) = true by decide +kernel]
  go_wp2_with fail
  refine (kn_any 0 _).mono ?_
  rintro e w1 ⟨rfl, rfl⟩
  rw [show decide (knS 0) = true by decide +kernel]
  go_wp2_with fail
  refine (kn_any 0 _).mono ?_
  rintro e w1 ⟨rfl, rfl⟩
  rw [show decide (knS 0) = true by decide +kernel]
  go_wp2_with fail
  refine (sv_any 127 1 _).mono ?_
  rintro e w1 ⟨rfl, rfl⟩
  rw [show decide (svB 127 1) = false by decide +kernel]
  go_wp2_with fail
  refine (sv_any 4 1 _).mono ?_
  rintro e w1 ⟨rfl, rfl⟩
  rw [show decide (svB 4 1) = false by decide +kernel]
  go_wp2_with fail
  refine (sv_any 0 v _).mono ?_
  rintro e w1 ⟨rfl, rfl⟩
  rw [HZ.out]
  go_wp2_with fail
  refine (sv_any 4 2 _).mono ?_
  rintro e w1 ⟨rfl, rfl⟩
  rw [show decide (svB 4 2) = false by decide +kernel]
  go_wp2_with fail
  refine (sv_any 4 3 _).mono ?_
  rintro e w1 ⟨rfl, rfl⟩
  rw [show decide (svB 4 3) = false by decide +kernel]
  go_wp2_with fail
  refine (sv_any 4 4 _).mono ?_
  rintro e w1 ⟨rfl, rfl⟩
  rw [show decide (svB 4 4) = false by decide +kernel]
  go_wp2_with fail
  refine (sv_any 4 v _).mono ?_
  rintro e w1 ⟨rfl, rfl⟩
  rw [HP.out]
  cases p
  · go_wp2_with fail
    refine (known25 _).mono ?_
    rintro e w1 ⟨rfl, hb⟩
    go_wp2_with fail
    go_ret
    exact ⟨rfl, hb⟩
  · obtain ⟨q1, q2⟩ := HS.out (of_decide_eq_true HP.out)
    have Q1 := Lib.hid (decide_eq_true q1)
    have Q2 := Lib.hid (decide_eq_true q2)
    clear q1 q2
    go_wp2_with fail
    refine (sv_any 127 v _).mono ?_
    rintro e w1 ⟨rfl, rfl⟩
    rw [Q1.out]
    go_wp2_with fail
    refine (sv_any 5 v _).mono ?_
    rintro e w1 ⟨rfl, rfl⟩
    rw [Q2.out]
    go_wp2_with fail
    refine (known25 _).mono ?_
    rintro e w1 ⟨rfl, hb⟩
    go_wp2_with fail
    go_ret
    exact ⟨rfl, hb⟩

set_option maxRecDepth 100000 in
set_option maxHeartbeats 1000000 in
theorem laws_no (c v : Int) (w : World) (h : ¬ tgB c) : Calls Try.prog 7 #[.int .i64 c, .int .i64 v] w fun e w' => e = .returned (.bool true) ∧ Below w.heap.size w w' := by
  have H1 := Lib.hid (nx_no 127 c h)
  have H2 := Lib.hid (nx_no 5 c h)
  have H3 := Lib.hid (nx_no 4 c h)
  clear h
  have HS := Lib.hid (sv_imp v)
  have HZ := Lib.hid (sv_0 v)
  have HN := Lib.hid (nx_0 (c))
  generalize hp : decide (svB 4 v) = p at *
  have HP := Lib.hid hp
  clear hp
  go_enter Try.func7, Try.ntmps7
  go_wp2_with fail
  refine (next_any 127 c _).mono ?_
  rintro e w1 ⟨rfl, rfl⟩
  rw [H1.out.1, H1.out.2]
  go_wp2_with fail
  refine (next_any 5 c _).mono ?_
  rintro e w1 ⟨rfl, rfl⟩
  rw [H2.out.1, H2.out.2]
  go_wp2_with fail
  refine (next_any 4 c _).mono ?_
  rintro e w1 ⟨rfl, rfl⟩
  rw [H3.out.1, H3.out.2]
  go_wp2_with fail
  refine (next_any 0 c _).mono ?_
  rintro e w1 ⟨rfl, rfl⟩
  rw [HN.out.1, HN.out.2]
  go_wp2_with fail
  refine (kn_any 127 _).mono ?_
  rintro e w1 ⟨rfl, rfl⟩
  rw [show decide (knS 127) = true by decide +kernel]
  go_wp2_with fail
  refine (kn_any 5 _).mono ?_
  rintro e w1 ⟨rfl, rfl⟩
  rw [show decide (knS 5) = true by decide +kernel]
  go_wp2_with fail
  refine (kn_any 4 _).mono ?_
  rintro e w1 ⟨rfl, rfl⟩
  rw [show decide (knS 4) = true by decide +kernel]
  go_wp2_with fail
  refine (sv_any 127 1 _).mono ?_
  rintro e w1 ⟨rfl, rfl⟩
  rw [show decide (svB 127 1) = false by decide +kernel]
  go_wp2_with fail
  refine (sv_any 4 1 _).mono ?_
  rintro e w1 ⟨rfl, rfl⟩
  rw [show decide (svB 4 1) = false by decide +kernel]
  go_wp2_with fail
  refine (sv_any 0 v _).mono ?_
  rintro e w1 ⟨rfl, rfl⟩
  rw [HZ.out]
  go_wp2_with fail
  refine (sv_any 4 2 _).mono ?_
  rintro e w1 ⟨rfl, rfl⟩
  rw [show decide (svB 4 2) = false by decide +kernel]
  go_wp2_with fail
  refine (sv_any 4 3 _).mono ?_
  rintro e w1 ⟨rfl, rfl⟩
  rw [show decide (svB 4 3) = false by decide +kernel]
  go_wp2_with fail
  refine (sv_any 4 4 _).mono ?_
  rintro e w1 ⟨rfl, rfl⟩
  rw [show decide (svB 4 4) = false by decide +kernel]
  go_wp2_with fail
  refine (sv_any 4 v _).mono ?_
  rintro e w1 ⟨rfl, rfl⟩
  rw [HP.out]
  cases p
  · go_wp2_with fail
    refine (known25 _).mono ?_
    rintro e w1 ⟨rfl, hb⟩
    go_wp2_with fail
    go_ret
    exact ⟨rfl, hb⟩
  · obtain ⟨q1, q2⟩ := HS.out (of_decide_eq_true HP.out)
    have Q1 := Lib.hid (decide_eq_true q1)
    have Q2 := Lib.hid (decide_eq_true q2)
    clear q1 q2
    go_wp2_with fail
    refine (sv_any 127 v _).mono ?_
    rintro e w1 ⟨rfl, rfl⟩
    rw [Q1.out]
    go_wp2_with fail
    refine (sv_any 5 v _).mono ?_
    rintro e w1 ⟨rfl, rfl⟩
    rw [Q2.out]
    go_wp2_with fail
    refine (known25 _).mono ?_
    rintro e w1 ⟨rfl, hb⟩
    go_wp2_with fail
    go_ret
    exact ⟨rfl, hb⟩

theorem laws_frame (a0 a1 : Int) (w : World) (w0 : (Lit.int .i64 a0).wf = true) (w1 : (Lit.int .i64 a1).wf = true) :
    Calls Try.prog 7 #[.int .i64 a0, .int .i64 a1] w fun e w' => e = .returned (.bool true) ∧ Below w.heap.size w w' := by
  by_cases h : tgB a0
  · unfold tgB at h
    rcases h with rfl | rfl | rfl | rfl | rfl
    · exact laws_1 a1 w
    · exact laws_2 a1 w
    · exact laws_128 a1 w
    · exact laws_129 a1 w
    · exact laws_130 a1 w
  · exact laws_no a0 a1 w h
end Go.Proofs.Ytpnnmcicpjebmaa
