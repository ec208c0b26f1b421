/-
  LAW CanidBack: the walk, one theorem a way.
-/
import Derived.Test.YtagkbacgdkbbeaaNamesLaw
import Derived.Lib.SmallJoins
import Derived.ChangeArms
set_option linter.unusedSimpArgs false
set_option linter.unusedVariables false
namespace Go.Proofs.Ytagkbacgdkbbeaa
open Go.RowKit
attribute [local go_sem] Oper.semAt_some

theorem of_id {k n d : Int} (h : okN k n d) : ofK (idN k n d) = k ∧ ofN (idN k n d) = n ∧ ofD (idN k n d) = d ∧ decide (named (idN k n d)) = true ∧ 0 ≤ idN k n d ∧ idN k n d ≤ 2047 := by
  obtain ⟨h1, h2, h3, h4⟩ := named_of h rfl
  refine ⟨?_, ?_, ?_, decide_eq_true h1, h1.1.1, h1.1.2⟩
  · unfold ofK; rw [if_pos h1]; exact h2
  · unfold ofN; rw [if_pos h1]; exact h3
  · unfold ofD; rw [if_pos h1]; exact h4
theorem id_of {id : Int} (h : named id) : idN (ofK id) (ofN id) (ofD id) = id ∧ idE (ofK id) (ofN id) (ofD id) = 0 := by
  unfold ofK ofN ofD
  rw [if_pos h, if_pos h, if_pos h]
  exact ⟨h.2.2, (idN_yes h.2.1).2⟩
theorem jo_sp {a : Nat} (ha : a < 4294967296) (h : spGood a) : jW (spOff a) (spNo a) (spId a) = (a : Int) ∧ jE (spId a) = 0 := by
  have e1 : spOff a = decide (2147483648 ≤ a) := by unfold spOff; simp [h]
  have e2 : spNo a = decide (1073741824 ≤ a % 2147483648) := by unfold spNo; simp [h]
  have e3 : spId a = ((a % 2048 : Nat) : Int) := by unfold spId; rw [if_pos h]
  unfold spGood at h
  rw [e1, e2, e3]
  have hm : (0 : Int) ≤ ((a % 2048 : Nat) : Int) ∧ ((a % 2048 : Nat) : Int) ≤ 2047 := by omega
  refine ⟨?_, if_pos hm⟩
  unfold jW
  rw [if_pos hm]
  by_cases c1 : 2147483648 ≤ a <;> by_cases c2 : 1073741824 ≤ a % 2147483648 <;> simp [c1, c2] <;> omega

set_option maxHeartbeats 1000000 in
theorem back_111 (k n d id : Int) (u : Nat) (hu : u < 4294967296) (w : World) (c1 : okN k n d) (c2 : named id) (c3 : spGood u) :
    Calls Try.prog 9 #[.agg #[.int .i64 k, .int .i64 n, .int .i64 d], .int .i64 id, .int .u32 (u : Int)] w fun e w' => e = .returned (.bool true) ∧ Below w.heap.size w w' := by
  have H1 := Lib.hid (And.intro (of_id c1) (idN_yes c1).2)
  have H2 := Lib.hid (And.intro (id_of c2) (decide_eq_true c2))
  have H3 := Lib.hid (show spE u = 0 from if_pos c3)
  have H4 := Lib.hid (jo_sp hu c3)
  clear c1 c2 c3
  go_enter Try.func9, Try.ntmps9
  go_wp2_with fail
  refine (id_any k n d _).mono ?_
  rintro e w1 ⟨rfl, hb1⟩
  rw [H1.out.2]
  have s1 := hb1.size
  simp only [World.size_alloc] at s1
  have HB := Lib.hid (bstep (B := w.heap.size) (w := w) hb1 (by go_grown) (Nat.le_refl _))
  have hn := cells3' (bkeep' hb1 (b := w.heap.size) (o := .cells #[.int .i64 k, .int .i64 n, .int .i64 d] 53 (0, 0)) (by first | exact heap_alloc_new w _ | exact akeep _ (heap_alloc_new w _)))
  have HN := Lib.hid hn
  clear hb1 hn
  have k1 : w.heap.size < w1.heap.size := by omega
  have k1' : w.heap.size ≤ w1.heap.size := by omega
  obtain ⟨h0, h1⟩ := H1.out.1.2.2.2.2
  have H5 := Lib.hid H1.out.1
  generalize idN k n d = x at *
  go_wp2_with fail
  refine (of_any x _).mono ?_
  rintro e w2 ⟨rfl, hb2⟩
  rw [H5.out.1, H5.out.2.1, H5.out.2.2.1, H5.out.2.2.2.1]
  have s2 := hb2.size
  have HB2 := Lib.hid (HB.out.trans (hb2.mono HB.out.size))
  obtain ⟨n0, n1, n2⟩ := HN.out
  have n0 := (hb2.cell (p := ⟨w.heap.size, 0, none⟩) k1).trans n0
  have n1 := (hb2.cell (p := ⟨w.heap.size, 1, none⟩) k1).trans n1
  have n2 := (hb2.cell (p := ⟨w.heap.size, 2, none⟩) k1).trans n2
  have k2 : w.heap.size < w2.heap.size := by omega
  have k2' : w.heap.size ≤ w2.heap.size := by omega
  clear hb2 HB k1 k1' s1 H1
  go_wp2_with fail
  refine (of_any id _).mono ?_
  rintro e w3 ⟨rfl, hb3⟩
  rw [H2.out.2]
  have b2 := HB2.out
  have HB3 := Lib.hid (bstep (B := w.heap.size) (w := w) hb3 (by go_grown) (Nat.le_refl _))
  have s3 := hb3.size
  have k3' : w.heap.size ≤ w3.heap.size := by (try simp at s3); omega
  clear hb3 HB2 b2
  have H6 := Lib.hid H2.out.1
  generalize ofK id = ik at *
  generalize ofN id = inn at *
  generalize ofD id = idd at *
  go_wp2_with fail
  refine (id_any ik inn idd _).mono ?_
  rintro e w4 ⟨rfl, hb4⟩
  rw [H6.out.1, H6.out.2]
  have b3 := HB3.out
  have HB4 := Lib.hid (bstep (B := w.heap.size) (w := w) hb4 (by go_grown) (Nat.le_refl _))
  have s4 := hb4.size
  have k4' : w.heap.size ≤ w4.heap.size := by (try simp at s4); omega
  clear hb4 HB3 b3 H2
  go_wp2_with fail
  refine (split_any u hu _).mono ?_
  rintro e w5 ⟨rfl, hb5⟩
  rw [H3.out]
  have b4 := HB4.out
  have HB5 := Lib.hid (bstep (B := w.heap.size) (w := w) hb5 (by go_grown) (Nat.le_refl _))
  have s5 := hb5.size
  have k5' : w.heap.size ≤ w5.heap.size := by (try simp at s5); omega
  clear hb5 HB4 b4
  have H7 := Lib.hid H4.out
  generalize spOff u = q1 at *
  generalize spNo u = q2 at *
  generalize spId u = q3 at *
  go_wp2_with fail
  refine (join_any q1 q2 q3 _).mono ?_
  rintro e w6 ⟨rfl, hb6⟩
  rw [H7.out.1, H7.out.2]
  have b5 := HB5.out
  have HB6 := Lib.hid (bstep (B := w.heap.size) (w := w) hb6 (by go_grown) (Nat.le_refl _))
  have s6 := hb6.size
  have k6' : w.heap.size ≤ w6.heap.size := by (try simp at s6); omega
  clear hb6 HB5 b5 H4
  go_wp2_with fail
  refine (known11 _).mono ?_
  rintro e w7 ⟨rfl, hb7⟩
  have b5 := HB6.out
  have HB7 := Lib.hid (bstep (B := w.heap.size) (w := w) hb7 (by go_grown) (Nat.le_refl _))
  clear hb7 b5
  go_wp2_with fail
  go_ret
  exact ⟨rfl, HB7.out⟩

set_option maxHeartbeats 1000000 in
theorem back_110 (k n d id : Int) (u : Nat) (hu : u < 4294967296) (w : World) (c1 : okN k n d) (c2 : named id) (c3 : ¬ spGood u) :
    Calls Try.prog 9 #[.agg #[.int .i64 k, .int .i64 n, .int .i64 d], .int .i64 id, .int .u32 (u : Int)] w fun e w' => e = .returned (.bool true) ∧ Below w.heap.size w w' := by
  have H1 := Lib.hid (And.intro (of_id c1) (idN_yes c1).2)
  have H2 := Lib.hid (And.intro (id_of c2) (decide_eq_true c2))
  have H3 := Lib.hid (show spE u = 4 from if_neg c3)
  clear c1 c2 c3
  go_enter Try.func9, Try.ntmps9
  go_wp2_with fail
  refine (id_any k n d _).mono ?_
  rintro e w1 ⟨rfl, hb1⟩
  rw [H1.out.2]
  have s1 := hb1.size
  simp only [World.size_alloc] at s1
  have HB := Lib.hid (bstep (B := w.heap.size) (w := w) hb1 (by go_grown) (Nat.le_refl _))
  have hn := cells3' (bkeep' hb1 (b := w.heap.size) (o := .cells #[.int .i64 k, .int .i64 n, .int .i64 d] 53 (0, 0)) (by first | exact heap_alloc_new w _ | exact akeep _ (heap_alloc_new w _)))
  have HN := Lib.hid hn
  clear hb1 hn
  have k1 : w.heap.size < w1.heap.size := by omega
  have k1' : w.heap.size ≤ w1.heap.size := by omega
  obtain ⟨h0, h1⟩ := H1.out.1.2.2.2.2
  have H5 := Lib.hid H1.out.1
  generalize idN k n d = x at *
  go_wp2_with fail
  refine (of_any x _).mono ?_
  rintro e w2 ⟨rfl, hb2⟩
  rw [H5.out.1, H5.out.2.1, H5.out.2.2.1, H5.out.2.2.2.1]
  have s2 := hb2.size
  have HB2 := Lib.hid (HB.out.trans (hb2.mono HB.out.size))
  obtain ⟨n0, n1, n2⟩ := HN.out
  have n0 := (hb2.cell (p := ⟨w.heap.size, 0, none⟩) k1).trans n0
  have n1 := (hb2.cell (p := ⟨w.heap.size, 1, none⟩) k1).trans n1
  have n2 := (hb2.cell (p := ⟨w.heap.size, 2, none⟩) k1).trans n2
  have k2 : w.heap.size < w2.heap.size := by omega
  have k2' : w.heap.size ≤ w2.heap.size := by omega
  clear hb2 HB k1 k1' s1 H1
  go_wp2_with fail
  refine (of_any id _).mono ?_
  rintro e w3 ⟨rfl, hb3⟩
  rw [H2.out.2]
  have b2 := HB2.out
  have HB3 := Lib.hid (bstep (B := w.heap.size) (w := w) hb3 (by go_grown) (Nat.le_refl _))
  have s3 := hb3.size
  have k3' : w.heap.size ≤ w3.heap.size := by (try simp at s3); omega
  clear hb3 HB2 b2
  have H6 := Lib.hid H2.out.1
  generalize ofK id = ik at *
  generalize ofN id = inn at *
  generalize ofD id = idd at *
  go_wp2_with fail
  refine (id_any ik inn idd _).mono ?_
  rintro e w4 ⟨rfl, hb4⟩
  rw [H6.out.1, H6.out.2]
  have b3 := HB3.out
  have HB4 := Lib.hid (bstep (B := w.heap.size) (w := w) hb4 (by go_grown) (Nat.le_refl _))
  have s4 := hb4.size
  have k4' : w.heap.size ≤ w4.heap.size := by (try simp at s4); omega
  clear hb4 HB3 b3 H2
  go_wp2_with fail
  refine (split_any u hu _).mono ?_
  rintro e w5 ⟨rfl, hb5⟩
  rw [H3.out]
  have b4 := HB4.out
  have HB5 := Lib.hid (bstep (B := w.heap.size) (w := w) hb5 (by go_grown) (Nat.le_refl _))
  have s5 := hb5.size
  have k5' : w.heap.size ≤ w5.heap.size := by (try simp at s5); omega
  clear hb5 HB4 b4
  go_wp2_with fail
  refine (known11 _).mono ?_
  rintro e w7 ⟨rfl, hb7⟩
  have b5 := HB5.out
  have HB7 := Lib.hid (bstep (B := w.heap.size) (w := w) hb7 (by go_grown) (Nat.le_refl _))
  clear hb7 b5
  go_wp2_with fail
  go_ret
  exact ⟨rfl, HB7.out⟩

set_option maxHeartbeats 1000000 in
theorem back_101 (k n d id : Int) (u : Nat) (hu : u < 4294967296) (w : World) (c1 : okN k n d) (c2 : ¬ named id) (c3 : spGood u) :
    Calls Try.prog 9 #[.agg #[.int .i64 k, .int .i64 n, .int .i64 d], .int .i64 id, .int .u32 (u : Int)] w fun e w' => e = .returned (.bool true) ∧ Below w.heap.size w w' := by
  have H1 := Lib.hid (And.intro (of_id c1) (idN_yes c1).2)
  have H2 := Lib.hid (decide_eq_false c2)
  have H3 := Lib.hid (show spE u = 0 from if_pos c3)
  have H4 := Lib.hid (jo_sp hu c3)
  clear c1 c2 c3
  go_enter Try.func9, Try.ntmps9
  go_wp2_with fail
  refine (id_any k n d _).mono ?_
  rintro e w1 ⟨rfl, hb1⟩
  rw [H1.out.2]
  have s1 := hb1.size
  simp only [World.size_alloc] at s1
  have HB := Lib.hid (bstep (B := w.heap.size) (w := w) hb1 (by go_grown) (Nat.le_refl _))
  have hn := cells3' (bkeep' hb1 (b := w.heap.size) (o := .cells #[.int .i64 k, .int .i64 n, .int .i64 d] 53 (0, 0)) (by first | exact heap_alloc_new w _ | exact akeep _ (heap_alloc_new w _)))
  have HN := Lib.hid hn
  clear hb1 hn
  have k1 : w.heap.size < w1.heap.size := by omega
  have k1' : w.heap.size ≤ w1.heap.size := by omega
  obtain ⟨h0, h1⟩ := H1.out.1.2.2.2.2
  have H5 := Lib.hid H1.out.1
  generalize idN k n d = x at *
  go_wp2_with fail
  refine (of_any x _).mono ?_
  rintro e w2 ⟨rfl, hb2⟩
  rw [H5.out.1, H5.out.2.1, H5.out.2.2.1, H5.out.2.2.2.1]
  have s2 := hb2.size
  have HB2 := Lib.hid (HB.out.trans (hb2.mono HB.out.size))
  obtain ⟨n0, n1, n2⟩ := HN.out
  have n0 := (hb2.cell (p := ⟨w.heap.size, 0, none⟩) k1).trans n0
  have n1 := (hb2.cell (p := ⟨w.heap.size, 1, none⟩) k1).trans n1
  have n2 := (hb2.cell (p := ⟨w.heap.size, 2, none⟩) k1).trans n2
  have k2 : w.heap.size < w2.heap.size := by omega
  have k2' : w.heap.size ≤ w2.heap.size := by omega
  clear hb2 HB k1 k1' s1 H1
  go_wp2_with fail
  refine (of_any id _).mono ?_
  rintro e w3 ⟨rfl, hb3⟩
  rw [H2.out]
  have b2 := HB2.out
  have HB3 := Lib.hid (bstep (B := w.heap.size) (w := w) hb3 (by go_grown) (Nat.le_refl _))
  have s3 := hb3.size
  have k3' : w.heap.size ≤ w3.heap.size := by (try simp at s3); omega
  clear hb3 HB2 b2
  go_wp2_with fail
  refine (split_any u hu _).mono ?_
  rintro e w5 ⟨rfl, hb5⟩
  rw [H3.out]
  have b4 := HB3.out
  have HB5 := Lib.hid (bstep (B := w.heap.size) (w := w) hb5 (by go_grown) (Nat.le_refl _))
  have s5 := hb5.size
  have k5' : w.heap.size ≤ w5.heap.size := by (try simp at s5); omega
  clear hb5 HB3 b4
  have H7 := Lib.hid H4.out
  generalize spOff u = q1 at *
  generalize spNo u = q2 at *
  generalize spId u = q3 at *
  go_wp2_with fail
  refine (join_any q1 q2 q3 _).mono ?_
  rintro e w6 ⟨rfl, hb6⟩
  rw [H7.out.1, H7.out.2]
  have b5 := HB5.out
  have HB6 := Lib.hid (bstep (B := w.heap.size) (w := w) hb6 (by go_grown) (Nat.le_refl _))
  have s6 := hb6.size
  have k6' : w.heap.size ≤ w6.heap.size := by (try simp at s6); omega
  clear hb6 HB5 b5 H4
  go_wp2_with fail
  refine (known11 _).mono ?_
  rintro e w7 ⟨rfl, hb7⟩
  have b5 := HB6.out
  have HB7 := Lib.hid (bstep (B := w.heap.size) (w := w) hb7 (by go_grown) (Nat.le_refl _))
  clear hb7 b5
  go_wp2_with fail
  go_ret
  exact ⟨rfl, HB7.out⟩

set_option maxHeartbeats 1000000 in
theorem back_100 (k n d id : Int) (u : Nat) (hu : u < 4294967296) (w : World) (c1 : okN k n d) (c2 : ¬ named id) (c3 : ¬ spGood u) :
    Calls Try.prog 9 #[.agg #[.int .i64 k, .int .i64 n, .int .i64 d], .int .i64 id, .int .u32 (u : Int)] w fun e w' => e = .returned (.bool true) ∧ Below w.heap.size w w' := by
  have H1 := Lib.hid (And.intro (of_id c1) (idN_yes c1).2)
  have H2 := Lib.hid (decide_eq_false c2)
  have H3 := Lib.hid (show spE u = 4 from if_neg c3)
  clear c1 c2 c3
  go_enter Try.func9, Try.ntmps9
  go_wp2_with fail
  refine (id_any k n d _).mono ?_
  rintro e w1 ⟨rfl, hb1⟩
  rw [H1.out.2]
  have s1 := hb1.size
  simp only [World.size_alloc] at s1
  have HB := Lib.hid (bstep (B := w.heap.size) (w := w) hb1 (by go_grown) (Nat.le_refl _))
  have hn := cells3' (bkeep' hb1 (b := w.heap.size) (o := .cells #[.int .i64 k, .int .i64 n, .int .i64 d] 53 (0, 0)) (by first | exact heap_alloc_new w _ | exact akeep _ (heap_alloc_new w _)))
  have HN := Lib.hid hn
  clear hb1 hn
  have k1 : w.heap.size < w1.heap.size := by omega
  have k1' : w.heap.size ≤ w1.heap.size := by omega
  obtain ⟨h0, h1⟩ := H1.out.1.2.2.2.2
  have H5 := Lib.hid H1.out.1
  generalize idN k n d = x at *
  go_wp2_with fail
  refine (of_any x _).mono ?_
  rintro e w2 ⟨rfl, hb2⟩
  rw [H5.out.1, H5.out.2.1, H5.out.2.2.1, H5.out.2.2.2.1]
  have s2 := hb2.size
  have HB2 := Lib.hid (HB.out.trans (hb2.mono HB.out.size))
  obtain ⟨n0, n1, n2⟩ := HN.out
  have n0 := (hb2.cell (p := ⟨w.heap.size, 0, none⟩) k1).trans n0
  have n1 := (hb2.cell (p := ⟨w.heap.size, 1, none⟩) k1).trans n1
  have n2 := (hb2.cell (p := ⟨w.heap.size, 2, none⟩) k1).trans n2
  have k2 : w.heap.size < w2.heap.size := by omega
  have k2' : w.heap.size ≤ w2.heap.size := by omega
  clear hb2 HB k1 k1' s1 H1
  go_wp2_with fail
  refine (of_any id _).mono ?_
  rintro e w3 ⟨rfl, hb3⟩
  rw [H2.out]
  have b2 := HB2.out
  have HB3 := Lib.hid (bstep (B := w.heap.size) (w := w) hb3 (by go_grown) (Nat.le_refl _))
  have s3 := hb3.size
  have k3' : w.heap.size ≤ w3.heap.size := by (try simp at s3); omega
  clear hb3 HB2 b2
  go_wp2_with fail
  refine (split_any u hu _).mono ?_
  rintro e w5 ⟨rfl, hb5⟩
  rw [H3.out]
  have b4 := HB3.out
  have HB5 := Lib.hid (bstep (B := w.heap.size) (w := w) hb5 (by go_grown) (Nat.le_refl _))
  have s5 := hb5.size
  have k5' : w.heap.size ≤ w5.heap.size := by (try simp at s5); omega
  clear hb5 HB3 b4
  go_wp2_with fail
  refine (known11 _).mono ?_
  rintro e w7 ⟨rfl, hb7⟩
  have b5 := HB5.out
  have HB7 := Lib.hid (bstep (B := w.heap.size) (w := w) hb7 (by go_grown) (Nat.le_refl _))
  clear hb7 b5
  go_wp2_with fail
  go_ret
  exact ⟨rfl, HB7.out⟩

set_option maxHeartbeats 1000000 in
theorem back_011 (k n d id : Int) (u : Nat) (hu : u < 4294967296) (w : World) (c1 : ¬ okN k n d) (c2 : named id) (c3 : spGood u) :
    Calls Try.prog 9 #[.agg #[.int .i64 k, .int .i64 n, .int .i64 d], .int .i64 id, .int .u32 (u : Int)] w fun e w' => e = .returned (.bool true) ∧ Below w.heap.size w w' := by
  have H1 := Lib.hid (idN_no c1)
  have H2 := Lib.hid (And.intro (id_of c2) (decide_eq_true c2))
  have H3 := Lib.hid (show spE u = 0 from if_pos c3)
  have H4 := Lib.hid (jo_sp hu c3)
  clear c1 c2 c3
  go_enter Try.func9, Try.ntmps9
  go_wp2_with fail
  refine (id_any k n d _).mono ?_
  rintro e w1 ⟨rfl, hb1⟩
  rw [H1.out.2]
  have s1 := hb1.size
  simp only [World.size_alloc] at s1
  have HB := Lib.hid (bstep (B := w.heap.size) (w := w) hb1 (by go_grown) (Nat.le_refl _))
  have hn := cells3' (bkeep' hb1 (b := w.heap.size) (o := .cells #[.int .i64 k, .int .i64 n, .int .i64 d] 53 (0, 0)) (by first | exact heap_alloc_new w _ | exact akeep _ (heap_alloc_new w _)))
  have HN := Lib.hid hn
  clear hb1 hn
  have k1 : w.heap.size < w1.heap.size := by omega
  have k1' : w.heap.size ≤ w1.heap.size := by omega
  rw [H1.out.1]
  have HB2 := HB
  have s2 := s1
  have k2 := k1
  have k2' := k1'
  obtain ⟨w2, hw⟩ : ∃ w2, w2 = w1 := ⟨_, rfl⟩
  subst hw
  clear HB k1 k1' H1
  go_wp2_with fail
  refine (of_any id _).mono ?_
  rintro e w3 ⟨rfl, hb3⟩
  rw [H2.out.2]
  have b2 := HB2.out
  have HB3 := Lib.hid (bstep (B := w.heap.size) (w := w) hb3 (by go_grown) (Nat.le_refl _))
  have s3 := hb3.size
  have k3' : w.heap.size ≤ w3.heap.size := by (try simp at s3); omega
  clear hb3 HB2 b2
  have H6 := Lib.hid H2.out.1
  generalize ofK id = ik at *
  generalize ofN id = inn at *
  generalize ofD id = idd at *
  go_wp2_with fail
  refine (id_any ik inn idd _).mono ?_
  rintro e w4 ⟨rfl, hb4⟩
  rw [H6.out.1, H6.out.2]
  have b3 := HB3.out
  have HB4 := Lib.hid (bstep (B := w.heap.size) (w := w) hb4 (by go_grown) (Nat.le_refl _))
  have s4 := hb4.size
  have k4' : w.heap.size ≤ w4.heap.size := by (try simp at s4); omega
  clear hb4 HB3 b3 H2
  go_wp2_with fail
  refine (split_any u hu _).mono ?_
  rintro e w5 ⟨rfl, hb5⟩
  rw [H3.out]
  have b4 := HB4.out
  have HB5 := Lib.hid (bstep (B := w.heap.size) (w := w) hb5 (by go_grown) (Nat.le_refl _))
  have s5 := hb5.size
  have k5' : w.heap.size ≤ w5.heap.size := by (try simp at s5); omega
  clear hb5 HB4 b4
  have H7 := Lib.hid H4.out
  generalize spOff u = q1 at *
  generalize spNo u = q2 at *
  generalize spId u = q3 at *
  go_wp2_with fail
  refine (join_any q1 q2 q3 _).mono ?_
  rintro e w6 ⟨rfl, hb6⟩
  rw [H7.out.1, H7.out.2]
  have b5 := HB5.out
  have HB6 := Lib.hid (bstep (B := w.heap.size) (w := w) hb6 (by go_grown) (Nat.le_refl _))
  have s6 := hb6.size
  have k6' : w.heap.size ≤ w6.heap.size := by (try simp at s6); omega
  clear hb6 HB5 b5 H4
  go_wp2_with fail
  refine (known11 _).mono ?_
  rintro e w7 ⟨rfl, hb7⟩
  have b5 := HB6.out
  have HB7 := Lib.hid (bstep (B := w.heap.size) (w := w) hb7 (by go_grown) (Nat.le_refl _))
  clear hb7 b5
  go_wp2_with fail
  go_ret
  exact ⟨rfl, HB7.out⟩

set_option maxHeartbeats 1000000 in
theorem back_010 (k n d id : Int) (u : Nat) (hu : u < 4294967296) (w : World) (c1 : ¬ okN k n d) (c2 : named id) (c3 : ¬ spGood u) :
    Calls Try.prog 9 #[.agg #[.int .i64 k, .int .i64 n, .int .i64 d], .int .i64 id, .int .u32 (u : Int)] w fun e w' => e = .returned (.bool true) ∧ Below w.heap.size w w' := by
  have H1 := Lib.hid (idN_no c1)
  have H2 := Lib.hid (And.intro (id_of c2) (decide_eq_true c2))
  have H3 := Lib.hid (show spE u = 4 from if_neg c3)
  clear c1 c2 c3
  go_enter Try.func9, Try.ntmps9
  go_wp2_with fail
  refine (id_any k n d _).mono ?_
  rintro e w1 ⟨rfl, hb1⟩
  rw [H1.out.2]
  have s1 := hb1.size
  simp only [World.size_alloc] at s1
  have HB := Lib.hid (bstep (B := w.heap.size) (w := w) hb1 (by go_grown) (Nat.le_refl _))
  have hn := cells3' (bkeep' hb1 (b := w.heap.size) (o := .cells #[.int .i64 k, .int .i64 n, .int .i64 d] 53 (0, 0)) (by first | exact heap_alloc_new w _ | exact akeep _ (heap_alloc_new w _)))
  have HN := Lib.hid hn
  clear hb1 hn
  have k1 : w.heap.size < w1.heap.size := by omega
  have k1' : w.heap.size ≤ w1.heap.size := by omega
  rw [H1.out.1]
  have HB2 := HB
  have s2 := s1
  have k2 := k1
  have k2' := k1'
  obtain ⟨w2, hw⟩ : ∃ w2, w2 = w1 := ⟨_, rfl⟩
  subst hw
  clear HB k1 k1' H1
  go_wp2_with fail
  refine (of_any id _).mono ?_
  rintro e w3 ⟨rfl, hb3⟩
  rw [H2.out.2]
  have b2 := HB2.out
  have HB3 := Lib.hid (bstep (B := w.heap.size) (w := w) hb3 (by go_grown) (Nat.le_refl _))
  have s3 := hb3.size
  have k3' : w.heap.size ≤ w3.heap.size := by (try simp at s3); omega
  clear hb3 HB2 b2
  have H6 := Lib.hid H2.out.1
  generalize ofK id = ik at *
  generalize ofN id = inn at *
  generalize ofD id = idd at *
  go_wp2_with fail
  refine (id_any ik inn idd _).mono ?_
  rintro e w4 ⟨rfl, hb4⟩
  rw [H6.out.1, H6.out.2]
  have b3 := HB3.out
  have HB4 := Lib.hid (bstep (B := w.heap.size) (w := w) hb4 (by go_grown) (Nat.le_refl _))
  have s4 := hb4.size
  have k4' : w.heap.size ≤ w4.heap.size := by (try simp at s4); omega
  clear hb4 HB3 b3 H2
  go_wp2_with fail
  refine (split_any u hu _).mono ?_
  rintro e w5 ⟨rfl, hb5⟩
  rw [H3.out]
  have b4 := HB4.out
  have HB5 := Lib.hid (bstep (B := w.heap.size) (w := w) hb5 (by go_grown) (Nat.le_refl _))
  have s5 := hb5.size
  have k5' : w.heap.size ≤ w5.heap.size := by (try simp at s5); omega
  clear hb5 HB4 b4
  go_wp2_with fail
  refine (known11 _).mono ?_
  rintro e w7 ⟨rfl, hb7⟩
  have b5 := HB5.out
  have HB7 := Lib.hid (bstep (B := w.heap.size) (w := w) hb7 (by go_grown) (Nat.le_refl _))
  clear hb7 b5
  go_wp2_with fail
  go_ret
  exact ⟨rfl, HB7.out⟩

set_option maxHeartbeats 1000000 in
theorem back_001 (k n d id : Int) (u : Nat) (hu : u < 4294967296) (w : World) (c1 : ¬ okN k n d) (c2 : ¬ named id) (c3 : spGood u) :
    Calls Try.prog 9 #[.agg #[.int .i64 k, .int .i64 n, .int .i64 d], .int .i64 id, .int .u32 (u : Int)] w fun e w' => e = .returned (.bool true) ∧ Below w.heap.size w w' := by
  have H1 := Lib.hid (idN_no c1)
  have H2 := Lib.hid (decide_eq_false c2)
  have H3 := Lib.hid (show spE u = 0 from if_pos c3)
  have H4 := Lib.hid (jo_sp hu c3)
  clear c1 c2 c3
  go_enter Try.func9, Try.ntmps9
  go_wp2_with fail
  refine (id_any k n d _).mono ?_
  rintro e w1 ⟨rfl, hb1⟩
  rw [H1.out.2]
  have s1 := hb1.size
  simp only [World.size_alloc] at s1
  have HB := Lib.hid (bstep (B := w.heap.size) (w := w) hb1 (by go_grown) (Nat.le_refl _))
  have hn := cells3' (bkeep' hb1 (b := w.heap.size) (o := .cells #[.int .i64 k, .int .i64 n, .int .i64 d] 53 (0, 0)) (by first | exact heap_alloc_new w _ | exact akeep _ (heap_alloc_new w _)))
  have HN := Lib.hid hn
  clear hb1 hn
  have k1 : w.heap.size < w1.heap.size := by omega
  have k1' : w.heap.size ≤ w1.heap.size := by omega
  rw [H1.out.1]
  have HB2 := HB
  have s2 := s1
  have k2 := k1
  have k2' := k1'
  obtain ⟨w2, hw⟩ : ∃ w2, w2 = w1 := ⟨_, rfl⟩
  subst hw
  clear HB k1 k1' H1
  go_wp2_with fail
  refine (of_any id _).mono ?_
  rintro e w3 ⟨rfl, hb3⟩
  rw [H2.out]
  have b2 := HB2.out
  have HB3 := Lib.hid (bstep (B := w.heap.size) (w := w) hb3 (by go_grown) (Nat.le_refl _))
  have s3 := hb3.size
  have k3' : w.heap.size ≤ w3.heap.size := by (try simp at s3); omega
  clear hb3 HB2 b2
  go_wp2_with fail
  refine (split_any u hu _).mono ?_
  rintro e w5 ⟨rfl, hb5⟩
  rw [H3.out]
  have b4 := HB3.out
  have HB5 := Lib.hid (bstep (B := w.heap.size) (w := w) hb5 (by go_grown) (Nat.le_refl _))
  have s5 := hb5.size
  have k5' : w.heap.size ≤ w5.heap.size := by (try simp at s5); omega
  clear hb5 HB3 b4
  have H7 := Lib.hid H4.out
  generalize spOff u = q1 at *
  generalize spNo u = q2 at *
  generalize spId u = q3 at *
  go_wp2_with fail
  refine (join_any q1 q2 q3 _).mono ?_
  rintro e w6 ⟨rfl, hb6⟩
  rw [H7.out.1, H7.out.2]
  have b5 := HB5.out
  have HB6 := Lib.hid (bstep (B := w.heap.size) (w := w) hb6 (by go_grown) (Nat.le_refl _))
  have s6 := hb6.size
  have k6' : w.heap.size ≤ w6.heap.size := by (try simp at s6); omega
  clear hb6 HB5 b5 H4
  go_wp2_with fail
  refine (known11 _).mono ?_
  rintro e w7 ⟨rfl, hb7⟩
  have b5 := HB6.out
  have HB7 := Lib.hid (bstep (B := w.heap.size) (w := w) hb7 (by go_grown) (Nat.le_refl _))
  clear hb7 b5
  go_wp2_with fail
  go_ret
  exact ⟨rfl, HB7.out⟩

set_option maxHeartbeats 1000000 in
theorem back_000 (k n d id : Int) (u : Nat) (hu : u < 4294967296) (w : World) (c1 : ¬ okN k n d) (c2 : ¬ named id) (c3 : ¬ spGood u) :
    Calls Try.prog 9 #[.agg #[.int .i64 k, .int .i64 n, .int .i64 d], .int .i64 id, .int .u32 (u : Int)] w fun e w' => e = .returned (.bool true) ∧ Below w.heap.size w w' := by
  have H1 := Lib.hid (idN_no c1)
  have H2 := Lib.hid (decide_eq_false c2)
  have H3 := Lib.hid (show spE u = 4 from if_neg c3)
  clear c1 c2 c3
  go_enter Try.func9, Try.ntmps9
  go_wp2_with fail
  refine (id_any k n d _).mono ?_
  rintro e w1 ⟨rfl, hb1⟩
  rw [H1.out.2]
  have s1 := hb1.size
  simp only [World.size_alloc] at s1
  have HB := Lib.hid (bstep (B := w.heap.size) (w := w) hb1 (by go_grown) (Nat.le_refl _))
  have hn := cells3' (bkeep' hb1 (b := w.heap.size) (o := .cells #[.int .i64 k, .int .i64 n, .int .i64 d] 53 (0, 0)) (by first | exact heap_alloc_new w _ | exact akeep _ (heap_alloc_new w _)))
  have HN := Lib.hid hn
  clear hb1 hn
  have k1 : w.heap.size < w1.heap.size := by omega
  have k1' : w.heap.size ≤ w1.heap.size := by omega
  rw [H1.out.1]
  have HB2 := HB
  have s2 := s1
  have k2 := k1
  have k2' := k1'
  obtain ⟨w2, hw⟩ : ∃ w2, w2 = w1 := ⟨_, rfl⟩
  subst hw
  clear HB k1 k1' H1
  go_wp2_with fail
  refine (of_any id _).mono ?_
  rintro e w3 ⟨rfl, hb3⟩
  rw [H2.out]
  have b2 := HB2.out
  have HB3 := Lib.hid (bstep (B := w.heap.size) (w := w) hb3 (by go_grown) (Nat.le_refl _))
  have s3 := hb3.size
  have k3' : w.heap.size ≤ w3.heap.size := by (try simp at s3); omega
  clear hb3 HB2 b2
  go_wp2_with fail
  refine (split_any u hu _).mono ?_
  rintro e w5 ⟨rfl, hb5⟩
  rw [H3.out]
  have b4 := HB3.out
  have HB5 := Lib.hid (bstep (B := w.heap.size) (w := w) hb5 (by go_grown) (Nat.le_refl _))
  have s5 := hb5.size
  have k5' : w.heap.size ≤ w5.heap.size := by (try simp at s5); omega
  clear hb5 HB3 b4
  go_wp2_with fail
  refine (known11 _).mono ?_
  rintro e w7 ⟨rfl, hb7⟩
  have b5 := HB5.out
  have HB7 := Lib.hid (bstep (B := w.heap.size) (w := w) hb7 (by go_grown) (Nat.le_refl _))
  clear hb7 b5
  go_wp2_with fail
  go_ret
  exact ⟨rfl, HB7.out⟩

theorem back_walk (k n d id : Int) (u : Nat) (hu : u < 4294967296) (w : World) :
    Calls Try.prog 9 #[.agg #[.int .i64 k, .int .i64 n, .int .i64 d], .int .i64 id, .int .u32 (u : Int)] w fun e w' => e = .returned (.bool true) ∧ Below w.heap.size w w' := by
  by_cases c1 : okN k n d <;> by_cases c2 : named id <;> by_cases c3 : spGood u
  · exact back_111 k n d id u hu w c1 c2 c3
  · exact back_110 k n d id u hu w c1 c2 c3
  · exact back_101 k n d id u hu w c1 c2 c3
  · exact back_100 k n d id u hu w c1 c2 c3
  · exact back_011 k n d id u hu w c1 c2 c3
  · exact back_010 k n d id u hu w c1 c2 c3
  · exact back_001 k n d id u hu w c1 c2 c3
  · exact back_000 k n d id u hu w c1 c2 c3

section
variable {H : Type} {enc : TypeId × Value → H} {w : World} {base : Nat} {d : DataW H} {ps : List MemPlace} {v : Value}
theorem open_name {r : Reach} {b0 : Nat} (hv : Value.okWide Try.prog w r b0 53 v) (h : DataW.Trod enc Try.prog w base (fun _ => true) true 53 v d ps) :
    ∃ (x y z : Int), v = .agg #[.int .i64 x, .int .i64 y, .int .i64 z] := by
  obtain ⟨v0, v1, v2, y0, y1, y2, n, rfl, _, _, h0, h1, h2⟩ := Joins.open_agg3 Try.underlying53 (by kernel_rfl) (by kernel_rfl) hv h
  obtain ⟨x, hx, _, _⟩ := DataW.trod_int Try.underlying3 h0
  obtain ⟨y, hy, _, _⟩ := DataW.trod_int Try.underlying3 h1
  obtain ⟨z, hz, _, _⟩ := DataW.trod_int Try.underlying3 h2
  cases hx; cases hy; cases hz
  exact ⟨_, _, _, rfl⟩

theorem back_frame (v0 : Value) (a1 a2 : Int) (w : World) {d0 : DataW H} {p0 : List MemPlace} (ok0 : Value.okWide Try.prog w .any base 53 v0) (k0 : DataW.Trod enc Try.prog w 0 (fun _ => true) true 53 v0 d0 p0)
    (w1 : (Lit.int .i64 a1).wf = true) (w2 : (Lit.int .u32 a2).wf = true) :
    Calls Try.prog 9 #[v0, .int .i64 a1, .int .u32 a2] w fun e w' => e = .returned (.bool true) ∧ Below w.heap.size w w' := by
  obtain ⟨s, rfl, hs⟩ := u32_nat w2
  obtain ⟨x, y, z, rfl⟩ := open_name ok0 k0
  exact back_walk x y z a1 s hs w
end
end Go.Proofs.Ytagkbacgdkbbeaa
