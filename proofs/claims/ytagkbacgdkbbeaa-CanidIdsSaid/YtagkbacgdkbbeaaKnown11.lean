/-
  The fixed calls of the canid laws.
-/
import Derived.Test.YtagkbacgdkbbeaaGuess
import Derived.Test.YtagkbacgdkbbeaaRestr
import Derived.Test.YtagkbacgdkbbeaaEqs
set_option linter.unusedSimpArgs false
set_option linter.unusedVariables false
namespace Go.Proofs.Ytagkbacgdkbbeaa
open Go.RowKit
attribute [local go_sem] Oper.semAt_some

set_option maxHeartbeats 1000000 in
theorem known11 (w : World) : Calls Try.prog 24 #[] w fun e w' => e = .returned (.bool true) ∧ Below w.heap.size w w' := by
  have g1 := guard51
  have g2 := guard62
  have q1 := eq51 6 1 5 6 1 5
  have q2 := eq62 true true 389 true true 389
  go_enter Try.func24, Try.ntmps24
  go_wp2_with fail
  refine (id_any 5 1 5 _).mono ?_
  rintro e w1 ⟨rfl, hb1⟩
  rw [show idN 5 1 5 = 389 from rfl, show idE 5 1 5 = 0 from rfl]
  have HB1 := Lib.hid hb1
  have s1 := hb1.size
  clear hb1
  go_wp2_with fail
  refine (of_any 517 _).mono ?_
  rintro e w2 ⟨rfl, hb2⟩
  rw [show ofK 517 = 6 by decide +kernel, show ofN 517 = 1 by decide +kernel, show ofD 517 = 5 by decide +kernel, show decide (named 517) = true by decide +kernel]
  have HB2 := Lib.hid (HB1.out.trans (hb2.mono s1))
  have s2 := hb2.size
  clear hb2 HB1
  go_wp2_with fail
  refine (split_any 3221225861 (by omega) _).mono ?_
  rintro e w3 ⟨rfl, hb3⟩
  rw [show spOff 3221225861 = true by decide +kernel, show spNo 3221225861 = true by decide +kernel, show spId 3221225861 = 389 by decide +kernel, show spE 3221225861 = 0 by decide +kernel]
  have s3 := hb3.size
  simp only [World.size_alloc] at s3
  have HB3 := Lib.hid ((HB2.out.alloc (by omega) (.cells #[.int .i64 6, .int .i64 1, .int .i64 5] 51)).trans (hb3.mono (by simp; omega)))
  have HN3 := Lib.hid (show w3.heap[w2.heap.size]? = some (.cells #[.int .i64 6, .int .i64 1, .int .i64 5] 51 (0, 0)) from (hb3.block _ (by simp)).trans (heap_alloc_new w2 _))
  clear hb3 HB2
  go_wp2_with fail
  refine (split_any 536870912 (by omega) _).mono ?_
  rintro e w4 ⟨rfl, hb4⟩
  rw [show spOff 536870912 = false by decide +kernel, show spNo 536870912 = false by decide +kernel, show spId 536870912 = 0 by decide +kernel, show spE 536870912 = 4 by decide +kernel]
  have s4 := hb4.size
  simp only [World.size_alloc] at s4
  have HB4 := Lib.hid ((HB3.out.alloc (by omega) (.cells #[.bool true, .bool true, .int .i64 389] 62)).trans (hb4.mono (by simp; omega)))
  have HC4 := Lib.hid (show w4.heap[w3.heap.size]? = some (.cells #[.bool true, .bool true, .int .i64 389] 62 (0, 0)) from (hb4.block _ (by simp)).trans (heap_alloc_new w3 _))
  have HN4 := Lib.hid (show w4.heap[w2.heap.size]? = some (.cells #[.int .i64 6, .int .i64 1, .int .i64 5] 51 (0, 0)) from (hb4.block _ (by simp; omega)).trans ((heap_alloc_old w3 _ (by omega)).trans HN3.out))
  have n0 : w4.cell? ⟨w2.heap.size, 0, none⟩ = some (.int .i64 6) := by simp [World.cell?, HN4.out]
  have n1 : w4.cell? ⟨w2.heap.size, 1, none⟩ = some (.int .i64 1) := by simp [World.cell?, HN4.out]
  have n2 : w4.cell? ⟨w2.heap.size, 2, none⟩ = some (.int .i64 5) := by simp [World.cell?, HN4.out]
  have c0 : w4.cell? ⟨w3.heap.size, 0, none⟩ = some (.bool true) := by simp [World.cell?, HC4.out]
  have c1 : w4.cell? ⟨w3.heap.size, 1, none⟩ = some (.bool true) := by simp [World.cell?, HC4.out]
  have c2 : w4.cell? ⟨w3.heap.size, 2, none⟩ = some (.int .i64 389) := by simp [World.cell?, HC4.out]
  clear hb4 HB3 HN3
  have k0 : w2.heap.size < w4.heap.size := by omega
  have k1 : w3.heap.size < w4.heap.size := by omega
  go_wp2_with fail
  refine (restr_any 0 _).mono ?_
  rintro e w5 ⟨rfl, rfl⟩
  rw [show decide (restr 0) = true by decide +kernel]
  go_wp2_with fail
  refine (restr_any 128 _).mono ?_
  rintro e w5 ⟨rfl, rfl⟩
  rw [show decide (restr 128) = false by decide +kernel]
  go_wp2_with fail
  go_ret
  exact ⟨rfl, HB4.out.alloc (by omega) _⟩
end Go.Proofs.Ytagkbacgdkbbeaa
