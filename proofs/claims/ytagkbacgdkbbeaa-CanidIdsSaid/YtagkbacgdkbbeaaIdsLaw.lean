/-
  LAW CanidIds: the walk.
-/
import Derived.Test.YtagkbacgdkbbeaaRof
import Derived.Test.YtagkbacgdkbbeaaKnown11
set_option linter.unusedSimpArgs false
set_option linter.unusedVariables false
namespace Go.Proofs.Ytagkbacgdkbbeaa
open Go.RowKit
attribute [local go_sem] Oper.semAt_some

set_option maxHeartbeats 1000000 in
theorem ids_walk (id : Int) (w : World) : Calls Try.prog 7 #[.int .i64 id] w fun e w' => e = .returned (.bool true) ∧ Below w.heap.size w w' := by
  go_enter Try.func7, Try.ntmps7
  go_wp2_with fail
  refine (of_any id _).mono ?_
  rintro e w1 ⟨rfl, hb1⟩
  have HB1 := Lib.hid (bstep (B := w.heap.size) (w := w) hb1 (by go_grown) (Nat.le_refl _))
  have s1 := hb1.size
  clear hb1
  go_wp2_with fail
  refine (rof_any id _).mono ?_
  rintro e w2 ⟨rfl, hb2⟩
  generalize ofK id = x at *
  generalize ofN id = y at *
  generalize ofD id = z at *
  generalize decide (named id) = b at *
  have b0 := HB1.out
  have HB2 := Lib.hid (bstep (B := w.heap.size) (w := w) hb2 (by go_grown) (Nat.le_refl _))
  have HN2 := Lib.hid (bkeep' hb2 (heap_alloc_new w1 (.cells #[.int .i64 x, .int .i64 y, .int .i64 z] 51)))
  have s2 := hb2.size
  have k2 : w1.heap.size < w2.heap.size := by simp at s2; omega
  clear hb2 b0
  obtain ⟨n0, n1, n2⟩ := cells3' HN2.out
  go_wp2_with fail
  refine (restr_any id _).mono ?_
  rintro e w3 ⟨rfl, rfl⟩
  go_wp2_with fail
  refine (rrestr_any id _).mono ?_
  rintro e w3 ⟨rfl, rfl⟩
  generalize decide (restr id) = r at *
  go_wp2_with fail
  refine (known11 _).mono ?_
  rintro e w4 ⟨rfl, hb4⟩
  have b0 := HB2.out
  have k0 := b0.size
  have HB4 := Lib.hid (bstep (B := w.heap.size) (w := w) hb4 (by go_grown) (Nat.le_refl _))
  go_wp2_with fail
  go_ret
  exact ⟨rfl, HB4.out⟩

theorem ids_frame (a0 : Int) (w : World) (w0 : (Lit.int .i64 a0).wf = true) : Calls Try.prog 7 #[.int .i64 a0] w fun e w' => e = .returned (.bool true) ∧ Below w.heap.size w w' := ids_walk a0 w
end Go.Proofs.Ytagkbacgdkbbeaa
