/-
  CONTRACTS of pulse's functions and the document's.
-/
import Derived.Test.YtagkbacgdkbbeaaWords
import Derived.Test.YtagkbacgdkbbeaaRestr
import Derived.Test.YtagkbacgdkbbeaaAid
import Derived.Handy
import Derived.Deep.Light
import Derived.BigQuiet
import Derived.Deep.QuietTactic
import Derived.Deep.RegionHeld3
set_option linter.unusedSimpArgs false
set_option linter.unusedVariables false
namespace Go.Proofs.Ytagkbacgdkbbeaa
open Go.RowKit
attribute [local go_sem] Oper.semAt_some

theorem below_dn {B : Nat} {a w : World} (h : Below B a w) (n : Nat) : Below B a (w.drewN n) := ⟨h.os, h.tape, h.output, h.size, h.block⟩
theorem ret_int {k : IntKind} {a b : Int} (h : a = b) : Ending.returned (.int k a) = .returned (.int k b) := by rw [h]

def badO (o : Int) : Prop := o ≠ 0 ∧ (o < 2 ∨ 240 < o)
instance (o : Int) : Decidable (badO o) := by unfold badO; infer_instance
def chk (E : Int) (N : Bool) (I o : Int) : Int := if E ≠ 0 ∨ N = true then 4 else if restr I ∨ badO o then 9 else 0
def chE (a : Nat) (o : Int) : Int := chk (spE a) (spNo a) (spId a) o

set_option maxRecDepth 100000 in
set_option maxHeartbeats 1000000 in
theorem check_any (a : Nat) (ha : a < 4294967296) (o : Int) (w : World) : Calls Try.prog 13 #[.int .u32 (a : Int), .int .i64 o] w fun e w' => e = .returned (.int .i64 (chE a o)) ∧ Below w.heap.size w w' := by
  unfold chE
  have HS := Lib.hid (split_any a ha)
  generalize spOff a = x1 at *
  generalize spNo a = x2 at *
  generalize spId a = x3 at *
  generalize spE a = x4 at *
  go_enter Try.func13, Try.ntmps13
  go_wp2_with fail
  refine (HS.out _).mono ?_
  rintro e w1 ⟨rfl, hb1⟩
  have HB1 := Lib.hid (bstep (B := w.heap.size) (w := w) hb1 (by go_grown) (Nat.le_refl _))
  clear hb1
  have b1 := HB1.out
  have k1 := b1.size
  go_wp2_with (go_at_call 27; refine (restr_any _ _).mono ?_; rintro e w' ⟨rfl, rfl⟩)
  all_goals
    go_ret
    refine ⟨ret_int ?_, by go_grown⟩
    go_light
    unfold chk badO
    simp_all
    try omega

set_option maxRecDepth 100000 in
set_option maxHeartbeats 1000000 in
theorem rcheck_any (a : Nat) (ha : a < 4294967296) (o : Int) (w : World) : Calls Try.prog 14 #[.int .u32 (a : Int), .int .i64 o] w fun e w' => e = .returned (.int .i64 (chE a o)) ∧ Below w.heap.size w w' := by
  unfold chE
  have HS := Lib.hid (rsplit_any a ha)
  generalize spOff a = x1 at *
  generalize spNo a = x2 at *
  generalize spId a = x3 at *
  generalize spE a = x4 at *
  go_enter Try.func14, Try.ntmps14
  go_wp2_with fail
  refine (HS.out _).mono ?_
  rintro e w1 ⟨rfl, hb1⟩
  have HB1 := Lib.hid (bstep (B := w.heap.size) (w := w) hb1 (by go_grown) (Nat.le_refl _))
  clear hb1
  have b1 := HB1.out
  have k1 := b1.size
  go_wp2_with (go_at_call 28; refine (rrestr_any _ _).mono ?_; rintro e w' ⟨rfl, rfl⟩)
  all_goals
    go_ret
    refine ⟨ret_int ?_, by go_grown⟩
    go_light
    unfold chk badO
    simp_all
    try omega

/-- What a word and a highest number must be, where there is nothing wrong. -/
theorem ch_ok {a : Nat} {o : Int} (h : chE a o = 0) : spE a = 0 ∧ spNo a = false ∧ (128 ≤ spId a ∧ spId a ≤ 2047) ∧ (o = 0 ∨ (2 ≤ o ∧ o ≤ 240)) := by
  unfold chE chk at h
  by_cases c : spE a ≠ 0 ∨ spNo a = true
  · rw [if_pos c] at h; omega
  · rw [if_neg c] at h
    by_cases d : restr (spId a) ∨ badO o
    · rw [if_pos d] at h; omega
    · have c1 : spE a = 0 := Classical.byContradiction fun k => c (.inl k)
      have c2 : ¬ spNo a = true := fun k => c (.inr k)
      have d1 : ¬ restr (spId a) := fun k => d (.inl k)
      have d2 : ¬ badO o := fun k => d (.inr k)
      refine ⟨c1, by simpa using c2, ?_, ?_⟩
      · unfold restr at d1; omega
      · unfold badO at d2; omega

set_option maxRecDepth 100000 in
set_option maxHeartbeats 1000000 in
theorem pnew_ok (a : Nat) (ha : a < 4294967296) (o : Int) (w : World) (h : chE a o = 0) : Calls Try.prog 11 #[.int .u32 (a : Int), .int .i64 o] w fun e w' => ∃ g, e = .returned (.tuple #[.pointer (some ⟨g, 0, none⟩), .int .i64 0]) ∧ w.heap.size ≤ g ∧
    w'.heap[g]? = some (.cells #[.int .i64 (spId a), .int .i64 o, .int .i64 0] 46 (0, 0)) ∧ Below w.heap.size w w' := by
  have H := Lib.hid (And.intro (check_any a ha o) (split_any a ha))
  rw [h] at H
  generalize spOff a = x1 at *
  generalize spNo a = x2 at *
  generalize spId a = x3 at *
  generalize spE a = x4 at *
  clear h
  go_enter Try.func11, Try.ntmps11
  go_wp2_with fail
  refine (H.out.1 _).mono ?_
  rintro e w1 ⟨rfl, hb1⟩
  have HB1 := Lib.hid (bstep (B := w.heap.size) (w := w) hb1 (by go_grown) (Nat.le_refl _))
  clear hb1
  go_wp2_with fail
  refine (H.out.2 _).mono ?_
  rintro e w2 ⟨rfl, hb2⟩
  have HB2 := Lib.hid (bstep (B := w.heap.size) (w := w) hb2 HB1.out (Nat.le_refl _))
  clear hb2
  have b1 := HB2.out
  have k1 := b1.size
  go_wp2_with fail
  go_ret2
  exact ⟨_, rfl, by omega, anew _ _ (by simp), by go_grown⟩

set_option maxRecDepth 100000 in
set_option maxHeartbeats 1000000 in
theorem pnew_no (a : Nat) (ha : a < 4294967296) (o : Int) (w : World) (h : ¬ chE a o = 0) : Calls Try.prog 11 #[.int .u32 (a : Int), .int .i64 o] w fun e w' => e = .returned (.tuple #[.pointer none, .int .i64 (chE a o)]) ∧ Below w.heap.size w w' := by
  have H := Lib.hid (check_any a ha o)
  generalize chE a o = c at *
  go_enter Try.func11, Try.ntmps11
  go_wp2_with fail
  refine (H.out _).mono ?_
  rintro e w1 ⟨rfl, hb1⟩
  have hc : (c != 0) = true := by rw [bne_iff_ne]; exact h
  clear h
  go_wp2_with fail
  go_ret2
  exact ⟨rfl, hb1⟩

set_option maxRecDepth 100000 in
set_option maxHeartbeats 1000000 in
theorem rnew_any (a : Nat) (ha : a < 4294967296) (o : Int) (w : World) : Calls Try.prog 12 #[.int .u32 (a : Int), .int .i64 o] w fun e w' => ∃ g, e = .returned (.tuple #[.pointer (some ⟨g, 0, none⟩), .int .i64 (chE a o)]) ∧ w.heap.size ≤ g ∧
    w'.heap[g]? = some (.cells #[.int .i64 (spId a), .int .i64 o, .int .i64 0] 41 (0, 0)) ∧ Below w.heap.size w w' := by
  have H := Lib.hid (And.intro (rcheck_any a ha o) (rsplit_any a ha))
  generalize chE a o = c at *
  generalize spOff a = x1 at *
  generalize spNo a = x2 at *
  generalize spId a = x3 at *
  generalize spE a = x4 at *
  go_enter Try.func12, Try.ntmps12
  go_wp2_with fail
  refine (H.out.2 _).mono ?_
  rintro e w1 ⟨rfl, hb1⟩
  have HB1 := Lib.hid (bstep (B := w.heap.size) (w := w) hb1 (by go_grown) (Nat.le_refl _))
  clear hb1
  have b1 := HB1.out
  have k1 := b1.size
  go_wp2_with fail
  go_region_held3 (fun w' => w'.cell? ⟨w1.heap.size, 2, none⟩ = some (.int .i64 x3)) (first | go_keep | (exact (hb2.cell (by simp <;> omega)).trans (by first | assumption | (simp [*]; done))))
    (first | (go_at_call 14; refine (H.out.1 _).mono ?_; rintro e w2 ⟨rfl, hb2⟩))
  · go_wp2_with fail
    go_ret2
    have hB := bstep (B := w.heap.size) (w := w) hb2 (by go_grown) (Nat.le_refl _)
    have hN := bkeep' hb2 (show ((w1.alloc (Obj.cells #[Value.bool x1, Value.bool x2, Value.int IntKind.i64 x3] 61)).alloc (Obj.cells #[Value.int IntKind.i64 x3, Value.int IntKind.i64 o, Value.int IntKind.i64 0] 41)).drew.heap[w1.heap.size + 1]? = _ from anew _ _ (by simp))
    exact ⟨_, rfl, by omega, hN, hB⟩
  · go_wp2_with fail
    go_ret2
    have hB := bstep (B := w.heap.size) (w := w) hb2 (by go_grown) (Nat.le_refl _)
    have k2 := hB.size
    exact ⟨_, rfl, by omega, anew _ _ rfl, by go_grown⟩
end Go.Proofs.Ytagkbacgdkbbeaa
