/-
  LAWS CanidNames, CanidJoins, CanidBack: the walks.
-/
import Derived.Test.YtagkbacgdkbbeaaKnown11
import Derived.Test.YtagkbacgdkbbeaaRefId
import Derived.Test.YtagkbacgdkbbeaaAid
import Derived.Handy
set_option linter.unusedSimpArgs false
set_option linter.unusedVariables false
namespace Go.Proofs.Ytagkbacgdkbbeaa
open Go.RowKit
attribute [local go_sem] Oper.semAt_some

set_option maxHeartbeats 1000000 in
theorem names_walk (k n d : Int) (w : World) : Calls Try.prog 6 #[.int .i64 k, .int .i64 n, .int .i64 d] w fun e w' => e = .returned (.bool true) ∧ Below w.heap.size w w' := by
  go_enter Try.func6, Try.ntmps6
  go_wp2_with fail
  refine (id_any k n d _).mono ?_
  rintro e w1 ⟨rfl, hb1⟩
  have HB1 := Lib.hid (bstep (B := w.heap.size) (w := w) hb1 (by go_grown) (Nat.le_refl _))
  clear hb1
  go_wp2_with fail
  refine (rid_any k n d _).mono ?_
  rintro e w2 ⟨rfl, hb2⟩
  generalize idN k n d = x at *
  generalize idE k n d = y at *
  have HB2 := Lib.hid (HB1.out.trans (bstep (B := w1.heap.size) (w := w1) hb2 (by go_grown) (Nat.le_refl _) |>.mono HB1.out.size))
  clear hb2 HB1
  go_wp2_with fail
  refine (known11 _).mono ?_
  rintro e w3 ⟨rfl, hb3⟩
  go_wp2_with fail
  go_ret
  exact ⟨rfl, HB2.out.trans (hb3.mono HB2.out.size)⟩

theorem names_frame (a0 a1 a2 : Int) (w : World) (w0 : (Lit.int .i64 a0).wf = true) (w1 : (Lit.int .i64 a1).wf = true) (w2 : (Lit.int .i64 a2).wf = true) :
    Calls Try.prog 6 #[.int .i64 a0, .int .i64 a1, .int .i64 a2] w fun e w' => e = .returned (.bool true) ∧ Below w.heap.size w w' := names_walk a0 a1 a2 w

theorem sp_of (x a : Nat) (off no : Bool) (ha : a < 2048) (hx : x = a + (if off then 2147483648 else 0) + (if no then 1073741824 else 0)) :
    x < 4294967296 ∧ spOff x = off ∧ spNo x = no ∧ spId x = (a : Int) ∧ spE x = 0 ∧ decide ((2147483648 : Int) ≤ (x : Int)) = off := by
  cases off <;> cases no <;> simp at hx <;>
  · have g : spGood x := by unfold spGood; omega
    refine ⟨by omega, ?_, ?_, ?_, ?_, ?_⟩
    · unfold spOff; simp [g]; omega
    · unfold spNo; simp [g]; omega
    · unfold spId; rw [if_pos g]; omega
    · unfold spE; rw [if_pos g]
    · simp; omega

theorem jW_nat (off no : Bool) (a : Nat) (ha : a < 2048) : ∃ x : Nat, jW off no (a : Int) = (x : Int) ∧ jE (a : Int) = 0 ∧ x < 4294967296 ∧ spOff x = off ∧ spNo x = no ∧ spId x = (a : Int) ∧ spE x = 0 ∧ decide ((2147483648 : Int) ≤ (x : Int)) = off := by
  refine ⟨a + (if off then 2147483648 else 0) + (if no then 1073741824 else 0), ?_, ?_, sp_of _ a off no ha rfl⟩
  · unfold jW; rw [if_pos (by omega)]; cases off <;> cases no <;> simp
  · unfold jE; rw [if_pos (by omega)]

set_option maxHeartbeats 1000000 in
theorem joins_walk (off no : Bool) (b : Nat) (hb : b < 65536) (w : World) : Calls Try.prog 10 #[.bool off, .bool no, .int .u16 (b : Int)] w fun e w' => e = .returned (.bool true) ∧ Below w.heap.size w w' := by
  obtain ⟨a, ha, h2⟩ : ∃ a : Nat, (b : Int) % 2048 = (a : Int) ∧ a < 2048 := ⟨b % 2048, by omega, by omega⟩
  obtain ⟨x, hW, hE, hx, h3, h4, h5, h6, h7⟩ := jW_nat off no a h2
  have HA := Lib.hid ha
  have HX := Lib.hid (And.intro hW (And.intro hE (And.intro h3 (And.intro h4 (And.intro h5 (And.intro h6 h7))))))
  have g2 := guard62
  have q2 := eq62 off no a off no a
  clear ha hW hE h3 h4 h5 h6 h7
  simp only [beq_self_eq_true, Bool.and_self, Bool.true_and] at q2
  go_enter Try.func10, Try.ntmps10
  go_wp2_with fail
  rw [HA.out]
  refine (join_any off no a _).mono ?_
  rintro e w1 ⟨rfl, hb1⟩
  rw [HX.out.1, HX.out.2.1]
  have HB1 := Lib.hid (bstep (B := w.heap.size) (w := w) hb1 (by go_grown) (Nat.le_refl _))
  have hC1 := bkeep' hb1 (b := w.heap.size) (o := .cells #[.bool off, .bool no, .int .i64 a] 62 (0, 0)) (by exact heap_alloc_new w _)
  have s1 := hb1.size
  clear hb1
  obtain ⟨c0, c1, c2⟩ := cells3' hC1
  have k1 : w.heap.size < w1.heap.size := by simp at s1; omega
  clear hC1
  have HC1 := Lib.hid (And.intro c0 (And.intro c1 c2))
  clear c0 c1 c2
  go_wp2_with fail
  refine (split_any x hx _).mono ?_
  rintro e w2 ⟨rfl, hb2⟩
  rw [HX.out.2.2.1, HX.out.2.2.2.1, HX.out.2.2.2.2.1, HX.out.2.2.2.2.2.1]
  have s2 := hb2.size
  have HB2 := Lib.hid (HB1.out.trans (hb2.mono HB1.out.size))
  have c0 : w2.cell? ⟨w.heap.size, 0, none⟩ = some (.bool off) := (hb2.cell (p := ⟨w.heap.size, 0, none⟩) k1).trans HC1.out.1
  have c1 : w2.cell? ⟨w.heap.size, 1, none⟩ = some (.bool no) := (hb2.cell (p := ⟨w.heap.size, 1, none⟩) k1).trans HC1.out.2.1
  have c2 : w2.cell? ⟨w.heap.size, 2, none⟩ = some (.int .i64 a) := (hb2.cell (p := ⟨w.heap.size, 2, none⟩) k1).trans HC1.out.2.2
  have k2 : w.heap.size < w2.heap.size := by omega
  clear hb2 HB1 HC1
  have h7 := HX.out.2.2.2.2.2.2
  go_wp2_with fail
  refine (known11 _).mono ?_
  rintro e w3 ⟨rfl, hb3⟩
  go_wp2_with fail
  go_ret
  exact ⟨rfl, (HB2.out.alloc (by omega) _).trans (hb3.mono (by simp; omega))⟩

theorem joins_frame (off no : Bool) (a : Int) (w : World) (w0 : (Lit.int .u16 a).wf = true) : Calls Try.prog 10 #[.bool off, .bool no, .int .u16 a] w fun e w' => e = .returned (.bool true) ∧ Below w.heap.size w w' := by
  obtain ⟨s, rfl, hs⟩ := u16_nat w0
  exact joins_walk off no s hs w
end Go.Proofs.Ytagkbacgdkbbeaa
