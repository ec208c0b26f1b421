/-
  CONTRACT of emcy's Raise.
-/
import Derived.Test.YtlhbgikgaoeciaaEmcC
set_option linter.unusedSimpArgs false
set_option linter.unusedVariables false
namespace Go.Proofs.Ytlhbgikgaoeciaa
open Go.RowKit
attribute [local go_sem] Oper.semAt_some

theorem info64 : (Try.prog.info? 64).map (fun i => (i.zero, i.size, i.bytes)) = some (some (.agg #[.int .i64 0, .int .i64 0]), 2, 16) := by kernel_rfl

def rsOk (fs : List (Int × Int)) (c i : Int) : Prop := bitC c ≠ 0 ∧ (0 ≤ i ∧ i ≤ 255) ∧ (c, i) ∉ fs ∧ fs.length ≠ 64
instance (fs : List (Int × Int)) (c i : Int) : Decidable (rsOk fs c i) := by unfold rsOk; infer_instance
theorem bitC_pos {c : Int} (h : bitC c ≠ 0) : 1 ≤ c ∧ c ≤ 65535 := by
  by_cases k : 1 ≤ c ∧ c ≤ 65535
  · exact k
  · exact absurd (show bitC c = 0 by unfold bitC; rw [if_neg k]) h
theorem idx_mem {fs : List (Int × Int)} {x : Int × Int} : fs.idxOf x < fs.length ↔ x ∈ fs := List.idxOf_lt_length_iff

set_option maxRecDepth 100000 in
set_option maxHeartbeats 4000000 in
theorem raise_no (b : Nat) (id : Int) (av hv : Value) (fs : List (Int × Int)) (hs : List Int) (c i : Int) (w : World) (h : Emc w b id av hv fs hs) (hid : id ≠ 0) (hk : ¬ rsOk fs c i) :
    Calls Try.prog 8 #[.pointer (some ⟨b, 0, none⟩), .int .i64 c, .int .i64 i] w fun e w' => e = .returned (.slice none 0 0) ∧ Below w.heap.size w w' := by
  obtain ⟨aa, ac, rfl, hnil, hac, hcm⟩ := h.2.1.shape
  have hml : maxLen ≤ 9223372036854775807 := by unfold maxLen; omega
  obtain ⟨c0, c1, c2⟩ := cells3' h.1
  have hbl := h.lt
  have HE := Lib.hid h
  have hidb : (id == 0) = false := by rw [beq_eq_false_iff_ne]; exact hid
  have HB := Lib.hid (bit_any c w)
  clear h hid hnil
  by_cases k1 : bitC c = 0
  · rw [k1] at HB
    clear hk k1
    go_enter Try.func8, Try.ntmps8
    go_wp2_with fail
    refine HB.out.mono ?_
    rintro e w1 ⟨rfl, rfl⟩
    go_wp2_with fail
    go_ret
    exact ⟨rfl, Below.refl _ _⟩
  have kb1 : (bitC c == 0) = false := by rw [beq_eq_false_iff_ne]; exact k1
  by_cases k2 : i < 0
  · have d2 : decide (i < 0) = true := decide_eq_true k2
    clear hk k1
    generalize bitC c = bc at *
    go_enter Try.func8, Try.ntmps8
    go_wp2_with fail
    refine HB.out.mono ?_
    rintro e w1 ⟨rfl, rfl⟩
    go_wp2_with fail
    go_ret
    exact ⟨rfl, Below.refl _ _⟩
  have d2 : decide (i < 0) = false := decide_eq_false k2
  by_cases k3 : 255 < i
  · have d3 : decide (255 < i) = true := decide_eq_true k3
    clear hk k1
    generalize bitC c = bc at *
    go_enter Try.func8, Try.ntmps8
    go_wp2_with fail
    refine HB.out.mono ?_
    rintro e w1 ⟨rfl, rfl⟩
    go_wp2_with fail
    go_ret
    exact ⟨rfl, Below.refl _ _⟩
  have d3 : decide (255 < i) = false := decide_eq_false k3
  have hA := fun w' hb => at_any b id (.slice aa fs.length ac) hv fs hs c i w' (HE.out.below (w' := w') hb)
  have HA := Lib.hid hA
  by_cases k4 : (c, i) ∈ fs
  · have k5 := idx_mem.2 k4
    have d4 : ((fs.idxOf (c, i) : Nat) : Int) < (fs.length : Int) := by omega
    clear hk k1 k4 k5 hA
    generalize fs.idxOf (c, i) = ix at *
    generalize bitC c = bc at *
    go_enter Try.func8, Try.ntmps8
    go_wp2_with fail
    refine HB.out.mono ?_
    rintro e w1 ⟨rfl, rfl⟩
    go_wp2_with fail
    refine (HA.out _ (by go_grown)).mono ?_
    rintro e w2 ⟨rfl, hb2⟩
    have HB2 := Lib.hid (bstep (B := w.heap.size) (w := w) hb2 (by go_grown) (Nat.le_refl _))
    clear hb2
    go_wp2_with fail
    go_ret
    exact ⟨rfl, HB2.out⟩
  have k5 : fs.length = 64 := by
    by_cases e : fs.length = 64
    · exact e
    · exact absurd ⟨k1, ⟨by omega, by omega⟩, k4, e⟩ hk
  have d4 : ¬ ((fs.idxOf (c, i) : Nat) : Int) < (fs.length : Int) := fun h => k4 (idx_mem.1 (by omega))
  have d5 : ((fs.length : Nat) : Int) = 64 := by omega
  have d5b : (((fs.length : Nat) : Int) == 64) = true := by rw [beq_iff_eq]; exact d5
  clear hk k1 k4 k5 hA d5
  generalize fs.idxOf (c, i) = ix at *
  generalize bitC c = bc at *
  go_enter Try.func8, Try.ntmps8
  go_wp2_with fail
  refine HB.out.mono ?_
  rintro e w1 ⟨rfl, rfl⟩
  go_wp2_with fail
  refine (HA.out _ (by go_grown)).mono ?_
  rintro e w2 ⟨rfl, hb2⟩
  have HB2 := Lib.hid (bstep (B := w.heap.size) (w := w) hb2 (by go_grown) (Nat.le_refl _))
  clear hb2
  go_wp2_with fail
  go_ret
  exact ⟨rfl, HB2.out⟩

theorem raise_nil (c i : Int) (w : World) : Calls Try.prog 8 #[.pointer none, .int .i64 c, .int .i64 i] w fun e w' => e = .returned (.slice none 0 0) ∧ w = w' := by
  go_enter Try.func8, Try.ntmps8
  go_wp2_with fail
  go_ret
  exact ⟨rfl, rfl⟩
theorem clear_nil (c i : Int) (w : World) : Calls Try.prog 9 #[.pointer none, .int .i64 c, .int .i64 i] w fun e w' => e = .returned (.slice none 0 0) ∧ w = w' := by
  go_enter Try.func9, Try.ntmps9
  go_wp2_with fail
  go_ret
  exact ⟨rfl, rfl⟩
end Go.Proofs.Ytlhbgikgaoeciaa
