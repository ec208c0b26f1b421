/-
  CONTRACTS of Split, Join, Restricted, canid's and the document's.
-/
import Derived.Test.YtagkbacgdkbbeaaIds
import Derived.Laws.ResultCell
import Derived.Deep.WholeRow
set_option linter.unusedSimpArgs false
set_option linter.unusedVariables false
namespace Go.Proofs.Ytagkbacgdkbbeaa
open Go.RowKit
attribute [local go_sem] Oper.semAt_some

theorem results_row_tmp {P : Program} {fn : Func} {p u : Tmp} {ty : TypeId} (h : fn.results = #[.cell p ty, .tmp u]) (tmps : Array Value) (w : World) (g : Nat) (t : TypeId) (cs : Array Value) (fr : Nat × Nat) (d : TypeDesc)
    (hp : tmps.getD p undef = .pointer (some ⟨g, 0, none⟩)) (hg : w.heap[g]? = some (.cells cs t fr))
    (hu : P.underlying ty = some d) (hd : (match d with | .struct _ | .array _ _ => true | _ => false) = true) (hi : (P.info? ty).map (·.size) = some cs.size) :
    (results fn tmps).run P w = .ok (.tuple #[.agg cs, tmps.getD u undef]) w := by
  rw [results_cell_tmp h, hp]
  simp [asAddr, run_loadVar_row w g t ty cs fr d hg hu hd hi]

/-! plain arithmetic -/
theorem and_pow (a i : Nat) : a &&& 2 ^ i = if a / 2 ^ i % 2 = 1 then 2 ^ i else 0 := by
  apply Nat.eq_of_testBit_eq
  intro j
  rw [Nat.testBit_and, Nat.testBit_two_pow]
  by_cases e : i = j
  · subst e
    rw [Nat.testBit_eq_decide_div_mod_eq]
    by_cases c : a / 2 ^ i % 2 = 1
    · simp [c, Nat.testBit_two_pow_self]
    · simp [c]
  · split
    · simp [Nat.testBit_two_pow, e]
    · simp [e]
theorem and31 (a : Nat) (ha : a < 4294967296) : bits .and .u32 (a : Int) 2147483648 = if 2147483648 ≤ a then 2147483648 else 0 := by
  have h := (bits_nat .u32 32 (by decide) (fun n h0 h1 => by rw [IntKind.wrap_u32]; omega) a 2147483648 ha (by decide)).1
  rw [show ((2147483648 : Nat) : Int) = 2147483648 from rfl] at h
  rw [h, show (2147483648 : Nat) = 2 ^ 31 from rfl, and_pow]
  by_cases c : 2147483648 ≤ a
  · have : a / 2 ^ 31 % 2 = 1 := by omega
    simp [this, c]
  · have : ¬ a / 2 ^ 31 % 2 = 1 := by omega
    simp [this, c]
theorem and30 (a : Nat) (ha : a < 4294967296) : bits .and .u32 (a : Int) 1073741824 = if 1073741824 ≤ a % 2147483648 then 1073741824 else 0 := by
  have h := (bits_nat .u32 32 (by decide) (fun n h0 h1 => by rw [IntKind.wrap_u32]; omega) a 1073741824 ha (by decide)).1
  rw [show ((1073741824 : Nat) : Int) = 1073741824 from rfl] at h
  rw [h, show (1073741824 : Nat) = 2 ^ 30 from rfl, and_pow]
  by_cases c : 1073741824 ≤ a % 2147483648
  · have : a / 2 ^ 30 % 2 = 1 := by omega
    simp [this, c]
  · have : ¬ a / 2 ^ 30 % 2 = 1 := by omega
    simp [this, c]
theorem andNot30 (a : Nat) (ha : a < 4294967296) : bits .andNot .u32 (a : Int) 3221225472 = ((a % 1073741824 : Nat) : Int) := by
  simp only [bits]
  rw [show (3221225472 : Int) = ((3221225472 : Nat) : Int) from rfl, BitVec.ofInt_natCast, BitVec.ofInt_natCast, BitVec.toNat_and, BitVec.toNat_not, BitVec.toNat_ofNat, BitVec.toNat_ofNat,
    Nat.mod_eq_of_lt (show a < 2 ^ IntKind.u32.bits from ha), show 2 ^ IntKind.u32.bits - 1 - 3221225472 % 2 ^ IntKind.u32.bits = 2 ^ 30 - 1 from rfl, Nat.and_two_pow_sub_one_eq_mod, IntKind.wrap_u32]
  omega
theorem or31 (a : Nat) (ha : a < 2048) : bits .or .u32 (a : Int) 2147483648 = ((2147483648 + a : Nat) : Int) := by
  have h := (bits_nat .u32 32 (by decide) (fun n h0 h1 => by rw [IntKind.wrap_u32]; omega) a 2147483648 (by omega) (by decide)).2
  rw [show ((2147483648 : Nat) : Int) = 2147483648 from rfl] at h
  rw [h, Nat.or_comm, ← show 2 ^ 31 * 1 = 2147483648 from rfl, ← Nat.two_pow_add_eq_or_of_lt (show a < 2 ^ 31 by omega) 1]
theorem or30 (a : Nat) (ha : a < 2048) : bits .or .u32 (a : Int) 1073741824 = ((1073741824 + a : Nat) : Int) := by
  have h := (bits_nat .u32 32 (by decide) (fun n h0 h1 => by rw [IntKind.wrap_u32]; omega) a 1073741824 (by omega) (by decide)).2
  rw [show ((1073741824 : Nat) : Int) = 1073741824 from rfl] at h
  rw [h, Nat.or_comm, ← show 2 ^ 30 * 1 = 1073741824 from rfl, ← Nat.two_pow_add_eq_or_of_lt (show a < 2 ^ 30 by omega) 1]
theorem or3 (a : Nat) (ha : a < 2048) : bits .or .u32 ((2147483648 + a : Nat) : Int) 1073741824 = ((3221225472 + a : Nat) : Int) := by
  have h := (bits_nat .u32 32 (by decide) (fun n h0 h1 => by rw [IntKind.wrap_u32]; omega) (2147483648 + a) 1073741824 (by omega) (by decide)).2
  rw [show ((1073741824 : Nat) : Int) = 1073741824 from rfl] at h
  have e1 : 2147483648 + a = 2147483648 ||| a := by
    have := Nat.two_pow_add_eq_or_of_lt (show a < 2 ^ 31 by omega) 1
    simpa using this
  have e2 : 3221225472 + a = 3221225472 ||| a := by
    have := Nat.two_pow_add_eq_or_of_lt (show a < 2 ^ 30 by omega) 3
    simpa using this
  rw [h, e1, e2, Nat.or_assoc, Nat.or_comm a, ← Nat.or_assoc]
  rfl

def spGood (a : Nat) : Prop := a % 1073741824 < 2048
instance (a : Nat) : Decidable (spGood a) := by unfold spGood; infer_instance
def spOff (a : Nat) : Bool := decide (spGood a ∧ 2147483648 ≤ a)
def spNo (a : Nat) : Bool := decide (spGood a ∧ 1073741824 ≤ a % 2147483648)
def spId (a : Nat) : Int := if spGood a then ((a % 2048 : Nat) : Int) else 0
def spE (a : Nat) : Int := if spGood a then 0 else 4



theorem split_any (a : Nat) (ha : a < 4294967296) (w : World) : Calls Try.prog 29 #[.int .u32 (a : Int)] w fun e w' => e = .returned (.tuple #[.agg #[.bool (spOff a), .bool (spNo a), .int .i64 (spId a)], .int .i64 (spE a)]) ∧ Below w.heap.size w w' := by
  have e1 := and31 a ha
  have e2 := and30 a ha
  have e3 := andNot30 a ha
  by_cases g : spGood a
  · have s1 : spOff a = decide (2147483648 ≤ a) := by unfold spOff; simp [g]
    have s2 : spNo a = decide (1073741824 ≤ a % 2147483648) := by unfold spNo; simp [g]
    have s3 : spId a = ((a % 1073741824 : Nat) : Int) := by unfold spId; rw [if_pos g]; unfold spGood at g; omega
    have s4 : spE a = 0 := by unfold spE; rw [if_pos g]
    rw [s1, s2, s3, s4]
    unfold spGood at g
    have q1 : (bits .and .u32 (a : Int) 2147483648 != 0) = decide (2147483648 ≤ a) := by rw [e1]; by_cases c : 2147483648 ≤ a <;> simp [c]
    have q2 : (bits .and .u32 (a : Int) 1073741824 != 0) = decide (1073741824 ≤ a % 2147483648) := by rw [e2]; by_cases c : 1073741824 ≤ a % 2147483648 <;> simp [c]
    rw [← q1, ← q2]
    generalize a % 1073741824 = r at *
    clear s1 s2 s3 s4 e1 e2 q1 q2
    go_enter Try.func29, Try.ntmps29
    go_wp2_with fail
    ((try simp only [Exit.inBlock, Exit.then]); refine bodyPost_ret (results_row_tmp rfl _ _ _ _ _ (0, 0) _ rfl (heap_alloc_new _ _) Try.underlying62 rfl rfl) rfl ?_)
    exact ⟨rfl, (Below.refl _ w).alloc (Nat.le_refl _) _⟩
  · have s1 : spOff a = false := by unfold spOff; simp [g]
    have s2 : spNo a = false := by unfold spNo; simp [g]
    have s3 : spId a = 0 := by unfold spId; rw [if_neg g]
    have s4 : spE a = 4 := by unfold spE; rw [if_neg g]
    rw [s1, s2, s3, s4]
    unfold spGood at g
    generalize a % 1073741824 = r at *
    have g' : ¬ (r : Int) ≤ 2047 := by omega
    clear s1 s2 s3 s4 e1 e2
    go_enter Try.func29, Try.ntmps29
    go_wp2_with fail
    ((try simp only [Exit.inBlock, Exit.then]); refine bodyPost_ret (results_row_tmp rfl _ _ _ _ _ (0, 0) _ rfl (heap_alloc_new _ _) Try.underlying62 rfl rfl) rfl ?_)
    exact ⟨rfl, (Below.refl _ w).alloc (Nat.le_refl _) _⟩

theorem rsplit_any (a : Nat) (ha : a < 4294967296) (w : World) : Calls Try.prog 30 #[.int .u32 (a : Int)] w fun e w' => e = .returned (.tuple #[.agg #[.bool (spOff a), .bool (spNo a), .int .i64 (spId a)], .int .i64 (spE a)]) ∧ Below w.heap.size w w' := by
  by_cases g : spGood a
  · have s1 : spOff a = decide ((2147483648 : Int) ≤ (a : Int)) := by unfold spOff; simp [g]; omega
    have s2 : spNo a = decide ((1073741824 : Int) ≤ (a : Int) % 2147483648) := by unfold spNo; simp [g]; omega
    have s3 : spId a = (a : Int) % 2048 := by unfold spId; rw [if_pos g]; omega
    have s4 : spE a = 0 := by unfold spE; rw [if_pos g]
    rw [s1, s2, s3, s4]
    unfold spGood at g
    have g' : ¬ (2048 : Int) ≤ (a : Int) % 1073741824 := by omega
    clear s1 s2 s3 s4 g
    go_enter Try.func30, Try.ntmps30
    go_wp2_with fail
    ((try simp only [Exit.inBlock, Exit.then]); refine bodyPost_ret (results_row_tmp rfl _ _ _ _ _ (0, 0) _ rfl (heap_alloc_new _ _) Try.underlying61 rfl rfl) rfl ?_)
    exact ⟨rfl, (Below.refl _ w).alloc (Nat.le_refl _) _⟩
  · have s1 : spOff a = false := by unfold spOff; simp [g]
    have s2 : spNo a = false := by unfold spNo; simp [g]
    have s3 : spId a = 0 := by unfold spId; rw [if_neg g]
    have s4 : spE a = 4 := by unfold spE; rw [if_neg g]
    rw [s1, s2, s3, s4]
    unfold spGood at g
    have g' : (2048 : Int) ≤ (a : Int) % 1073741824 := by omega
    clear s1 s2 s3 s4 g
    go_enter Try.func30, Try.ntmps30
    go_wp2_with fail
    ((try simp only [Exit.inBlock, Exit.then]); refine bodyPost_ret (results_row_tmp rfl _ _ _ _ _ (0, 0) _ rfl (heap_alloc_new _ _) Try.underlying61 rfl rfl) rfl ?_)
    exact ⟨rfl, (Below.refl _ w).alloc (Nat.le_refl _) _⟩

def jW (off no : Bool) (id : Int) : Int := if 0 ≤ id ∧ id ≤ 2047 then id + (if off then 2147483648 else 0) + (if no then 1073741824 else 0) else 0
def jE (id : Int) : Int := if 0 ≤ id ∧ id ≤ 2047 then 0 else 9

theorem join_any (off no : Bool) (id : Int) (w : World) : Calls Try.prog 31 #[.agg #[.bool off, .bool no, .int .i64 id]] w fun e w' => e = .returned (.tuple #[.int .u32 (jW off no id), .int .i64 (jE id)]) ∧ Below w.heap.size w w' := by
  have hb : Below w.heap.size w (w.alloc (.cells #[.bool off, .bool no, .int .i64 id] 62)) := (Below.refl _ w).alloc (Nat.le_refl _) _
  by_cases g : 0 ≤ id ∧ id ≤ 2047
  · unfold jW jE
    rw [if_pos g, if_pos g]
    obtain ⟨a, rfl⟩ := Int.eq_ofNat_of_zero_le g.1
    have ha : a < 2048 := by omega
    have e1 := or31 a ha
    have e2 := or30 a ha
    have e3 := or3 a ha
    cases off <;> cases no
    · have HB := Lib.hid hb
      clear hb e1 e2 e3
      go_enter Try.func31, Try.ntmps31
      go_wp2_with fail
      refine (between_yes _ _ _ (by omega) (by omega) _).mono ?_
      rintro e w' ⟨rfl, rfl⟩
      go_wp2_with fail
      go_ret2
      exact ⟨by simp, HB.out⟩
    · have HB := Lib.hid hb
      have E := Lib.hid e2
      clear hb e1 e2 e3
      go_enter Try.func31, Try.ntmps31
      go_wp2_with fail
      refine (between_yes _ _ _ (by omega) (by omega) _).mono ?_
      rintro e w' ⟨rfl, rfl⟩
      go_wp2_with fail
      go_ret2
      have e2 := E.out
      exact ⟨by simp [e2]; omega, HB.out⟩
    · have HB := Lib.hid hb
      have E := Lib.hid e1
      clear hb e1 e2 e3
      go_enter Try.func31, Try.ntmps31
      go_wp2_with fail
      refine (between_yes _ _ _ (by omega) (by omega) _).mono ?_
      rintro e w' ⟨rfl, rfl⟩
      go_wp2_with fail
      go_ret2
      have e2 := E.out
      exact ⟨by simp [e2]; omega, HB.out⟩
    · have HB := Lib.hid hb
      have E := Lib.hid (And.intro e1 e3)
      clear hb e1 e2 e3
      go_enter Try.func31, Try.ntmps31
      go_wp2_with fail
      refine (between_yes _ _ _ (by omega) (by omega) _).mono ?_
      rintro e w' ⟨rfl, rfl⟩
      go_wp2_with fail
      go_ret2
      obtain ⟨e1, e3⟩ := E.out
      have e3' : bits .or .u32 (2147483648 + (a : Int)) 1073741824 = 3221225472 + (a : Int) := by have h3 := e3; rw [Int.natCast_add, Int.natCast_add] at h3; exact h3
      exact ⟨by simp [e1, e3']; omega, HB.out⟩
  · unfold jW jE
    rw [if_neg g, if_neg g]
    have HB := Lib.hid hb
    clear hb
    have g' : id < 0 ∨ 2047 < id := by omega
    clear g
    go_enter Try.func31, Try.ntmps31
    go_wp2_with fail
    refine (between_no _ _ _ g' _).mono ?_
    rintro e w' ⟨rfl, rfl⟩
    go_wp2_with fail
    go_ret2
    exact ⟨rfl, HB.out⟩

theorem rjoin_any (off no : Bool) (id : Int) (w : World) : Calls Try.prog 32 #[.agg #[.bool off, .bool no, .int .i64 id]] w fun e w' => e = .returned (.tuple #[.int .u32 (jW off no id), .int .i64 (jE id)]) ∧ Below w.heap.size w w' := by
  have hb : Below w.heap.size w (w.alloc (.cells #[.bool off, .bool no, .int .i64 id] 61)) := (Below.refl _ w).alloc (Nat.le_refl _) _
  have HB := Lib.hid hb
  clear hb
  by_cases g : 0 ≤ id ∧ id ≤ 2047
  · unfold jW jE
    rw [if_pos g, if_pos g]
    obtain ⟨g1, g2⟩ := g
    have d1 : decide (id < 0) = false := by rw [decide_eq_false_iff_not]; omega
    have d2 : decide (2047 < id) = false := by rw [decide_eq_false_iff_not]; omega
    cases off <;> cases no <;>
    · go_enter Try.func32, Try.ntmps32
      go_wp2_with fail
      go_ret2
      exact ⟨by simp, HB.out⟩
  · unfold jW jE
    rw [if_neg g, if_neg g]
    by_cases g1 : id < 0
    · have d1 : decide (id < 0) = true := by rw [decide_eq_true_iff]; omega
      clear g g1
      go_enter Try.func32, Try.ntmps32
      go_wp2_with fail
      go_ret2
      exact ⟨rfl, HB.out⟩
    · have d1 : decide (id < 0) = false := by rw [decide_eq_false_iff_not]; omega
      have d2 : decide (2047 < id) = true := by rw [decide_eq_true_iff]; omega
      clear g g1
      go_enter Try.func32, Try.ntmps32
      go_wp2_with fail
      go_ret2
      exact ⟨rfl, HB.out⟩
end Go.Proofs.Ytagkbacgdkbbeaa
