/-
  CONTRACTS of canid's and the document's Id.
-/
import Derived.Test.YtlhbgikgaoeciaaChecked
import Derived.Test.YtlhbgikgaoeciaaKit
import Derived.ChangeKeysEq
import Derived.BigQuiet
import Derived.Deep.QuietTactic
set_option linter.unusedSimpArgs false
set_option linter.unusedVariables false
namespace Go.Proofs.Ytlhbgikgaoeciaa
open Go.RowKit
attribute [local go_sem] Oper.semAt_some

def baseN (k : Int) : Int := if k = 2 ∨ k = 4 ∨ k = 5 then 128 else if k = 3 ∨ k = 6 then 256 else if k = 7 then 1408 else if k = 8 then 1536 else if k = 9 then 1792 else 0
def okN (k n d : Int) : Prop := (1 ≤ k ∧ k ≤ 3 ∧ n = 0 ∧ d = 0) ∨ ((k = 5 ∨ k = 6) ∧ 1 ≤ n ∧ n ≤ 4 ∧ 1 ≤ d ∧ d ≤ 127) ∨ ((k = 4 ∨ k = 7 ∨ k = 8 ∨ k = 9) ∧ n = 0 ∧ 1 ≤ d ∧ d ≤ 127)
instance (k n d : Int) : Decidable (okN k n d) := by unfold okN; infer_instance
def idN (k n d : Int) : Int := if okN k n d then baseN k + 256 * n + d else 0
def idE (k n d : Int) : Int := if okN k n d then 0 else 1

theorem base_any (k : Int) (w : World) : Calls Try.prog 30 #[.int .i64 k] w fun e w' => e = .returned (.tuple #[.int .i64 (baseN k), .bool (decide (1 ≤ k ∧ k ≤ 9))]) ∧ w = w' := by
  by_cases h : 1 ≤ k ∧ k ≤ 9
  · have : k = 1 ∨ k = 2 ∨ k = 3 ∨ k = 4 ∨ k = 5 ∨ k = 6 ∨ k = 7 ∨ k = 8 ∨ k = 9 := by omega
    clear h
    rcases this with rfl | rfl | rfl | rfl | rfl | rfl | rfl | rfl | rfl <;>
    · go_enter Try.func30, Try.ntmps30
      go_wp2
      go_ret2
      exact ⟨rfl, rfl⟩
  · have e1 : baseN k = 0 := by unfold baseN; (repeat' rw [if_neg (by omega)])
    have e2 : decide (1 ≤ k ∧ k ≤ 9) = false := by simpa using h
    rw [e1, e2]
    have h1 : ¬ k = 1 := by omega
    have h2 : ¬ k = 2 := by omega
    have h3 : ¬ k = 3 := by omega
    have h4 : ¬ k = 4 := by omega
    have h5 : ¬ k = 5 := by omega
    have h6 : ¬ k = 6 := by omega
    have h7 : ¬ k = 7 := by omega
    have h8 : ¬ k = 8 := by omega
    have h9 : ¬ k = 9 := by omega
    clear h e1 e2
    go_enter Try.func30, Try.ntmps30
    go_wp2
    all_goals (go_ret2; exact ⟨rfl, rfl⟩)

theorem between_yes (n lo hi : Int) (h1 : lo ≤ n) (h2 : n ≤ hi) (w : World) : Calls Try.prog 31 #[.int .i64 n, .int .i64 lo, .int .i64 hi] w fun e w' => e = .returned (.bool true) ∧ w = w' := by
  go_enter Try.func31, Try.ntmps31
  go_wp2
  all_goals (go_ret; exact ⟨rfl, rfl⟩)
theorem between_no (n lo hi : Int) (h : n < lo ∨ hi < n) (w : World) : Calls Try.prog 31 #[.int .i64 n, .int .i64 lo, .int .i64 hi] w fun e w' => e = .returned (.bool false) ∧ w = w' := by
  by_cases h1 : n < lo
  · clear h
    go_enter Try.func31, Try.ntmps31
    go_wp2
    all_goals (go_ret; exact ⟨rfl, rfl⟩)
  · have h2 : hi < n := by omega
    have h3 : decide (n ≤ hi) = false := by simpa using h2
    have h4 : lo ≤ n := by omega
    clear h
    go_enter Try.func31, Try.ntmps31
    go_wp2
    all_goals (go_ret; exact ⟨rfl, rfl⟩)
theorem between_any (n lo hi : Int) (w : World) : Calls Try.prog 31 #[.int .i64 n, .int .i64 lo, .int .i64 hi] w fun e w' => e = .returned (.bool (decide (lo ≤ n ∧ n ≤ hi))) ∧ w = w' := by
  by_cases h : lo ≤ n ∧ n ≤ hi
  · rw [decide_eq_true h]; exact between_yes n lo hi h.1 h.2 w
  · rw [decide_eq_false h]; exact between_no n lo hi (by omega) w

theorem idN_no {k n d : Int} (h : ¬ okN k n d) : idN k n d = 0 ∧ idE k n d = 1 := by unfold idN idE; exact ⟨if_neg h, if_neg h⟩
theorem idN_yes {k n d : Int} (h : okN k n d) : idN k n d = baseN k + 256 * n + d ∧ idE k n d = 0 := by unfold idN idE; exact ⟨if_pos h, if_pos h⟩

theorem bN : baseN 1 = 0 ∧ baseN 2 = 128 ∧ baseN 3 = 256 ∧ baseN 4 = 128 ∧ baseN 5 = 128 ∧ baseN 6 = 256 ∧ baseN 7 = 1408 ∧ baseN 8 = 1536 ∧ baseN 9 = 1792 := by decide
theorem baseN_bounds (k : Int) : 0 ≤ baseN k ∧ baseN k ≤ 1792 := by unfold baseN; (repeat' split) <;> omega
theorem guard76 : Try.prog.eqGuardType Try.prog.depth 70 = false := by kernel_rfl
set_option maxRecDepth 100000 in
theorem eq76 (a b c d : Int) (w : World) : (Op.equalIn 10000 70 (.agg #[.int .i64 a, .int .i64 b]) (.agg #[.int .i64 c, .int .i64 d])).run Try.prog w = .ok ((a == c) && (b == d)) w := by
  obtain ⟨i, hi⟩ : ∃ i, Try.prog.info? 3 = some i := ⟨_, rfl⟩
  rw [run_equalIn_array w 9999 _ _ Try.underlying70 hi]
  have hc : Try.prog.cellsOf 3 = 1 := by kernel_rfl
  rw [hc]
  have hp : ∀ (xs : Array Value) (i : Nat) (x : Int) (w : World), xs[i]? = some (.int .i64 x) → (part 3 xs (i * 1)).run Try.prog w = .ok (.int .i64 x) w := by
    intro xs i x w h
    simp [part, isAgg, run_underlying Try.underlying3, h]
  have he : ∀ (d : Nat) (x y : Int) (w : World), (Op.equalIn (d + 1) 3 (.int .i64 x) (.int .i64 y)).run Try.prog w = .ok (x == y) w := fun d x y w => run_equalIn_int w d 3 .i64 .i64 x y Try.underlying3
  have q1 : ∀ w, (part 3 #[.int .i64 a, .int .i64 b] 1).run Try.prog w = .ok (.int .i64 b) w := fun w => hp #[.int .i64 a, .int .i64 b] 1 b w rfl
  have q2 : ∀ w, (part 3 #[.int .i64 c, .int .i64 d] 1).run Try.prog w = .ok (.int .i64 d) w := fun w => hp #[.int .i64 c, .int .i64 d] 1 d w rfl
  have he' : ∀ (x y : Int) (w : World), (Op.equalIn 9999 3 (.int .i64 x) (.int .i64 y)).run Try.prog w = .ok (x == y) w := fun x y w => he 9998 x y w
  simp only [show List.range 2 = [0, 1] from rfl, Op.eqItems, Sem.run_bind, hp #[.int .i64 a, .int .i64 b] 0 a _ rfl, hp #[.int .i64 c, .int .i64 d] 0 c _ rfl, Result.andThen_ok, he]
  cases h1 : (a == c) <;> cases h2 : (b == d) <;> simp [q1, q2, he', h2]

set_option maxRecDepth 100000 in
set_option maxHeartbeats 1000000 in
theorem id_yes (k n d : Int) (w : World) (h : okN k n d) : Calls Try.prog 24 #[.agg #[.int .i64 k, .int .i64 n, .int .i64 d]] w fun e w' => e = .returned (.tuple #[.int .i64 (idN k n d), .int .i64 (idE k n d)]) ∧ Below w.heap.size w w' := by
  rw [(idN_yes h).1, (idN_yes h).2]
  have hb : Below w.heap.size w (w.alloc (.cells #[.int .i64 k, .int .i64 n, .int .i64 d] 59)) := (Below.refl _ w).alloc (Nat.le_refl _) _
  have HB := Lib.hid hb
  clear hb
  rcases h with ⟨h1, h2, rfl, rfl⟩ | ⟨h1, h2, h3, h4, h5⟩ | ⟨h1, rfl, h4, h5⟩
  · have : k = 1 ∨ k = 2 ∨ k = 3 := by omega
    have hg := guard76
    have hq := eq76 0 0 0 0
    clear h1 h2
    rcases this with rfl | rfl | rfl <;>
    · simp only [bN]
      go_enter Try.func24, Try.ntmps24
      go_wp2_with fail
      refine (base_any _ _).mono ?_
      rintro e w' ⟨rfl, rfl⟩
      simp only [bN]
      go_wp2_with fail
      go_ret2
      exact ⟨rfl, HB.out⟩
  · skip
    rcases h1 with rfl | rfl <;>
    · simp only [bN]
      go_enter Try.func24, Try.ntmps24
      go_wp2_with fail
      refine (base_any _ _).mono ?_
      rintro e w' ⟨rfl, rfl⟩
      simp only [bN]
      go_wp2_with fail
      refine (between_yes _ _ _ (by omega) (by omega) _).mono ?_
      rintro e w' ⟨rfl, rfl⟩
      go_wp2_with fail
      refine (between_yes _ _ _ (by omega) (by omega) _).mono ?_
      rintro e w' ⟨rfl, rfl⟩
      go_wp2_with fail
      go_ret2
      exact ⟨rfl, HB.out⟩
  · skip
    rcases h1 with rfl | rfl | rfl | rfl <;>
    · simp only [bN]
      go_enter Try.func24, Try.ntmps24
      go_wp2_with fail
      refine (base_any _ _).mono ?_
      rintro e w' ⟨rfl, rfl⟩
      simp only [bN]
      go_wp2_with fail
      refine (between_yes _ _ _ (by omega) (by omega) _).mono ?_
      rintro e w' ⟨rfl, rfl⟩
      go_wp2_with fail
      go_ret2
      exact ⟨rfl, HB.out⟩

set_option maxRecDepth 100000 in
set_option maxHeartbeats 1000000 in
theorem id_no (k n d : Int) (w : World) (h : ¬ okN k n d) : Calls Try.prog 24 #[.agg #[.int .i64 k, .int .i64 n, .int .i64 d]] w fun e w' => e = .returned (.tuple #[.int .i64 (idN k n d), .int .i64 (idE k n d)]) ∧ Below w.heap.size w w' := by
  rw [(idN_no h).1, (idN_no h).2]
  have hb : Below w.heap.size w (w.alloc (.cells #[.int .i64 k, .int .i64 n, .int .i64 d] 59)) := (Below.refl _ w).alloc (Nat.le_refl _) _
  have HB := Lib.hid hb
  clear hb
  unfold okN at h
  by_cases c1 : 1 ≤ k ∧ k ≤ 3
  · have : k = 1 ∨ k = 2 ∨ k = 3 := by omega
    have hg := guard76
    have hq : ∀ w, (Op.equalIn 10000 70 (.agg #[.int .i64 n, .int .i64 d]) (.agg #[.int .i64 0, .int .i64 0])).run Try.prog w = .ok false w := by
      intro w
      rw [eq76 n d 0 0 w]
      have : ¬ (n = 0 ∧ d = 0) := by omega
      by_cases hn : n = 0 <;> by_cases hd : d = 0 <;> simp_all
    clear h c1
    rcases this with rfl | rfl | rfl <;>
    · go_enter Try.func24, Try.ntmps24
      go_wp2_with fail
      refine (base_any _ _).mono ?_
      rintro e w' ⟨rfl, rfl⟩
      go_wp2_with fail
      go_ret2
      exact ⟨rfl, HB.out⟩
  · by_cases c2 : k = 5 ∨ k = 6
    · by_cases c3 : 1 ≤ n ∧ n ≤ 4
      · have c4 : d < 1 ∨ 127 < d := by omega
        clear h c1
        rcases c2 with rfl | rfl <;>
        · go_enter Try.func24, Try.ntmps24
          go_wp2_with fail
          refine (base_any _ _).mono ?_
          rintro e w' ⟨rfl, rfl⟩
          go_wp2_with fail
          refine (between_yes _ _ _ (by omega) (by omega) _).mono ?_
          rintro e w' ⟨rfl, rfl⟩
          go_wp2_with fail
          refine (between_no _ _ _ (by omega) _).mono ?_
          rintro e w' ⟨rfl, rfl⟩
          go_wp2_with fail
          go_ret2
          exact ⟨rfl, HB.out⟩
      · have c4 : n < 1 ∨ 4 < n := by omega
        clear h c1 c3
        rcases c2 with rfl | rfl <;>
        · go_enter Try.func24, Try.ntmps24
          go_wp2_with fail
          refine (base_any _ _).mono ?_
          rintro e w' ⟨rfl, rfl⟩
          go_wp2_with fail
          refine (between_no _ _ _ (by omega) _).mono ?_
          rintro e w' ⟨rfl, rfl⟩
          go_wp2_with fail
          go_ret2
          exact ⟨rfl, HB.out⟩
    · by_cases c3 : k = 4 ∨ k = 7 ∨ k = 8 ∨ k = 9
      · by_cases c4 : n = 0
        · have c5 : d < 1 ∨ 127 < d := by omega
          subst c4
          clear h c1 c2
          rcases c3 with rfl | rfl | rfl | rfl <;>
          · go_enter Try.func24, Try.ntmps24
            go_wp2_with fail
            refine (base_any _ _).mono ?_
            rintro e w' ⟨rfl, rfl⟩
            go_wp2_with fail
            refine (between_no _ _ _ (by omega) _).mono ?_
            rintro e w' ⟨rfl, rfl⟩
            go_wp2_with fail
            go_ret2
            exact ⟨rfl, HB.out⟩
        · clear h c1 c2
          have c5 : (n == 0) = false := by simpa using c4
          rcases c3 with rfl | rfl | rfl | rfl <;>
          · go_enter Try.func24, Try.ntmps24
            go_wp2_with fail
            refine (base_any _ _).mono ?_
            rintro e w' ⟨rfl, rfl⟩
            go_wp2_with fail
            go_ret2
            exact ⟨rfl, HB.out⟩
      · have d1 : ¬ k = 1 := by omega
        have d2 : ¬ k = 2 := by omega
        have d3 : ¬ k = 3 := by omega
        have d5 : ¬ k = 5 := by omega
        have d6 : ¬ k = 6 := by omega
        have d7 : decide (1 ≤ k ∧ k ≤ 9) = false := by rw [decide_eq_false_iff_not]; omega
        clear h c1 c2 c3
        go_enter Try.func24, Try.ntmps24
        go_wp2_with fail
        refine (base_any _ _).mono ?_
        rintro e w' ⟨rfl, rfl⟩
        rw [d7]
        generalize baseN k = B
        go_wp2_with fail
        go_ret2
        exact ⟨rfl, HB.out⟩

theorem id_any (k n d : Int) (w : World) : Calls Try.prog 24 #[.agg #[.int .i64 k, .int .i64 n, .int .i64 d]] w fun e w' => e = .returned (.tuple #[.int .i64 (idN k n d), .int .i64 (idE k n d)]) ∧ Below w.heap.size w w' := by
  by_cases h : okN k n d
  · exact id_yes k n d w h
  · exact id_no k n d w h
end Go.Proofs.Ytlhbgikgaoeciaa
