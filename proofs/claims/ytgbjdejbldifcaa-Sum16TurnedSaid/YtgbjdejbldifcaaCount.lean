/-
  CONTRACT of the references' Count: a number from 0 to one less than most.
-/
import Derived.Test.YtgbjdejbldifcaaChecked
import Derived.Test.YtgbjdejbldifcaaKit
set_option linter.unusedSimpArgs false
set_option linter.unusedVariables false
namespace Go.Proofs.Ytgbjdejbldifcaa
open Go.RowKit

theorem count_any (n most : Int) (w : World) (h1 : 1 ≤ most) (h2 : most ≤ 1099511627776) :
    Calls Try.prog 16 #[.int .i64 n, .int .i64 most] w fun e w' => ∃ k : Nat, (k : Int) < most ∧ e = .returned (.int .i64 (k : Int)) ∧ w = w' := by
  have b1 : n.tmod most < most := Int.tmod_lt_of_pos n (by omega)
  have b2 : -most < n.tmod most := Int.lt_tmod_of_pos n (by omega)
  have hne : ¬ most = 0 := by omega
  by_cases hneg : n.tmod most < 0
  · go_enter Try.func16, Try.ntmps16
    go_wp2_with fail
    go_ret
    refine ⟨(n.tmod most + most).toNat, by omega, ?_, rfl⟩
    have : (((n.tmod most + most).toNat : Nat) : Int) = n.tmod most + most := by omega
    rw [this]; rfl
  · go_enter Try.func16, Try.ntmps16
    go_wp2_with fail
    go_ret
    refine ⟨(n.tmod most).toNat, by omega, ?_, rfl⟩
    have : (((n.tmod most).toNat : Nat) : Int) = n.tmod most := by omega
    rw [this]; rfl
end Go.Proofs.Ytgbjdejbldifcaa
