/-
  LAW HeartWatches: the walk.
-/
import Derived.Test.YtpnnmcicpjebmaaKnown26
set_option linter.unusedSimpArgs false
set_option linter.unusedVariables false
namespace Go.Proofs.Ytpnnmcicpjebmaa
open Go.RowKit
attribute [local go_sem] Oper.semAt_some

set_option maxRecDepth 100000 in
set_option maxHeartbeats 1000000 in
theorem watches_walk (u : Int) (w : World) (w0 : (Lit.int .u32 u).wf = true) : Calls Try.prog 9 #[.int .u32 u] w fun e w' => e = .returned (.bool true) ∧ Below w.heap.size w w' := by
  obtain ⟨n, rfl, hn⟩ := u32_nat w0
  have HA := Lib.hid (watch_any n hn w)
  have HR := Lib.hid (rwatch_any n hn w)
  generalize waN n = x at *
  generalize waT n = y at *
  generalize decide (waOk n) = z at *
  clear w0
  generalize (n : Int) = u at *
  go_enter Try.func9, Try.ntmps9
  go_wp2_with fail
  refine HA.out.mono ?_
  rintro e w1 ⟨rfl, rfl⟩
  go_wp2_with fail
  refine HR.out.mono ?_
  rintro e w1 ⟨rfl, rfl⟩
  go_wp2_with fail
  refine (known26 _).mono ?_
  rintro e w1 ⟨rfl, hb⟩
  go_wp2_with fail
  go_ret
  exact ⟨rfl, bstep (B := w.heap.size) (w := w) hb (by go_grown) (Nat.le_refl _)⟩
end Go.Proofs.Ytpnnmcicpjebmaa
