/-
  LAW HeartNil: the walk.
-/
import Derived.Test.YtpnnmcicpjebmaaNilH
import Derived.Test.YtpnnmcicpjebmaaRecvH
import Derived.Test.YtpnnmcicpjebmaaKnown26
set_option linter.unusedSimpArgs false
set_option linter.unusedVariables false
namespace Go.Proofs.Ytpnnmcicpjebmaa
open Go.RowKit
attribute [local go_sem] Oper.semAt_some

set_option maxRecDepth 100000 in
set_option maxHeartbeats 1000000 in
theorem hnil_walk (t : Int) (us : Value) (w : World) : Calls Try.prog 4 #[.int .i64 t, us] w fun e w' => e = .returned (.bool true) ∧ Below w.heap.size w w' := by
  go_enter Try.func4, Try.ntmps4
  go_wp2_with fail
  refine (tick_nil t _).mono ?_
  rintro e w1 ⟨rfl, hb1⟩
  go_wp2_with fail
  refine (state_nil 1 _).mono ?_
  rintro e w2 ⟨rfl, hb2⟩
  have hb2 := hb1.trans (hb2.mono hb1.size)
  clear hb1
  go_wp2_with fail
  refine (period_nil t _).mono ?_
  rintro e w0 ⟨rfl, rfl⟩
  go_wp2_with fail
  refine (peers_nil us _).mono ?_
  rintro e w0 ⟨rfl, rfl⟩
  go_wp2_with fail
  refine (recvH_no none 0 false [] none 0 _ (by simp) (Bytes.nil _ _) (by decide +kernel)).mono ?_
  rintro e w3 ⟨rfl, hb3⟩
  have hb3 := hb2.trans (hb3.mono hb2.size)
  clear hb2
  go_wp2_with fail
  refine (known26 _).mono ?_
  rintro e w4 ⟨rfl, hb4⟩
  have hb4 := hb3.trans (hb4.mono hb3.size)
  clear hb3
  go_wp2_with fail
  go_ret
  exact ⟨rfl, hb4⟩

theorem hnil_frame (a0 : Int) (v1 : Value) (w : World) {H : Type} {enc : TypeId × Value → H} {base : Nat} {d1 : DataW H} {p1 : List MemPlace} (w0 : (Lit.int .i64 a0).wf = true)
    (ok1 : Value.okWide Try.prog w .any base 30 v1) (k1 : DataW.Trod enc Try.prog w 0 (fun _ => true) true 30 v1 d1 p1) :
    Calls Try.prog 4 #[.int .i64 a0, v1] w fun e w' => e = .returned (.bool true) ∧ Below w.heap.size w w' := hnil_walk a0 v1 w
end Go.Proofs.Ytpnnmcicpjebmaa
