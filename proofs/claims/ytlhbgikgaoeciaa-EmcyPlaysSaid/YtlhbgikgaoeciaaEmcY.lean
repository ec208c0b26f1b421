/-
  LAW EmcyPlays: a node that is none, and the walk from the arguments as they come in.
-/
import Derived.Test.YtlhbgikgaoeciaaEmcX
set_option linter.unusedSimpArgs false
set_option linter.unusedVariables false
namespace Go.Proofs.Ytlhbgikgaoeciaa
open Go.RowKit
attribute [local go_sem] Oper.semAt_some

set_option maxRecDepth 100000 in
set_option maxHeartbeats 4000000 in
theorem eplays_no (n : Int) (a : Option Addr) (len cap : Nat) (w : World) (hlen : (len : Int) ≤ 9223372036854775807) (hn : ¬ (1 ≤ n ∧ n ≤ 127)) :
    Calls Try.prog 4 #[.int .i64 n, .slice a len cap] w fun e w' => e = .returned (.bool true) ∧ Below w.heap.size w w' := by
  have HN := Lib.hid (new_no n w hn)
  have HR := Lib.hid (fun W => rnew_no n W hn)
  clear hn
  go_enter Try.func4, Try.ntmps4
  go_wp2_with fail
  refine HN.out.mono ?_
  rintro e w1 ⟨rfl, hb1⟩
  have HB1 := Lib.hid hb1
  clear hb1
  go_wp2_with fail
  refine (HR.out _).mono ?_
  rintro e w2 ⟨⟨R, rfl⟩, hb2⟩
  have HB2 := Lib.hid (bstep (B := w.heap.size) (w := w) hb2 HB1.out (Nat.le_refl _))
  clear hb2 HB1 HN HR
  go_wp2_with fail
  go_loopg [9] 1 (fun gg i wr => gg = 1 ∧ i = .int .i64 0 ∧ wr = w2)
  case atStart => exact ⟨rfl, rfl, rfl⟩
  case round =>
    obtain ⟨hg, rfl, hw⟩ := hrel
    subst hw
    by_cases hl : 0 < len
    · have d1 : (0 : Int) < (len : Int) := by omega
      go_wp2_with fail
      refine (known27 _).mono ?_
      rintro e w5 ⟨rfl, hb5⟩
      go_wp2_with fail
      go_ret
      exact ⟨rfl, bstep (B := w.heap.size) (w := w) hb5 HB2.out (Nat.le_refl _)⟩
    · obtain rfl : len = 0 := by omega
      clear hl
      go_wp2_with fail
      refine (known27 _).mono ?_
      rintro e w5 ⟨rfl, hb5⟩
      go_wp2_with fail
      go_ret
      exact ⟨rfl, bstep (B := w.heap.size) (w := w) hb5 HB2.out (Nat.le_refl _)⟩

section
open Go.ChangeShapes Go.WideShapes Go.ChangeAt Go.Deep
variable {H : Type} {enc : TypeId × Value → H} {w : World} {base : Nat} {d : DataW H} {ps : List MemPlace} {v : Value}
theorem eplays_frame (a0 : Int) (v1 : Value) (w : World) {d1 : DataW H} {p1 : List MemPlace} (w0 : (Lit.int .i64 a0).wf = true) (ok1 : Value.okWide Try.prog w .any base 22 v1) (k1 : DataW.Trod enc Try.prog w 0 (fun _ => true) true 22 v1 d1 p1) :
    Calls Try.prog 4 #[.int .i64 a0, v1] w fun e w' => e = .returned (.bool true) ∧ Below w.heap.size w w' := by
  obtain ⟨a, n, cap, rfl, hn, hF⟩ := open_eops ok1 k1
  by_cases h : 1 ≤ a0 ∧ a0 ≤ 127
  · exact eplays_yes a0 a n cap w hn hF h
  · exact eplays_no a0 a n cap w hn h
end
end Go.Proofs.Ytlhbgikgaoeciaa
