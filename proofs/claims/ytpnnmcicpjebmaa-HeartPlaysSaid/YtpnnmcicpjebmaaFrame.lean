/-
  An argument that is a frame: its fields, and its bytes.
-/
import Derived.Test.YtpnnmcicpjebmaaChecked
import Derived.Test.YtpnnmcicpjebmaaKit
import Derived.OpenShut
import Derived.Lib.SmallJoins
import Derived.ChangeArms
set_option linter.unusedSimpArgs false
set_option linter.unusedVariables false
namespace Go.Proofs.Ytpnnmcicpjebmaa
open Go.RowKit Go.ChangeShapes Go.WideShapes Go.ChangeAt

section
variable {H : Type} {enc : TypeId × Value → H} {w : World} {base : Nat} {d : DataW H} {ps : List MemPlace} {v : Value}
set_option maxRecDepth 100000 in
theorem open_bytes {n : Nat} {y : DataW H × List MemPlace} {c : Value} (h : DataW.trod enc Try.prog w base (fun _ => true) true n 22 [c] = some y) :
    ∃ a len cap zs, c = .slice a len cap ∧ IsRow .u8 w a len cap zs := by
  rcases open_ints Try.underlying22 Try.underlying5 (by kernel_rfl) h with ⟨hcs, _⟩ | ⟨x, l, c', zs, hcs, _, hl, hm, hz, _, hcell, hwz⟩
  · simp at hcs
    exact ⟨none, 0, 0, [], hcs, .inl ⟨rfl, rfl, rfl, rfl⟩⟩
  · simp at hcs
    exact ⟨some x, l, c', zs, hcs, .inr ⟨_, rfl, hl, hm, by simpa using hz, hcell, hwz⟩⟩

set_option maxRecDepth 100000 in
theorem open_frame {r : Reach} {b0 : Nat} (hv : Value.okWide Try.prog w r b0 32 v) (h : DataW.Trod enc Try.prog w base (fun _ => true) true 32 v d ps) :
    ∃ (id : Int) (rem : Bool) (a : Option Addr) (len cap : Nat) (zs : List Int), v = .agg #[.int .i64 id, .bool rem, .slice a len cap] ∧ IsRow .u8 w a len cap zs := by
  obtain ⟨v0, v1, v2, y0, y1, y2, n, rfl, _, _, h0, h1, h2⟩ := Joins.open_agg3 Try.underlying32 (by kernel_rfl) (by kernel_rfl) hv h
  obtain ⟨x, hx, _, _⟩ := DataW.trod_int Try.underlying3 h0
  obtain ⟨y, hy, _⟩ := DataW.trod_bool Try.underlying4 h1
  obtain ⟨a, len, cap, zs, hz, hr⟩ := open_bytes h2
  cases hx; cases hy; cases hz
  exact ⟨_, _, _, _, _, _, rfl, hr⟩
end
end Go.Proofs.Ytpnnmcicpjebmaa
