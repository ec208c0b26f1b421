/-
  LAW FlashTorn: the walk, from the arguments as they come in.
-/
import Derived.Test.YtibgfeammjliiaaFlsV
import Derived.Laws.IdiomArrays
import Derived.WideShapes
import Derived.ChangeShapes
set_option linter.unusedSimpArgs false
set_option linter.unusedVariables false
namespace Go.Proofs.Ytibgfeammjliiaa
open Go.RowKit Go.ChangeShapes Go.WideShapes

theorem open_arr3 {H : Type} {enc : TypeId × Value → H} {W : World} {b0 base : Nat} {spare : Nat → Bool} {held : Bool} {v : Value} {d : DataW H} {ps : List MemPlace} (hv : Value.okWide Try.prog W .any b0 39 v) (h : DataW.Trod enc Try.prog W base spare held 39 v d ps) :
    ∃ q0 q1 q2 : Int, v = .agg #[.int .u32 q0, .int .u32 q1, .int .u32 q2] ∧ (Lit.int .u32 q0).wf = true ∧ (Lit.int .u32 q1).wf = true ∧ (Lit.int .u32 q2).wf = true := by
  unfold Value.okWide at hv
  rw [Try.underlying39] at hv
  obtain ⟨cs, rfl, hs, _⟩ := hv
  have h3 : Try.prog.cellsOf 39 = 3 := by kernel_rfl
  rw [h3] at hs
  obtain ⟨c0, c1, c2, rfl⟩ : ∃ c0 c1 c2, cs = #[c0, c1, c2] := by
    obtain ⟨l⟩ := cs
    match l, hs with
    | [a, b, c], _ => exact ⟨a, b, c, rfl⟩
  obtain ⟨fuel, hf⟩ := h
  have hf : DataW.trod enc Try.prog W base spare held fuel 39 [c0, c1, c2] = some (d, ps) := hf
  obtain ⟨y0, y1, y2, n, _, e0, e1, e2⟩ := trod_array3 Try.underlying39 (by kernel_rfl) hf
  obtain ⟨n0, a0, _, w0⟩ := DataW.trod_int Try.underlying38 e0
  obtain ⟨n1, a1, _, w1⟩ := DataW.trod_int Try.underlying38 e1
  obtain ⟨n2, a2, _, w2⟩ := DataW.trod_int Try.underlying38 e2
  injection a0 with a0 _
  injection a1 with a1 _
  injection a2 with a2 _
  subst a0 a1 a2
  exact ⟨n0, n1, n2, rfl, w0, w1, w2⟩
theorem torn_walk {H : Type} {enc : TypeId × Value → H} {base : Nat} {d : DataW H} {ps : List MemPlace} (a0 : Option Addr) (m0 c0 : Nat) (z0 : List Int) (a1 : Option Addr) (m1 c1 : Nat) (z1 : List Int) (v : Value) (W : World) (h0 : IsRow .u8 W a0 m0 c0 z0) (h1 : IsRow .u8 W a1 m1 c1 z1)
    (h2 : Value.okWide Try.prog W .any base 39 v) (h3 : DataW.Trod enc Try.prog W 0 (fun _ => true) true 39 v d ps) :
    Calls Try.prog 5 #[.slice a0 m0 c0, .slice a1 m1 c1, v] W fun e w' => e = .returned (.bool true) ∧ Below W.heap.size W w' := by
  obtain ⟨l, hl, hb, _, hm⟩ := h0.bytes
  obtain ⟨x, hx, hxb, _, hxm⟩ := h1.bytes
  obtain ⟨q0, q1, q2, rfl, w0, w1, w2⟩ := open_arr3 h2 h3
  have e0 : IntKind.u32.min = 0 := rfl
  have e1 : IntKind.u32.max = 4294967295 := rfl
  have b0 := wf_bounds w0
  have b1 := wf_bounds w1
  have b2 := wf_bounds w2
  exact torn_said a0 m0 c0 l a1 m1 c1 x q0 q1 q2 W hl (by unfold maxLen at hm; omega) hb hx (by unfold maxLen at hxm; omega) hxb h1.le (by omega) (by omega) (by omega)
end Go.Proofs.Ytibgfeammjliiaa
