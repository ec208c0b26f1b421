/-
  Arguments that are slices of structs, opened to cells.
-/
import Derived.Test.YtlhbgikgaoeciaaKit
import Derived.Deep.Slices
import Derived.Deep.Fields
import Derived.ChangeSame
import Derived.OpenShut
import Derived.Lib.SmallJoins
import Derived.ChangeArms
set_option linter.unusedSimpArgs false
set_option linter.unusedVariables false
namespace Go.Proofs.Ytlhbgikgaoeciaa
open Go.RowKit Go.ChangeShapes Go.WideShapes Go.ChangeAt Go.Deep

section
variable {H : Type} {enc : TypeId × Value → H} {P : Program} {w : World} {base : Nat}

/-- The i-th element's cells. -/
def ElemAt (w : World) (b off C i : Nat) (cs : List Value) : Prop := cs.length = C ∧ ∀ j u, cs[j]? = some u → w.cell? ⟨b, off + i * C + j, none⟩ = some u

theorem ElemAt.below {w w' : World} {b off C i : Nat} {cs : List Value} (h : ElemAt w b off C i cs) (hb : Below w.heap.size w w') : ElemAt w' b off C i cs :=
  ⟨h.1, fun j u hu => (hb.cell (World.block_lt_of_cell? w _ (h.2 j u hu))).trans (h.2 j u hu)⟩

theorem open_rows {t e : TypeId} {fuel : Nat} {a : Option Addr} {len cap : Nat} {x : DataW H × List MemPlace} (ht : P.underlying t = some (.slice e)) (hC : 0 < P.cellsOf e)
    (h : DataW.trod enc P w base (fun _ => true) true fuel t [.slice a len cap] = some x) :
    (a = none → cap = 0) ∧ len ≤ cap ∧ cap ≤ maxLen ∧ (len = 0 ∨ ∃ b off, a = some ⟨b, off, none⟩ ∧ b < w.heap.size ∧
      ∀ i, i < len → ∃ cs n y, ElemAt w b off (P.cellsOf e) i cs ∧ DataW.trod enc P w base (fun _ => true) true n e cs = some y) := by
  rcases open_slice ht h with ⟨hcs, _⟩ | ⟨ad, l, c, m, n, D, Pl, hcs, hb, hl, hm, hmm, hx, hi⟩
  · simp at hcs
    obtain ⟨rfl, rfl, rfl⟩ := hcs
    exact ⟨fun _ => rfl, Nat.le_refl _, Nat.zero_le _, .inl rfl⟩
  · simp at hcs
    obtain ⟨rfl, rfl, rfl⟩ := hcs
    refine ⟨fun e => (by cases e), hl, hm, ?_⟩
    by_cases h0 : len = 0
    · exact .inl h0
    · have hm' : m = cap := by simpa using hmm
      right
      obtain ⟨cs0, hc0, _⟩ := hi 0 (by omega)
      obtain ⟨_, hl0, hat0⟩ := World.cells?_some hc0
      have h00 := hat0 0 hC
      rw [List.getElem?_eq_getElem (by omega)] at h00
      have hsp := World.cell?_spot h00
      obtain ⟨b, off, spot⟩ := ad
      have : spot = none := by simpa [Addr.add] using hsp
      subst this
      have hlt := World.block_lt_of_cell? w _ h00
      refine ⟨b, off, rfl, by simpa [Addr.add] using hlt, fun i hil => ?_⟩
      obtain ⟨cs, hc, ht'⟩ := hi i (by omega)
      obtain ⟨_, hcl, hat⟩ := World.cells?_some hc
      refine ⟨cs, n, _, ⟨hcl, fun j u hu => ?_⟩, ht'⟩
      have hj : j < P.cellsOf e := by have := (List.getElem?_eq_some_iff.1 hu).1; omega
      have := hat j hj
      rw [hu, Addr.add_lit, Addr.add_lit] at this
      exact this

theorem trod_three {n : Nat} {e : TypeId} {f0 f1 f2 : Field} {cs : List Value} {y : DataW H × List MemPlace} (he : P.underlying e = some (.struct #[f0, f1, f2])) (hone : oneCellFields P #[f0, f1, f2] = true) (hC : P.cellsOf e = 3)
    (h : DataW.trod enc P w base (fun _ => true) true n e cs = some y) :
    ∃ v0 v1 v2 y0 y1 y2 k, cs = [v0, v1, v2] ∧ DataW.trod enc P w base (fun _ => true) true k f0.type [v0] = some y0 ∧ DataW.trod enc P w base (fun _ => true) true k f1.type [v1] = some y1 ∧ DataW.trod enc P w base (fun _ => true) true k f2.type [v2] = some y2 := by
  obtain ⟨xs, k, _, _, hlen, hxl, hf⟩ := DataW.trod_struct he h
  obtain ⟨o0, k0⟩ := hone_of hone 0 f0 rfl
  obtain ⟨o1, k1⟩ := hone_of hone 1 f1 rfl
  obtain ⟨o2, k2⟩ := hone_of hone 2 f2 rfl
  rw [hC] at hlen
  match cs, hlen, xs, hxl with
  | [v0, v1, v2], _, [y0, y1, y2], _ =>
    have g0 := hf 0 f0 rfl
    have g1 := hf 1 f1 rfl
    have g2 := hf 2 f2 rfl
    rw [o0, k0] at g0
    rw [o1, k1] at g1
    rw [o2, k2] at g2
    exact ⟨v0, v1, v2, y0, y1, y2, k, rfl, by simpa using g0, by simpa using g1, by simpa using g2⟩
end
end Go.Proofs.Ytlhbgikgaoeciaa
