/-
  Small steps on worlds, for walks that go from call to call.
-/
import Derived.Test.YtlhbgikgaoeciaaKit
set_option linter.unusedSimpArgs false
set_option linter.unusedVariables false
namespace Go.Proofs.Ytlhbgikgaoeciaa
open Go.RowKit

theorem bstep {B : Nat} {w W w1 : World} (hb : Below W.heap.size W w1) (h : Below B w W) (hB : B ≤ w.heap.size) : Below B w w1 := h.trans (hb.mono (Nat.le_trans hB h.size))
theorem bkeep {B : Nat} {W w1 : World} (hb : Below B W w1) {b : Nat} {o : Obj} (h : W.heap[b]? = some o) (hlt : b < B) : w1.heap[b]? = some o := (hb.block b hlt).trans h
theorem bkeep' {W w1 : World} (hb : Below W.heap.size W w1) {b : Nat} {o : Obj} (h : W.heap[b]? = some o) : w1.heap[b]? = some o := (hb.block b (lt_of_block h)).trans h
theorem akeep {W : World} (x : Obj) {b : Nat} {o : Obj} (h : W.heap[b]? = some o) : (W.alloc x).heap[b]? = some o := (heap_alloc_old W x (lt_of_block h)).trans h
theorem skeep {W : World} {a : Addr} (u : Value) {b : Nat} {o : Obj} (h : W.heap[b]? = some o) (hn : b ≠ a.block) : (W.setCell a u).heap[b]? = some o := (Below.heap_setCell W a u b hn).trans h

theorem anew (W : World) (o : Obj) {k : Nat} (h : k = W.heap.size) : (W.alloc o).heap[k]? = some o := by subst h; exact heap_alloc_new W o

theorem cells1 {w : World} {g : Nat} {a : Value} {t : TypeId} (h : w.heap[g]? = some (.cells #[a] t (0, 0))) :
    w.cell? ⟨g, 0, none⟩ = some a := by
  simp [World.cell?, h]
theorem cells2 {w : World} {g : Nat} {a b : Value} {t : TypeId} (h : w.heap[g]? = some (.cells #[a, b] t (0, 0))) :
    w.cell? ⟨g, 0, none⟩ = some a ∧ w.cell? ⟨g, 1, none⟩ = some b := by
  simp [World.cell?, h]
theorem cells3' {w : World} {g : Nat} {a b c : Value} {t : TypeId} (h : w.heap[g]? = some (.cells #[a, b, c] t (0, 0))) :
    w.cell? ⟨g, 0, none⟩ = some a ∧ w.cell? ⟨g, 1, none⟩ = some b ∧ w.cell? ⟨g, 2, none⟩ = some c := by
  simp [World.cell?, h]
theorem cells4 {w : World} {g : Nat} {a b c d : Value} {t : TypeId} (h : w.heap[g]? = some (.cells #[a, b, c, d] t (0, 0))) :
    w.cell? ⟨g, 0, none⟩ = some a ∧ w.cell? ⟨g, 1, none⟩ = some b ∧ w.cell? ⟨g, 2, none⟩ = some c ∧ w.cell? ⟨g, 3, none⟩ = some d := by
  simp [World.cell?, h]
theorem cells5 {w : World} {g : Nat} {a b c d e : Value} {t : TypeId} (h : w.heap[g]? = some (.cells #[a, b, c, d, e] t (0, 0))) :
    w.cell? ⟨g, 0, none⟩ = some a ∧ w.cell? ⟨g, 1, none⟩ = some b ∧ w.cell? ⟨g, 2, none⟩ = some c ∧ w.cell? ⟨g, 3, none⟩ = some d ∧ w.cell? ⟨g, 4, none⟩ = some e := by
  simp [World.cell?, h]
theorem free_of {w : World} {g : Nat} {cs : Array Value} {t : TypeId} (h : w.heap[g]? = some (.cells cs t (0, 0))) (o : Nat) : w.frozen? ⟨g, o, none⟩ = false := by
  simp [World.frozen?, h]
theorem hset {w : World} {b : Nat} {cs : Array Value} {t : TypeId} (h : w.heap[b]? = some (.cells cs t (0, 0))) (i : Nat) (u : Value) :
    (w.setCell ⟨b, i, none⟩ u).heap[b]? = some (.cells (cs.setIfInBounds i u) t (0, 0)) := heap_setCell_same w b i cs t u h

theorem u32_nat {n : Int} (h : (Lit.int .u32 n).wf = true) : ∃ s : Nat, n = (s : Int) ∧ s < 4294967296 := by
  obtain ⟨h1, h2⟩ := wf_bounds h
  rw [show IntKind.u32.min = 0 from rfl] at h1
  rw [show IntKind.u32.max = 4294967295 from rfl] at h2
  exact ⟨n.toNat, by omega, by omega⟩
theorem u16_nat {n : Int} (h : (Lit.int .u16 n).wf = true) : ∃ s : Nat, n = (s : Int) ∧ s < 65536 := by
  obtain ⟨h1, h2⟩ := wf_bounds h
  rw [show IntKind.u16.min = 0 from rfl] at h1
  rw [show IntKind.u16.max = 65535 from rfl] at h2
  exact ⟨n.toNat, by omega, by omega⟩
theorem u8_nat {n : Int} (h : (Lit.int .u8 n).wf = true) : ∃ s : Nat, n = (s : Int) ∧ s < 256 := by
  obtain ⟨h1, h2⟩ := wf_bounds h
  rw [show IntKind.u8.min = 0 from rfl] at h1
  rw [show IntKind.u8.max = 255 from rfl] at h2
  exact ⟨n.toNat, by omega, by omega⟩
end Go.Proofs.Ytlhbgikgaoeciaa
