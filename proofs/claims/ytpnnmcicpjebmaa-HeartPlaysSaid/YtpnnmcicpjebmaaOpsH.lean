/-
  The scripts of HeartPlays, opened.
-/
import Derived.Test.YtpnnmcicpjebmaaOpen
import Derived.Test.YtpnnmcicpjebmaaFrame
import Derived.Test.YtpnnmcicpjebmaaWrong
set_option linter.unusedSimpArgs false
set_option linter.unusedVariables false
namespace Go.Proofs.Ytpnnmcicpjebmaa
open Go.RowKit Go.ChangeShapes Go.WideShapes Go.ChangeAt Go.Deep

/-- One operation of a script. -/
def OpAt (w : World) (b off i : Nat) : Prop := ∃ (kd N id : Int) (rem : Bool) (fa : Option Addr) (l : List UInt8) (fc : Nat) (wa : Option Addr) (us : List Nat) (wc : Nat),
  ElemAt w b off 6 i [.int .i64 kd, .int .i64 N, .int .i64 id, .bool rem, .slice fa l.length fc, .slice wa us.length wc] ∧ Bytes w fa l ∧ U32s w wa us ∧ (l.length : Int) ≤ 9223372036854775807 ∧ (us.length : Int) ≤ 9223372036854775807
def Ops (w : World) (a : Option Addr) (n : Nat) : Prop := n = 0 ∨ ∃ b off, a = some ⟨b, off, none⟩ ∧ b < w.heap.size ∧ ∀ i, i < n → OpAt w b off i

theorem elem6 {w : World} {b off i : Nat} {x0 x1 x2 x3 x4 x5 : Value} (h : ElemAt w b off 6 i [x0, x1, x2, x3, x4, x5]) :
    w.cell? ⟨b, off + i * 6, none⟩ = some x0 ∧ w.cell? ⟨b, off + i * 6 + 1, none⟩ = some x1 ∧ w.cell? ⟨b, off + i * 6 + 2, none⟩ = some x2 ∧ w.cell? ⟨b, off + i * 6 + 3, none⟩ = some x3 ∧ w.cell? ⟨b, off + i * 6 + 4, none⟩ = some x4 ∧ w.cell? ⟨b, off + i * 6 + 5, none⟩ = some x5 :=
  ⟨h.2 0 _ rfl, h.2 1 _ rfl, h.2 2 _ rfl, h.2 3 _ rfl, h.2 4 _ rfl, h.2 5 _ rfl⟩

theorem IsRow.u32s {w : World} {a : Option Addr} {len cap : Nat} {zs : List Int} (h : IsRow .u32 w a len cap zs) : ∃ us : List Nat, us.length = len ∧ U32s w a us ∧ len ≤ maxLen := by
  rcases h with ⟨rfl, rfl, rfl, rfl⟩ | ⟨x, rfl, hl, hm, hz, hc, hw⟩
  · exact ⟨[], rfl, ⟨by simp, .inl rfl⟩, Nat.zero_le _⟩
  · have hb : ∀ z ∈ zs, z = (z.toNat : Int) ∧ z.toNat < 4294967296 := fun z hz' => by
      obtain ⟨b1, b2⟩ := wf_bounds (hw z hz')
      rw [show IntKind.u32.min = 0 from rfl] at b1
      rw [show IntKind.u32.max = 4294967295 from rfl] at b2
      omega
    refine ⟨(zs.take len).map Int.toNat, by simp; omega, ⟨fun u hu => ?_, ?_⟩, by omega⟩
    · obtain ⟨z, hz', rfl⟩ := List.mem_map.1 hu
      exact (hb z (List.mem_of_mem_take hz')).2
    · by_cases h0 : len = 0
      · exact .inl (by simp [h0])
      · have hsp := World.cell?_spot (hc 0 (by omega))
        obtain ⟨b, off, spot⟩ := x
        have : spot = none := by simpa [Addr.add] using hsp
        subst this
        refine .inr ⟨b, off, rfl, fun i hi => ?_⟩
        have hi2 : i < zs.length := by simp at hi; omega
        have := hc i hi2
        rw [Addr.add_lit] at this
        rw [this]
        have hg : zs.getD i 0 = zs[i] := by simp [List.getD, hi2]
        have h2 := (hb zs[i] (List.getElem_mem hi2)).1
        rw [hg]
        simp
        omega

section
variable {H : Type} {enc : TypeId × Value → H} {w : World} {base : Nat} {d : DataW H} {ps : List MemPlace} {v : Value}
set_option maxRecDepth 100000 in
theorem open_words {n : Nat} {y : DataW H × List MemPlace} {c : Value} (h : DataW.trod enc Try.prog w base (fun _ => true) true n 30 [c] = some y) :
    ∃ a len cap zs, c = .slice a len cap ∧ IsRow .u32 w a len cap zs := by
  rcases open_ints Try.underlying30 Try.underlying28 (by kernel_rfl) h with ⟨hcs, _⟩ | ⟨x, l, c', zs, hcs, _, hl, hm, hz, _, hcell, hwz⟩
  · simp at hcs
    exact ⟨none, 0, 0, [], hcs, .inl ⟨rfl, rfl, rfl, rfl⟩⟩
  · simp at hcs
    exact ⟨some x, l, c', zs, hcs, .inr ⟨_, rfl, hl, hm, by simpa using hz, hcell, hwz⟩⟩

set_option maxRecDepth 100000 in
theorem open_op {n : Nat} {y : DataW H × List MemPlace} {cs : List Value} (h : DataW.trod enc Try.prog w base (fun _ => true) true n 69 cs = some y) :
    ∃ (kd N id : Int) (rem : Bool) (fa : Option Addr) (l : List UInt8) (fc : Nat) (wa : Option Addr) (us : List Nat) (wc : Nat),
      cs = [.int .i64 kd, .int .i64 N, .int .i64 id, .bool rem, .slice fa l.length fc, .slice wa us.length wc] ∧ Bytes w fa l ∧ U32s w wa us ∧ (l.length : Int) ≤ 9223372036854775807 ∧ (us.length : Int) ≤ 9223372036854775807 := by
  obtain ⟨xs, k, _, _, hlen, hxl, hf⟩ := DataW.trod_struct Try.underlying69 h
  have hC : Try.prog.cellsOf 69 = 6 := by kernel_rfl
  rw [hC] at hlen
  match cs, hlen, xs, hxl with
  | [v0, v1, v2, v3, v4, v5], _, [y0, y1, y2, y3], _ =>
    have c3 : Try.prog.cellsOf 3 = 1 := by kernel_rfl
    have c32 : Try.prog.cellsOf 32 = 3 := by kernel_rfl
    have c30 : Try.prog.cellsOf 30 = 1 := by kernel_rfl
    have g0 := hf 0 _ rfl
    have g1 := hf 1 _ rfl
    have g2 := hf 2 _ rfl
    have g3 := hf 3 _ rfl
    have g2' : DataW.trod enc Try.prog w base (fun _ => true) true k 32 [v2, v3, v4] = some y2 := by
      have g : DataW.trod enc Try.prog w base (fun _ => true) true k 32 (List.take (Try.prog.cellsOf 32) [v2, v3, v4, v5]) = some y2 := g2
      rw [c32] at g
      exact g
    have g3' : DataW.trod enc Try.prog w base (fun _ => true) true k 30 [v5] = some y3 := by
      have g : DataW.trod enc Try.prog w base (fun _ => true) true k 30 (List.take (Try.prog.cellsOf 30) [v5]) = some y3 := g3
      rw [c30] at g
      exact g
    obtain ⟨x0, e0, _, _⟩ := DataW.trod_int Try.underlying3 (by simpa using g0)
    obtain ⟨x1, e1, _, _⟩ := DataW.trod_int Try.underlying3 (by simpa using g1)
    obtain ⟨w0, w1, w2, z0, z1, z2, m, hcs, t0, t1, t2⟩ := trod_three Try.underlying32 (by kernel_rfl) c32 g2'
    obtain ⟨i0, e2, _, _⟩ := DataW.trod_int Try.underlying3 t0
    obtain ⟨r0, e3, _⟩ := DataW.trod_bool Try.underlying4 t1
    obtain ⟨fa, fl, fc, fz, rfl, hrow⟩ := open_bytes t2
    obtain ⟨wa, wl, wc, wz, e5, hrow5⟩ := open_words g3'
    cases e0; cases e1; cases e2; cases e3; cases hcs; cases e5
    obtain ⟨l, rfl, hB, _, hm⟩ := hrow.bytes
    obtain ⟨us, rfl, hU, hm5⟩ := hrow5.u32s
    exact ⟨x0, x1, i0, r0, fa, l, fc, wa, us, wc, rfl, hB, hU, by unfold maxLen at hm; omega, by unfold maxLen at hm5; omega⟩

set_option maxRecDepth 100000 in
theorem open_hops {r : Reach} {b0 : Nat} (hv : Value.okWide Try.prog w r b0 64 v) (h : DataW.Trod enc Try.prog w base (fun _ => true) true 64 v d ps) :
    ∃ a n cap, v = .slice a n cap ∧ (n : Int) ≤ 9223372036854775807 ∧ Ops w a n := by
  obtain ⟨a, n, cap, rfl⟩ := okWide_slice Try.underlying64 hv
  obtain ⟨fuel, hf⟩ := h
  have hc6 : Try.prog.cellsOf 69 = 6 := by kernel_rfl
  obtain ⟨h1, h2, h3, h4⟩ := open_rows Try.underlying64 (by rw [hc6]; omega) (by simpa [Value.cells] using hf)
  refine ⟨a, n, cap, rfl, by unfold maxLen at h3; omega, ?_⟩
  rcases h4 with h4 | ⟨b, off, rfl, hb, hi⟩
  · exact .inl h4
  · refine .inr ⟨b, off, rfl, hb, fun i hin => ?_⟩
    obtain ⟨cs, k, y, he, ht⟩ := hi i hin
    obtain ⟨kd, N, id, rem, fa, l, fc, wa, us, wc, rfl, hB, hU, hl1, hl2⟩ := open_op ht
    rw [hc6] at he
    exact ⟨kd, N, id, rem, fa, l, fc, wa, us, wc, he, hB, hU, hl1, hl2⟩
end
end Go.Proofs.Ytpnnmcicpjebmaa
