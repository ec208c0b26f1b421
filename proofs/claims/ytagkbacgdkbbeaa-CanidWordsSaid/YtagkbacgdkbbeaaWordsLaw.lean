/-
  LAW CanidWords: the walk.
-/
import Derived.Test.YtagkbacgdkbbeaaKnown11
import Derived.Lib.SmallJoins
import Derived.ChangeArms
set_option linter.unusedSimpArgs false
set_option linter.unusedVariables false
namespace Go.Proofs.Ytagkbacgdkbbeaa
open Go.RowKit
attribute [local go_sem] Oper.semAt_some

theorem cells3 {w : World} {g : Nat} {a b c : Value} {t : TypeId} (h : w.heap[g]? = some (.cells #[a, b, c] t (0, 0))) :
    w.cell? ⟨g, 0, none⟩ = some a ∧ w.cell? ⟨g, 1, none⟩ = some b ∧ w.cell? ⟨g, 2, none⟩ = some c := by
  simp [World.cell?, h]

set_option maxHeartbeats 1000000 in
theorem words_walk (a : Nat) (ha : a < 4294967296) (off no : Bool) (id : Int) (w : World) :
    Calls Try.prog 8 #[.int .u32 (a : Int), .agg #[.bool off, .bool no, .int .i64 id]] w fun e w' => e = .returned (.bool true) ∧ Below w.heap.size w w' := by
  go_enter Try.func8, Try.ntmps8
  go_wp2_with fail
  refine (split_any a ha _).mono ?_
  rintro e w1 ⟨rfl, hb1⟩
  have s1 := hb1.size
  simp only [World.size_alloc] at s1
  have HB1 := Lib.hid (((Below.refl _ w).alloc (Nat.le_refl _) (.cells #[.bool off, .bool no, .int .i64 id] 61)).trans (hb1.mono (by simp)))
  have HA1 := Lib.hid (show w1.heap[w.heap.size]? = some (.cells #[.bool off, .bool no, .int .i64 id] 61 (0, 0)) from (hb1.block _ (by simp)).trans (heap_alloc_new w _))
  clear hb1
  go_wp2_with fail
  refine (rsplit_any a ha _).mono ?_
  rintro e w2 ⟨rfl, hb2⟩
  generalize spOff a = o1 at *
  generalize spNo a = o2 at *
  generalize spId a = o3 at *
  generalize spE a = o4 at *
  have s2 := hb2.size
  simp only [World.size_alloc] at s2
  have HB2 := Lib.hid ((HB1.out.alloc (by omega) (.cells #[.bool o1, .bool o2, .int .i64 o3] 62)).trans (hb2.mono (by simp; omega)))
  have hA2 : w2.heap[w.heap.size]? = some (.cells #[.bool off, .bool no, .int .i64 id] 61 (0, 0)) := (hb2.block _ (by simp; omega)).trans ((heap_alloc_old w1 _ (by omega)).trans HA1.out)
  have HS2 := Lib.hid (show w2.heap[w1.heap.size]? = some (.cells #[.bool o1, .bool o2, .int .i64 o3] 62 (0, 0)) from (hb2.block _ (by simp)).trans (heap_alloc_new w1 _))
  obtain ⟨a0, a1, a2⟩ := cells3 hA2
  have HA2 := Lib.hid hA2
  clear hb2 HB1 HA1 hA2
  have k2 : w.heap.size < w2.heap.size := by omega
  go_wp2_with fail
  refine (join_any off no id _).mono ?_
  rintro e w3 ⟨rfl, hb3⟩
  have s3 := hb3.size
  simp only [World.size_alloc] at s3
  have HB3 := Lib.hid ((HB2.out.alloc (by omega) (.cells #[.bool o1, .bool o2, .int .i64 o3] 61)).trans (hb3.mono (by simp; omega)))
  have hA3 : w3.heap[w.heap.size]? = some (.cells #[.bool off, .bool no, .int .i64 id] 61 (0, 0)) := (hb3.block _ (by simp; omega)).trans ((heap_alloc_old w2 _ (by omega)).trans HA2.out)
  have HS3 := Lib.hid (show w3.heap[w1.heap.size]? = some (.cells #[.bool o1, .bool o2, .int .i64 o3] 62 (0, 0)) from (hb3.block _ (by simp; omega)).trans ((heap_alloc_old w2 _ (by omega)).trans HS2.out))
  have HR3 := Lib.hid (show w3.heap[w2.heap.size]? = some (.cells #[.bool o1, .bool o2, .int .i64 o3] 61 (0, 0)) from (hb3.block _ (by simp)).trans (heap_alloc_new w2 _))
  clear a0 a1 a2
  obtain ⟨a0, a1, a2⟩ := cells3 hA3
  clear hb3 HB2 hA3 HA2 HS2
  go_wp2_with fail
  refine (rjoin_any off no id _).mono ?_
  rintro e w4 ⟨rfl, hb4⟩
  have s4 := hb4.size
  have HB4 := Lib.hid (HB3.out.trans (hb4.mono (by omega)))
  have hS4 : w4.heap[w1.heap.size]? = some (.cells #[.bool o1, .bool o2, .int .i64 o3] 62 (0, 0)) := (hb4.block _ (by omega)).trans HS3.out
  have hR4 : w4.heap[w2.heap.size]? = some (.cells #[.bool o1, .bool o2, .int .i64 o3] 61 (0, 0)) := (hb4.block _ (by omega)).trans HR3.out
  clear a0 a1 a2
  obtain ⟨b0, b1, b2⟩ := cells3 hS4
  obtain ⟨r0, r1, r2⟩ := cells3 hR4
  clear hb4 HB3 hS4 hR4 HS3 HR3
  generalize jW off no id = jw at *
  generalize jE id = je at *
  go_wp2_with fail
  refine (known11 _).mono ?_
  rintro e w5 ⟨rfl, hb5⟩
  go_wp2_with fail
  go_ret
  exact ⟨rfl, HB4.out.trans (hb5.mono (by omega))⟩

theorem u32_of {n : Int} (h : (Lit.int .u32 n).wf = true) : ∃ s : Nat, n = (s : Int) ∧ s < 4294967296 := by
  obtain ⟨h1, h2⟩ := wf_bounds h
  rw [show IntKind.u32.min = 0 from rfl] at h1
  rw [show IntKind.u32.max = 4294967295 from rfl] at h2
  exact ⟨n.toNat, by omega, by omega⟩

section
variable {H : Type} {enc : TypeId × Value → H} {w : World} {base : Nat} {d : DataW H} {ps : List MemPlace} {v : Value}
theorem open_cob {r : Reach} {b0 : Nat} (hv : Value.okWide Try.prog w r b0 61 v) (h : DataW.Trod enc Try.prog w base (fun _ => true) true 61 v d ps) :
    ∃ (x y : Bool) (z : Int), v = .agg #[.bool x, .bool y, .int .i64 z] := by
  obtain ⟨v0, v1, v2, y0, y1, y2, n, rfl, _, _, h0, h1, h2⟩ := Joins.open_agg3 Try.underlying61 (by kernel_rfl) (by kernel_rfl) hv h
  obtain ⟨x, hx, _⟩ := DataW.trod_bool Try.underlying4 h0
  obtain ⟨y, hy, _⟩ := DataW.trod_bool Try.underlying4 h1
  obtain ⟨z, hz, _, _⟩ := DataW.trod_int Try.underlying3 h2
  cases hx; cases hy; cases hz
  exact ⟨_, _, _, rfl⟩

theorem words_frame (a0 : Int) (v1 : Value) (w : World) {d1 : DataW H} {p1 : List MemPlace} (w0 : (Lit.int .u32 a0).wf = true) (ok1 : Value.okWide Try.prog w .any base 61 v1) (k1 : DataW.Trod enc Try.prog w 0 (fun _ => true) true 61 v1 d1 p1) :
    Calls Try.prog 8 #[.int .u32 a0, v1] w fun e w' => e = .returned (.bool true) ∧ Below w.heap.size w w' := by
  obtain ⟨s, rfl, hs⟩ := u32_of w0
  obtain ⟨x, y, z, rfl⟩ := open_cob ok1 k1
  exact words_walk s hs x y z w
end
end Go.Proofs.Ytagkbacgdkbbeaa
