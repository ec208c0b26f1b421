/-
  LAW NmtCommands: the walk.
-/
import Derived.Test.YtpnnmcicpjebmaaKnown25
import Derived.Test.YtpnnmcicpjebmaaFrame
set_option linter.unusedSimpArgs false
set_option linter.unusedVariables false
namespace Go.Proofs.Ytpnnmcicpjebmaa
open Go.RowKit
attribute [local go_sem] Oper.semAt_some

set_option maxRecDepth 100000 in
set_option maxHeartbeats 1000000 in
theorem commands_walk (id : Int) (rem : Bool) (l : List UInt8) (a : Option Addr) (cap : Nat) (node : Int) (w : World) (hl : (l.length : Int) ≤ 9223372036854775807) (hB : Bytes w a l) (hn : a = none → cap = 0) :
    Calls Try.prog 5 #[.agg #[.int .i64 id, .bool rem, .slice a l.length cap], .int .i64 node] w fun e w' => e = .returned (.bool true) ∧ Below w.heap.size w w' := by
  by_cases hbig : 1000 < l.length
  · have h1 : (1000 : Int) < (l.length : Int) := by omega
    clear hB hn
    generalize l.length = n at *
    go_enter Try.func5, Try.ntmps5
    go_wp2_with fail
    refine (known25 _).mono ?_
    rintro e w1 ⟨rfl, hb⟩
    go_wp2_with fail
    go_ret
    exact ⟨rfl, bstep (B := w.heap.size) (w := w) hb (by go_grown) (Nat.le_refl _)⟩
  · have h1 : (l.length : Int) ≤ 1000 := by omega
    have HBy := Lib.hid hB
    have HN := Lib.hid hn
    clear hB hn hbig
    go_enter Try.func5, Try.ntmps5
    go_wp2_with fail
    have hB1 : Bytes ((w.alloc (.cells #[.int .i64 id, .bool rem, .slice a l.length cap] 32)).alloc (.cells #[.int .i64 id, .bool rem, .slice a l.length cap] 32)) a l := HBy.out.below (((Below.refl _ w).alloc (Nat.le_refl _) _).alloc (by simp) _)
    refine (lent_any l a cap _ (by omega) hB1 HN.out).mono ?_
    rintro e w1 ⟨g, cap', rfl, hg, hown, hb1⟩
    simp only [World.size_alloc] at hg
    have hB2 := hB1.below hb1
    have HB1 := Lib.hid (bstep (B := w.heap.size) (w := w) hb1 (by go_grown) (Nat.le_refl _))
    have HF := Lib.hid (bkeep' hb1 (akeep _ (heap_alloc_new w _)))
    have HO := Lib.hid (bkeep' hb1 (anew (w.alloc (.cells #[.int .i64 id, .bool rem, .slice a l.length cap] 32)) (.cells #[.int .i64 id, .bool rem, .slice a l.length cap] 32) rfl))
    have s1 := hb1.size
    simp only [World.size_alloc] at s1
    have HW := Lib.hid hown
    have HB2 := Lib.hid hB2
    clear hb1 hown hB1 hB2
    obtain ⟨p0, p1, p2⟩ := cells3' HF.out
    obtain ⟨o0, o1, o2⟩ := cells3' HO.out
    simp only [World.size_alloc] at o0 o1 o2
    have fo := free_of HO.out 2
    simp only [World.size_alloc] at fo
    go_wp2_with fail
    simp only [World.size_alloc] at HW
    have ho2 : (w1.setCell ⟨w.heap.size + 1, 2, none⟩ (.slice (some ⟨g, 0, none⟩) l.length cap')).ownsRow (w.heap.size + 1 + 1) 5 1 (.slice (some ⟨g, 0, none⟩) (l.length + 1) cap') (l.length + 1) (bv (l ++ [77])) := ownsRow_setCell_below HW.out (by simp) _
    have b1 := HB1.out
    have k1 := b1.size
    have HB2 := Lib.hid (show Below w.heap.size w (w1.setCell ⟨w.heap.size + 1, 2, none⟩ (.slice (some ⟨g, 0, none⟩) l.length cap')) from b1.setCell (by simp) _)
    refine (cmd_any id rem l (some ⟨g, 0, none⟩) cap' node _ (by omega) (bytes_of_own ho2 l ⟨[77], rfl⟩)).mono ?_
    rintro e w2 ⟨rfl, hb2⟩
    have HB3 := Lib.hid (bstep (B := w.heap.size) (w := w) hb2 (HB2.out) (Nat.le_refl _))
    have HO3 := Lib.hid (own_below ho2 hb2)
    have HP3 := Lib.hid (bkeep' hb2 (skeep (a := ⟨w.heap.size + 1, 2, none⟩) (.slice (some ⟨g, 0, none⟩) l.length cap') HF.out (by simp)))
    have hO := HO.out
    simp only [World.size_alloc] at hO
    have hO3 := bkeep' hb2 (hset hO 2 (.slice (some ⟨g, 0, none⟩) l.length cap'))
    have s2 := hb2.size
    simp only [World.size_setCell] at s2
    have HR3 := Lib.hid hO3
    clear hb2 hO3 hO ho2 b1 HB1 HB2 p0 p1 p2 o0 o1 o2 fo HF HO HW
    obtain ⟨p0, p1, p2⟩ := cells3' HP3.out
    obtain ⟨o0, o1, o2⟩ := cells3' HR3.out
    have k3 : w.heap.size + 1 < w2.heap.size := by omega
    go_wp2_with fail
    refine (rcmd_any id rem l a cap node _ (by omega) (HBy.out.below HB3.out)).mono ?_
    rintro e w3 ⟨rfl, hb3⟩
    have s3 := hb3.size
    have HB4 := Lib.hid (bstep (B := w.heap.size) (w := w) hb3 (HB3.out) (Nat.le_refl _))
    have ho4 := own_below HO3.out hb3
    have hP4 := bkeep' hb3 HP3.out
    have hR4 := bkeep' hb3 HR3.out
    clear p0 p1 p2 o0 o1 o2 HB3 HO3 HP3 HR3 hb3
    obtain ⟨p0, p1, p2⟩ := cells3' hP4
    obtain ⟨o0, o1, o2⟩ := cells3' hR4
    have HO4 := Lib.hid ho4
    clear hP4 hR4 ho4
    have k4 : w.heap.size + 1 < w3.heap.size := by omega
    generalize cmN id rem l node = x at *
    generalize decide (cmOk id rem l node) = y at *
    go_wp2_with fail
    refine (kept_any l a cap g cap' _ _ (by omega) (HBy.out.below HB4.out) HN.out HO4.out).mono ?_
    rintro e w4 ⟨rfl, rfl⟩
    go_wp2_with fail
    refine (known25 _).mono ?_
    rintro e w4 ⟨rfl, hb⟩
    go_wp2_with fail
    go_ret
    exact ⟨rfl, bstep (B := w.heap.size) (w := w) hb (HB4.out) (Nat.le_refl _)⟩

section
variable {H : Type} {enc : TypeId × Value → H} {w : World} {base : Nat}
set_option maxRecDepth 100000 in
theorem commands_frame (v0 : Value) (a1 : Int) (w : World) {d0 : DataW H} {p0 : List MemPlace} (ok0 : Value.okWide Try.prog w .any base 32 v0) (k0 : DataW.Trod enc Try.prog w 0 (fun _ => true) true 32 v0 d0 p0)
    (w1 : (Lit.int .i64 a1).wf = true) :
    Calls Try.prog 5 #[v0, .int .i64 a1] w fun e w' => e = .returned (.bool true) ∧ Below w.heap.size w w' := by
  obtain ⟨id, rem, a, len, cap, zs, rfl, hr⟩ := open_frame ok0 k0
  obtain ⟨l, rfl, hB, hn, hm⟩ := hr.bytes
  exact commands_walk id rem l a cap a1 w (by unfold maxLen at hm; omega) hB hn
end
end Go.Proofs.Ytpnnmcicpjebmaa
