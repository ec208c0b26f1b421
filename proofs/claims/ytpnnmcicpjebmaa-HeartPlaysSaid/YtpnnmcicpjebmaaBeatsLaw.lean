/-
  LAW NmtBeats: the walk.
-/
import Derived.Test.YtpnnmcicpjebmaaKnown25
import Derived.Test.YtpnnmcicpjebmaaHeard
import Derived.Test.YtpnnmcicpjebmaaFrame
set_option linter.unusedSimpArgs false
set_option linter.unusedVariables false
namespace Go.Proofs.Ytpnnmcicpjebmaa
open Go.RowKit
attribute [local go_sem] Oper.semAt_some

theorem kn_u8 {s : Int} (h : knS s) : ∃ u : UInt8, s = (u.toNat : Int) := by
  unfold knS at h
  rcases h with rfl | rfl | rfl | rfl
  · exact ⟨0, rfl⟩
  · exact ⟨4, rfl⟩
  · exact ⟨5, rfl⟩
  · exact ⟨127, rfl⟩

theorem he_own {node : Int} {u : UInt8} (h : beatOk node (u.toNat : Int)) : heN (1792 + node) false [u] = node ∧ heS (1792 + node) false [u] = (u.toNat : Int) ∧ decide (heOk (1792 + node) false [u]) = true := by
  have k : heOk (1792 + node) false [u] := by
    obtain ⟨h1, h2, h3⟩ := h
    exact ⟨by omega, rfl, rfl, by simpa using h3⟩
  refine ⟨?_, ?_, decide_eq_true k⟩
  · unfold heN; rw [if_pos k]; omega
  · unfold heS; rw [if_pos k]; rfl

theorem heard_one (i : Int) (r : Bool) (x : UInt8) (g : Nat) (w : World) (h : w.heap[g]? = some (.cells #[.int .u8 (x.toNat : Int)] 5 (0, 0))) :
    Calls Try.prog 32 #[.agg #[.int .i64 i, .bool r, .slice (some ⟨g, 0, none⟩) 1 1]] w fun e w' => e = .returned (.tuple #[.int .i64 (heN i r [x]), .int .i64 (heS i r [x]), .bool (decide (heOk i r [x]))]) ∧ Below w.heap.size w w' :=
  heard_any i r [x] (some ⟨g, 0, none⟩) 1 w (by simp) (bytes_blk1 h)
theorem same_one (i : Int) (r : Bool) (x : UInt8) (g k : Nat) (w : World) (h : w.heap[g]? = some (.cells #[.int .u8 (x.toNat : Int)] 5 (0, 0))) (h2 : w.heap[k]? = some (.cells #[.int .u8 (x.toNat : Int)] 5 (0, 0))) :
    Calls Try.prog 34 #[.agg #[.int .i64 i, .bool r, .slice (some ⟨g, 0, none⟩) 1 1], .agg #[.int .i64 i, .bool r, .slice (some ⟨k, 0, none⟩) 1 1]] w fun e w' => e = .returned (.bool true) ∧ Below w.heap.size w w' :=
  same_yes i r [x] (some ⟨g, 0, none⟩) (some ⟨k, 0, none⟩) 1 1 w (bytes_blk1 h) (fun e => by cases e) (bytes_blk1 h2) (fun e => by cases e)
theorem same_zero (i : Int) (r : Bool) (w : World) :
    Calls Try.prog 34 #[.agg #[.int .i64 i, .bool r, .slice none 0 0], .agg #[.int .i64 i, .bool r, .slice none 0 0]] w fun e w' => e = .returned (.bool true) ∧ Below w.heap.size w w' :=
  same_yes i r [] none none 0 0 w (.inl rfl) (fun _ => rfl) (.inl rfl) (fun _ => rfl)

set_option maxRecDepth 100000 in
set_option maxHeartbeats 1000000 in
theorem beats_yes (node : Int) (u : UInt8) (id : Int) (rem : Bool) (l : List UInt8) (a : Option Addr) (cap : Nat) (w : World) (hl : (l.length : Int) ≤ 1000) (hB : Bytes w a l) (hok : beatOk node (u.toNat : Int)) :
    Calls Try.prog 8 #[.int .i64 node, .int .i64 (u.toNat : Int), .agg #[.int .i64 id, .bool rem, .slice a l.length cap]] w fun e w' => e = .returned (.bool true) ∧ Below w.heap.size w w' := by
  have HBy := Lib.hid hB
  have HOK := Lib.hid hok
  have HH := Lib.hid (he_own hok)
  clear hB hok
  go_enter Try.func8, Try.ntmps8
  go_wp2_with fail
  refine (beat_yes node _ _ HOK.out).mono ?_
  rintro e w1 ⟨g, rfl, hg, hG, hb1⟩
  have HB1 := Lib.hid (bstep (B := w.heap.size) (w := w) hb1 (by go_grown) (Nat.le_refl _))
  have HF1 := Lib.hid (bkeep' hb1 (heap_alloc_new w _))
  have HG1 := Lib.hid hG
  have s1 := hb1.size
  simp only [World.size_alloc] at s1 hg
  have kg := lt_of_block hG
  clear hb1 hG
  go_wp2_with fail
  refine (rbeat_yes node _ _ HOK.out).mono ?_
  rintro e w2 ⟨g', rfl, hg', hG', hb2⟩
  have b1 := HB1.out
  have k1 := b1.size
  have HB2 := Lib.hid (bstep (B := w.heap.size) (w := w) hb2 (by go_grown) (Nat.le_refl _))
  have HF2 := Lib.hid (bkeep' hb2 (akeep _ HF1.out))
  have HG2 := Lib.hid (bkeep' hb2 (akeep _ HG1.out))
  have HX2 := Lib.hid (bkeep' hb2 (heap_alloc_new w1 _))
  have HK2 := Lib.hid hG'
  have s2 := hb2.size
  simp only [World.size_alloc] at s2 hg'
  have kg' := lt_of_block hG'
  clear hb2 hG' b1 HB1 HF1 HG1
  obtain ⟨f0, f1, f2⟩ := cells3' HF2.out
  have k2 : w.heap.size < w2.heap.size := by omega
  go_wp2_with fail
  have b1 := HB2.out
  have k0 := b1.size
  refine (heard_any id rem l a cap _ (by omega) (HBy.out.below (by go_grown))).mono ?_
  rintro e w3 ⟨rfl, hb3⟩
  have HB3 := Lib.hid (bstep (B := w.heap.size) (w := w) hb3 (by go_grown) (Nat.le_refl _))
  have HF3 := Lib.hid (bkeep' hb3 (akeep _ HF2.out))
  have HG3 := Lib.hid (bkeep' hb3 (akeep _ HG2.out))
  have HX3 := Lib.hid (bkeep' hb3 (akeep _ HX2.out))
  have HK3 := Lib.hid (bkeep' hb3 (akeep _ HK2.out))
  have HY3 := Lib.hid (bkeep' hb3 (heap_alloc_new w2 _))
  have s3 := hb3.size
  simp only [World.size_alloc] at s3
  clear hb3 b1 HB2 HF2 HG2 HX2 HK2 f0 f1 f2
  obtain ⟨f0, f1, f2⟩ := cells3' HF3.out
  have k3 : w.heap.size < w3.heap.size := by omega
  go_wp2_with fail
  refine (rheard_any id rem l a cap _ (by omega) (HBy.out.below HB3.out)).mono ?_
  rintro e w4 ⟨rfl, hb4⟩
  generalize heN id rem l = x1 at *
  generalize heS id rem l = x2 at *
  generalize decide (heOk id rem l) = x3 at *
  have HB4 := Lib.hid (bstep (B := w.heap.size) (w := w) hb4 HB3.out (Nat.le_refl _))
  have HG4 := Lib.hid (bkeep' hb4 HG3.out)
  have HX4 := Lib.hid (bkeep' hb4 HX3.out)
  have HK4 := Lib.hid (bkeep' hb4 HK3.out)
  have HY4 := Lib.hid (bkeep' hb4 HY3.out)
  have s4 := hb4.size
  clear hb4 HB3 HF3 HG3 HX3 HK3 HY3 f0 f1 f2
  obtain ⟨f0, f1, f2⟩ := cells3' HX4.out
  obtain ⟨g0, g1, g2⟩ := cells3' HY4.out
  have k4 : w1.heap.size < w4.heap.size := by omega
  have k5 : w2.heap.size < w4.heap.size := by omega
  go_wp2_with fail
  refine (same_one _ _ u g g' _ HG4.out HK4.out).mono ?_
  rintro e w5 ⟨rfl, hb5⟩
  have HB5 := Lib.hid (bstep (B := w.heap.size) (w := w) hb5 HB4.out (Nat.le_refl _))
  have HG5 := Lib.hid (bkeep' hb5 HG4.out)
  have HX5 := Lib.hid (bkeep' hb5 HX4.out)
  have s5 := hb5.size
  clear hb5 HB4 HG4 HX4 HK4 HY4 f0 f1 f2 g0 g1 g2
  obtain ⟨f0, f1, f2⟩ := cells3' HX5.out
  have k6 : w1.heap.size < w5.heap.size := by omega
  go_wp2_with fail
  refine (heard_one _ _ u g _ HG5.out).mono ?_
  rintro e w6 ⟨rfl, hb6⟩
  rw [HH.out.1, HH.out.2.1, HH.out.2.2]
  have HB6 := Lib.hid (bstep (B := w.heap.size) (w := w) hb6 HB5.out (Nat.le_refl _))
  clear hb6
  go_wp2_with fail
  refine (known25 _).mono ?_
  rintro e w7 ⟨rfl, hb7⟩
  go_wp2_with fail
  go_ret
  exact ⟨rfl, bstep (B := w.heap.size) (w := w) hb7 HB6.out (Nat.le_refl _)⟩

set_option maxRecDepth 100000 in
set_option maxHeartbeats 1000000 in
theorem beats_no (node s : Int) (id : Int) (rem : Bool) (l : List UInt8) (a : Option Addr) (cap : Nat) (w : World) (hl : (l.length : Int) ≤ 1000) (hB : Bytes w a l) (hok : ¬ beatOk node s) :
    Calls Try.prog 8 #[.int .i64 node, .int .i64 s, .agg #[.int .i64 id, .bool rem, .slice a l.length cap]] w fun e w' => e = .returned (.bool true) ∧ Below w.heap.size w w' := by
  have HBy := Lib.hid hB
  have HOK := Lib.hid hok
  clear hB hok
  go_enter Try.func8, Try.ntmps8
  go_wp2_with fail
  refine (beat_no node _ _ HOK.out).mono ?_
  rintro e w1 ⟨rfl, hb1⟩
  have HB1 := Lib.hid (bstep (B := w.heap.size) (w := w) hb1 (by go_grown) (Nat.le_refl _))
  have HF1 := Lib.hid (bkeep' hb1 (heap_alloc_new w _))
  have s1 := hb1.size
  simp only [World.size_alloc] at s1
  clear hb1
  go_wp2_with fail
  refine (rbeat_no node _ _ HOK.out).mono ?_
  rintro e w2 ⟨rfl, hb2⟩
  have b1 := HB1.out
  have k1 := b1.size
  have HB2 := Lib.hid (bstep (B := w.heap.size) (w := w) hb2 (by go_grown) (Nat.le_refl _))
  have HF2 := Lib.hid (bkeep' hb2 (akeep _ HF1.out))
  have HX2 := Lib.hid (bkeep' hb2 (heap_alloc_new w1 _))
  have s2 := hb2.size
  simp only [World.size_alloc] at s2
  clear hb2 b1 HB1 HF1
  obtain ⟨f0, f1, f2⟩ := cells3' HF2.out
  have k2 : w.heap.size < w2.heap.size := by omega
  go_wp2_with fail
  have b1 := HB2.out
  have k0 := b1.size
  refine (heard_any id rem l a cap _ (by omega) (HBy.out.below (by go_grown))).mono ?_
  rintro e w3 ⟨rfl, hb3⟩
  have HB3 := Lib.hid (bstep (B := w.heap.size) (w := w) hb3 (by go_grown) (Nat.le_refl _))
  have HF3 := Lib.hid (bkeep' hb3 (akeep _ HF2.out))
  have HX3 := Lib.hid (bkeep' hb3 (akeep _ HX2.out))
  have HY3 := Lib.hid (bkeep' hb3 (heap_alloc_new w2 _))
  have s3 := hb3.size
  simp only [World.size_alloc] at s3
  clear hb3 b1 HB2 HF2 HX2 f0 f1 f2
  obtain ⟨f0, f1, f2⟩ := cells3' HF3.out
  have k3 : w.heap.size < w3.heap.size := by omega
  go_wp2_with fail
  refine (rheard_any id rem l a cap _ (by omega) (HBy.out.below HB3.out)).mono ?_
  rintro e w4 ⟨rfl, hb4⟩
  generalize heN id rem l = x1 at *
  generalize heS id rem l = x2 at *
  generalize decide (heOk id rem l) = x3 at *
  have HB4 := Lib.hid (bstep (B := w.heap.size) (w := w) hb4 HB3.out (Nat.le_refl _))
  have HX4 := Lib.hid (bkeep' hb4 HX3.out)
  have HY4 := Lib.hid (bkeep' hb4 HY3.out)
  have s4 := hb4.size
  clear hb4 HB3 HF3 HX3 HY3 f0 f1 f2
  obtain ⟨f0, f1, f2⟩ := cells3' HX4.out
  obtain ⟨g0, g1, g2⟩ := cells3' HY4.out
  have k4 : w1.heap.size < w4.heap.size := by omega
  have k5 : w2.heap.size < w4.heap.size := by omega
  go_wp2_with fail
  refine (same_zero _ _ _).mono ?_
  rintro e w5 ⟨rfl, hb5⟩
  have HB5 := Lib.hid (bstep (B := w.heap.size) (w := w) hb5 HB4.out (Nat.le_refl _))
  clear hb5 HB4
  go_wp2_with fail
  refine (known25 _).mono ?_
  rintro e w7 ⟨rfl, hb7⟩
  go_wp2_with fail
  go_ret
  exact ⟨rfl, bstep (B := w.heap.size) (w := w) hb7 HB5.out (Nat.le_refl _)⟩

set_option maxRecDepth 100000 in
set_option maxHeartbeats 1000000 in
theorem beats_big (node s : Int) (id : Int) (rem : Bool) (n : Nat) (a : Option Addr) (cap : Nat) (w : World) (hn : (n : Int) ≤ 9223372036854775807) (h1 : (1000 : Int) < (n : Int)) :
    Calls Try.prog 8 #[.int .i64 node, .int .i64 s, .agg #[.int .i64 id, .bool rem, .slice a n cap]] w fun e w' => e = .returned (.bool true) ∧ Below w.heap.size w w' := by
  go_enter Try.func8, Try.ntmps8
  go_wp2_with fail
  refine (known25 _).mono ?_
  rintro e w1 ⟨rfl, hb⟩
  go_wp2_with fail
  go_ret
  exact ⟨rfl, bstep (B := w.heap.size) (w := w) hb (by go_grown) (Nat.le_refl _)⟩

section
variable {H : Type} {enc : TypeId × Value → H} {w : World} {base : Nat}
set_option maxRecDepth 100000 in
theorem beats_frame (a0 a1 : Int) (v2 : Value) (w : World) {d2 : DataW H} {p2 : List MemPlace} (w0 : (Lit.int .i64 a0).wf = true) (w1 : (Lit.int .i64 a1).wf = true)
    (ok2 : Value.okWide Try.prog w .any base 32 v2) (k2 : DataW.Trod enc Try.prog w 0 (fun _ => true) true 32 v2 d2 p2) :
    Calls Try.prog 8 #[.int .i64 a0, .int .i64 a1, v2] w fun e w' => e = .returned (.bool true) ∧ Below w.heap.size w w' := by
  obtain ⟨id, rem, a, len, cap, zs, rfl, hr⟩ := open_frame ok2 k2
  obtain ⟨l, rfl, hB, hn, hm⟩ := hr.bytes
  by_cases c : 1000 < l.length
  · exact beats_big a0 a1 id rem l.length a cap w (by unfold maxLen at hm; omega) (by omega)
  · by_cases h : beatOk a0 a1
    · obtain ⟨u, rfl⟩ := kn_u8 h.2.2
      exact beats_yes a0 u id rem l a cap w (by omega) hB h
    · exact beats_no a0 a1 id rem l a cap w (by omega) hB h
end
end Go.Proofs.Ytpnnmcicpjebmaa
