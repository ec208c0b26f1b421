/-
  CONTRACTS of Seen and Id; at nil; the fixed calls of the pulse laws.
-/
import Derived.Test.YtagkbacgdkbbeaaRRecv
set_option linter.unusedSimpArgs false
set_option linter.unusedVariables false
namespace Go.Proofs.Ytagkbacgdkbbeaa
open Go.RowKit
attribute [local go_sem] Oper.semAt_some

theorem seen_any (b : Nat) (id o s : Int) (w : World) (hb : w.heap[b]? = some (.cells #[.int .i64 id, .int .i64 o, .int .i64 s] 46 (0, 0))) :
    Calls Try.prog 19 #[.pointer (some ⟨b, 0, none⟩)] w fun e w' => e = .returned (.int .i64 s) ∧ w = w' := by
  obtain ⟨p0, p1, p2⟩ := cells3' hb
  clear hb
  go_enter Try.func19, Try.ntmps19
  go_wp2_with fail
  go_ret
  exact ⟨rfl, rfl⟩
theorem pid_any (b : Nat) (id o s : Int) (w : World) (hb : w.heap[b]? = some (.cells #[.int .i64 id, .int .i64 o, .int .i64 s] 46 (0, 0))) :
    Calls Try.prog 20 #[.pointer (some ⟨b, 0, none⟩)] w fun e w' => e = .returned (.int .i64 id) ∧ w = w' := by
  obtain ⟨p0, p1, p2⟩ := cells3' hb
  clear hb
  go_enter Try.func20, Try.ntmps20
  go_wp2_with fail
  go_ret
  exact ⟨rfl, rfl⟩
theorem seen_nil (w : World) : Calls Try.prog 19 #[.pointer none] w fun e w' => e = .returned (.int .i64 0) ∧ w = w' := by
  go_enter Try.func19, Try.ntmps19
  go_wp2_with fail
  go_ret
  exact ⟨rfl, rfl⟩
theorem pid_nil (w : World) : Calls Try.prog 20 #[.pointer none] w fun e w' => e = .returned (.int .i64 0) ∧ w = w' := by
  go_enter Try.func20, Try.ntmps20
  go_wp2_with fail
  go_ret
  exact ⟨rfl, rfl⟩

set_option maxRecDepth 100000 in
set_option maxHeartbeats 1000000 in
theorem recv_nil (fid : Int) (rem : Bool) (a : Option Addr) (n cap : Nat) (w : World) :
    Calls Try.prog 17 #[.pointer none, .agg #[.int .i64 fid, .bool rem, .slice a n cap]] w fun e w' => e = .returned (.tuple #[.int .i64 0, .bool false, .bool false]) ∧ Below w.heap.size w w' := by
  go_enter Try.func17, Try.ntmps17
  go_wp2_with fail
  go_step3
  go_wp2_with fail
  go_quiet (fail)
  go_wp2_with fail
  rw [Exit.noGoto_ret]
  go_ret3
  exact ⟨rfl, below_dn (by go_grown) _⟩

set_option maxRecDepth 100000 in
set_option maxHeartbeats 1000000 in
theorem recv_zero (b : Nat) (o s fid : Int) (rem : Bool) (a : Option Addr) (n cap : Nat) (w : World) (hb : w.heap[b]? = some (.cells #[.int .i64 0, .int .i64 o, .int .i64 s] 46 (0, 0))) :
    Calls Try.prog 17 #[.pointer (some ⟨b, 0, none⟩), .agg #[.int .i64 fid, .bool rem, .slice a n cap]] w fun e w' => e = .returned (.tuple #[.int .i64 0, .bool false, .bool false]) ∧ Below w.heap.size w w' := by
  obtain ⟨p0, p1, p2⟩ := cells3' hb
  have hlt := lt_of_block hb
  clear hb
  go_enter Try.func17, Try.ntmps17
  go_wp2_with fail
  go_step3
  go_wp2_with fail
  go_quiet (fail)
  go_wp2_with fail
  rw [Exit.noGoto_ret]
  go_ret3
  exact ⟨rfl, below_dn (by go_grown) _⟩

theorem bytes_blk1 {w : World} {g : Nat} {x : UInt8} (h : w.heap[g]? = some (.cells #[.int .u8 (x.toNat : Int)] 5 (0, 0))) : Bytes w (some ⟨g, 0, none⟩) [x] := by
  have h0 := cells1 h
  refine .inr ⟨g, 0, rfl, fun i hi => ?_⟩
  match i, hi with
  | 0, _ => simpa using h0

theorem recv_one (b : Nat) (id o s fid : Int) (rem : Bool) (x : UInt8) (g : Nat) (w : World) (hb : w.heap[b]? = some (.cells #[.int .i64 id, .int .i64 o, .int .i64 s] 46 (0, 0)))
    (hid : id ≠ 0) (ho : 0 ≤ o) (hs0 : 0 ≤ s) (hs : s ≤ 100000) (hg : w.heap[g]? = some (.cells #[.int .u8 (x.toNat : Int)] 5 (0, 0))) :
    Calls Try.prog 17 #[.pointer (some ⟨b, 0, none⟩), .agg #[.int .i64 fid, .bool rem, .slice (some ⟨g, 0, none⟩) 1 1]] w (RcPost b 46 id o s (rcR id o fid rem [x]) w) :=
  recv_any b id o s fid rem [x] (some ⟨g, 0, none⟩) 1 w hb hid ho hs0 hs (by simp) (bytes_blk1 hg)

set_option maxRecDepth 100000 in
set_option maxHeartbeats 1000000 in
theorem known28 (w : World) : Calls Try.prog 15 #[] w fun e w' => e = .returned (.bool true) ∧ Below w.heap.size w w' := by
  go_enter Try.func15, Try.ntmps15
  go_wp2_with fail
  refine (pnew_ok 128 (by omega) 10 _ (by decide +kernel)).mono ?_
  rintro e w1 ⟨g, rfl, hg, hG, hb1⟩
  rw [show spId 128 = 128 by decide +kernel] at hG
  have HB1 := Lib.hid hb1
  have HG1 := Lib.hid hG
  clear hb1 hG
  go_wp2_with fail
  refine (pnew_no 0 (by omega) 0 _ (by decide +kernel)).mono ?_
  rintro e w2 ⟨rfl, hb2⟩
  rw [show chE 0 0 = 9 by decide +kernel]
  have HB2 := Lib.hid (bstep (B := w.heap.size) (w := w) hb2 HB1.out (Nat.le_refl _))
  have HG2 := Lib.hid (bkeep' hb2 HG1.out)
  clear hb2 HB1 HG1
  go_wp2_with fail
  refine (recv_one g 128 10 0 128 false 3 w2.heap.size _ (akeep _ HG2.out) (by omega) (by omega) (by omega) (by omega) (anew _ _ rfl)).mono ?_
  rintro e w3 ⟨rfl, hG3, hu3⟩
  rw [show rcR 128 10 128 false [3] = (3, true, false, 1) by decide +kernel] at hG3 ⊢
  have b2 := HB2.out
  have k2 := b2.size
  have thu3 : Below w.heap.size w (w2.alloc (.cells #[.int .u8 3] 5)) := by go_grown
  have HB3 := Lib.hid (thu3.trans (hu3.toBelow (B := w.heap.size) (by simp; omega) (fun i hi (e : i = g) => by omega)))
  clear thu3
  have HG3 := Lib.hid hG3
  clear hG3 hu3 b2 HB2 HG2
  go_wp2_with fail
  refine (recv_one g 128 10 1 128 false 11 w3.heap.size _ (akeep _ HG3.out) (by omega) (by omega) (by omega) (by omega) (anew _ _ rfl)).mono ?_
  rintro e w4 ⟨rfl, hG4, hu4⟩
  rw [show rcR 128 10 128 false [11] = (0, false, true, 0) by decide +kernel] at hG4 ⊢
  have b3 := HB3.out
  have k3 := b3.size
  have thu4 : Below w.heap.size w (w3.alloc (.cells #[.int .u8 11] 5)) := by go_grown
  have HB4 := Lib.hid (thu4.trans (hu4.toBelow (B := w.heap.size) (by simp; omega) (fun i hi (e : i = g) => by omega)))
  clear thu4
  have HG4 := Lib.hid hG4
  clear hG4 hu4 b3 HB3 HG3
  go_wp2_with fail
  refine (seen_any g _ _ _ _ HG4.out).mono ?_
  rintro e w5 ⟨rfl, rfl⟩
  go_wp2_with fail
  refine (pid_any g _ _ _ _ HG4.out).mono ?_
  rintro e w5 ⟨rfl, rfl⟩
  go_wp2_with fail
  go_ret
  exact ⟨rfl, HB4.out⟩

set_option maxRecDepth 100000 in
set_option maxHeartbeats 1000000 in
theorem pnil_walk (fid : Int) (rem : Bool) (a : Option Addr) (n cap : Nat) (w : World) :
    Calls Try.prog 5 #[.agg #[.int .i64 fid, .bool rem, .slice a n cap]] w fun e w' => e = .returned (.bool true) ∧ Below w.heap.size w w' := by
  go_enter Try.func5, Try.ntmps5
  go_wp2_with fail
  refine (recv_nil fid rem a n cap _).mono ?_
  rintro e w1 ⟨rfl, hb1⟩
  have HB1 := Lib.hid (bstep (B := w.heap.size) (w := w) hb1 (by go_grown) (Nat.le_refl _))
  have HF1 := Lib.hid (bkeep' hb1 (akeep _ (heap_alloc_new w _)))
  have HZ1 := Lib.hid (bkeep' hb1 (anew (w.alloc (.cells #[.int .i64 fid, .bool rem, .slice a n cap] 34)) (.cells #[.int .i64 0, .int .i64 0, .int .i64 0] 46) rfl))
  have s1 := hb1.size
  simp only [World.size_alloc] at s1 HZ1
  have k1 : w.heap.size < w1.heap.size := by omega
  clear hb1
  obtain ⟨f0, f1, f2⟩ := cells3' HF1.out
  go_wp2_with fail
  refine (recv_zero _ 0 0 fid rem a n cap _ HZ1.out).mono ?_
  rintro e w2 ⟨rfl, hb2⟩
  have HB2 := Lib.hid (bstep (B := w.heap.size) (w := w) hb2 HB1.out (Nat.le_refl _))
  have HZ2 := Lib.hid (bkeep' hb2 HZ1.out)
  clear hb2
  go_wp2_with fail
  refine (seen_nil _).mono ?_
  rintro e w3 ⟨rfl, rfl⟩
  go_wp2_with fail
  refine (pid_nil _).mono ?_
  rintro e w3 ⟨rfl, rfl⟩
  go_wp2_with fail
  refine (seen_any _ _ _ _ _ HZ2.out).mono ?_
  rintro e w3 ⟨rfl, rfl⟩
  go_wp2_with fail
  refine (known28 _).mono ?_
  rintro e w3 ⟨rfl, hb3⟩
  go_wp2_with fail
  go_ret
  exact ⟨rfl, bstep (B := w.heap.size) (w := w) hb3 HB2.out (Nat.le_refl _)⟩
end Go.Proofs.Ytagkbacgdkbbeaa
