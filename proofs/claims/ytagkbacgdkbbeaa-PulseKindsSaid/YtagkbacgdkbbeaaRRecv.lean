/-
  CONTRACT of the document's Receive.
-/
import Derived.Test.YtagkbacgdkbbeaaRecv
set_option linter.unusedSimpArgs false
set_option linter.unusedVariables false
namespace Go.Proofs.Ytagkbacgdkbbeaa
open Go.RowKit
attribute [local go_sem] Oper.semAt_some

theorem blk_ne {w : World} {b t db off : Nat} {x y z n : Int} (hb : w.heap[b]? = some (.cells #[.int .i64 x, .int .i64 y, .int .i64 z] t (0, 0))) (hx : w.cell? ⟨db, off, none⟩ = some (.int .u8 n)) : db ≠ b := by
  rintro rfl
  simp only [World.cell?, hb] at hx
  match off, hx with
  | 0, h => simp at h
  | 1, h => simp at h
  | 2, h => simp at h

set_option maxRecDepth 100000 in
set_option maxHeartbeats 2000000 in
theorem rrecv_any (b : Nat) (id o s fid : Int) (rem : Bool) (l : List UInt8) (a : Option Addr) (cap : Nat) (w : World) (hb : w.heap[b]? = some (.cells #[.int .i64 id, .int .i64 o, .int .i64 s] 41 (0, 0)))
    (ho : 0 ≤ o) (hs0 : 0 ≤ s) (hs : s ≤ 100000) (hl : (l.length : Int) ≤ 100000) (hB : Bytes w a l) :
    Calls Try.prog 18 #[.pointer (some ⟨b, 0, none⟩), .agg #[.int .i64 fid, .bool rem, .slice a l.length cap]] w (RcPost b 41 id o s (rcR id o fid rem l) w) := by
  obtain ⟨p0, p1, p2⟩ := cells3' hb
  have f2 := free_of hb 2
  have hlt := lt_of_block hb
  have HB := Lib.hid hb
  clear hb
  rcases rc_ways id o fid rem l with ⟨h, e⟩ | ⟨rfl, rfl, e⟩ | ⟨rfl, rfl, rfl, h, e⟩ | ⟨rfl, rfl, rfl, h, e⟩ | ⟨rfl, rfl, h, h2, e⟩ | ⟨rfl, rfl, h, x, rfl, h2, e⟩ | ⟨rfl, rfl, h, x, rfl, h2, h3, e⟩ | ⟨rfl, rfl, h, x, rfl, h2, h3, e⟩
  · rw [e]
    have hne : (fid != id) = true := by rw [bne_iff_ne]; exact h
    clear h hB e
    generalize l.length = n at *
    go_enter Try.func18, Try.ntmps18
    go_wp2_with fail
    go_quiet (fail)
    go_wp2_with fail
    go_ret3
    first | exact (rc_same _ HB.out).drewN _ | exact ((rc_same _ HB.out).drewN _).drewN _
  · rw [e]
    clear hB e
    generalize l.length = n at *
    go_enter Try.func18, Try.ntmps18
    go_wp2_with fail
    go_quiet (fail)
    go_wp2_with fail
    go_ret3
    first | exact (rc_same _ HB.out).drewN _ | exact ((rc_same _ HB.out).drewN _).drewN _
  · rw [e]
    clear hB e
    rw [h]
    clear h
    go_enter Try.func18, Try.ntmps18
    go_wp2_with fail
    go_quiet (fail)
    go_wp2_with fail
    go_ret3
    exact rc_more2 _ _ HB.out
  · rw [e]
    clear hB e
    have h0 : ((l.length : Int) == 0) = false := by rw [beq_eq_false_iff_ne]; omega
    have h1 : (l.length == 0) = false := by rw [beq_eq_false_iff_ne]; omega
    generalize l.length = n at *
    clear h
    go_enter Try.func18, Try.ntmps18
    go_wp2_with fail
    go_quiet (fail)
    go_wp2_with fail
    go_quiet (fail)
    go_wp2_with fail
    go_ret3
    first | exact (rc_same _ HB.out).drewN _ | exact ((rc_same _ HB.out).drewN _).drewN _
  · rw [e]
    clear hB e
    have h0 : (o == 0) = false := by rw [beq_eq_false_iff_ne]; exact h
    have h0' : decide (0 < o) = true := by rw [decide_eq_true_iff]; omega
    have h1 : ((l.length : Int) == 1) = false := by rw [beq_eq_false_iff_ne]; omega
    have h2' : (l.length == 1) = false := by rw [beq_eq_false_iff_ne]; omega
    generalize l.length = n at *
    clear h h2
    go_enter Try.func18, Try.ntmps18
    go_wp2_with fail
    go_quiet (fail)
    go_wp2_with fail
    go_quiet (fail)
    go_wp2_with fail
    go_ret3
    first | exact (rc_same _ HB.out).drewN _ | exact ((rc_same _ HB.out).drewN _).drewN _
  · rw [e]
    obtain ⟨db, off, rfl, hdl, hx⟩ := one_of hB
    have h0 : (o == 0) = false := by rw [beq_eq_false_iff_ne]; exact h
    have h0' : decide (0 < o) = true := by rw [decide_eq_true_iff]; omega
    have h1 : decide (1 ≤ (x.toNat : Int)) = false := by rw [decide_eq_false_iff_not]; omega
    have hxl := x.toNat_lt
    clear hB e h
    generalize x.toNat = X at *
    go_enter Try.func18, Try.ntmps18
    go_wp2_with fail
    go_quiet (fail)
    go_wp2_with fail
    go_quiet (fail)
    go_wp2_with fail
    go_ret3
    first | exact (rc_same _ HB.out).drewN _ | exact ((rc_same _ HB.out).drewN _).drewN _
  · rw [e]
    obtain ⟨db, off, rfl, hdl, hx⟩ := one_of hB
    have h0 : (o == 0) = false := by rw [beq_eq_false_iff_ne]; exact h
    have h0' : decide (0 < o) = true := by rw [decide_eq_true_iff]; omega
    have h1 : decide (1 ≤ (x.toNat : Int)) = true := decide_eq_true h2
    have h4 : decide ((x.toNat : Int) ≤ o) = false := by rw [decide_eq_false_iff_not]; omega
    have hxl := x.toNat_lt
    clear hB e h
    generalize x.toNat = X at *
    go_enter Try.func18, Try.ntmps18
    go_wp2_with fail
    go_quiet (fail)
    go_wp2_with fail
    go_quiet (fail)
    go_wp2_with fail
    go_ret3
    first | exact (rc_same _ HB.out).drewN _ | exact ((rc_same _ HB.out).drewN _).drewN _
  · rw [e]
    obtain ⟨db, off, rfl, hdl, hx⟩ := one_of hB
    have h0 : (o == 0) = false := by rw [beq_eq_false_iff_ne]; exact h
    have h0' : decide (0 < o) = true := by rw [decide_eq_true_iff]; omega
    have h1 : decide (1 ≤ (x.toNat : Int)) = true := decide_eq_true h2
    have h4 : decide ((x.toNat : Int) ≤ o) = true := decide_eq_true h3
    have hne := blk_ne HB.out hx
    have hne2 : b ≠ db := fun e => hne e.symm
    have hxl := x.toNat_lt
    clear hB e h
    generalize x.toNat = X at *
    go_enter Try.func18, Try.ntmps18
    go_wp2_with fail
    go_quiet (fail)
    go_wp2_with fail
    go_quiet (fail)
    go_wp2_with fail
    go_ret3
    exact rc_more2 _ _ HB.out
end Go.Proofs.Ytagkbacgdkbbeaa
