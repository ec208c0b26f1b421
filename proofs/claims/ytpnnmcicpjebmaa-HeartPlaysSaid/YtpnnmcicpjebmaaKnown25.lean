/-
  The fixed calls of the nmt laws.
-/
import Derived.Test.YtpnnmcicpjebmaaBeat
import Derived.Test.YtpnnmcicpjebmaaCmd
import Derived.Test.YtpnnmcicpjebmaaLent
set_option linter.unusedSimpArgs false
set_option linter.unusedVariables false
namespace Go.Proofs.Ytpnnmcicpjebmaa
open Go.RowKit
attribute [local go_sem] Oper.semAt_some

theorem bytes_blk2 {w : World} {g : Nat} {x y : UInt8} (h : w.heap[g]? = some (.cells #[.int .u8 (x.toNat : Int), .int .u8 (y.toNat : Int)] 5 (0, 0))) : Bytes w (some ⟨g, 0, none⟩) [x, y] := by
  obtain ⟨h0, h1⟩ := cells2 h
  refine .inr ⟨g, 0, rfl, fun i hi => ?_⟩
  match i, hi with
  | 0, _ => simpa using h0
  | 1, _ => simpa using h1
theorem bytes_blk1 {w : World} {g : Nat} {x : UInt8} (h : w.heap[g]? = some (.cells #[.int .u8 (x.toNat : Int)] 5 (0, 0))) : Bytes w (some ⟨g, 0, none⟩) [x] := by
  have h0 := cells1 h
  refine .inr ⟨g, 0, rfl, fun i hi => ?_⟩
  match i, hi with
  | 0, _ => simpa using h0

theorem cmd_two (g : Nat) (node : Int) (w : World) (h : w.heap[g]? = some (.cells #[.int .u8 1, .int .u8 5] 5 (0, 0))) :
    Calls Try.prog 21 #[.agg #[.int .i64 0, .bool false, .slice (some ⟨g, 0, none⟩) 2 2], .int .i64 node] w fun e w' => e = .returned (.tuple #[.int .i64 (cmN 0 false [1, 5] node), .bool (decide (cmOk 0 false [1, 5] node))]) ∧ Below w.heap.size w w' :=
  cmd_any 0 false [1, 5] (some ⟨g, 0, none⟩) 2 node w (by simp) (bytes_blk2 (x := 1) (y := 5) h)

set_option maxRecDepth 100000 in
set_option maxHeartbeats 1000000 in
theorem known25 (w : World) : Calls Try.prog 19 #[] w fun e w' => e = .returned (.bool true) ∧ Below w.heap.size w w' := by
  go_enter Try.func19, Try.ntmps19
  go_wp2_with fail
  refine (cmd_two _ 5 _ (anew _ _ rfl)).mono ?_
  rintro e w1 ⟨rfl, hb1⟩
  rw [show cmN 0 false [1, 5] 5 = 1 by decide +kernel, show decide (cmOk 0 false [1, 5] 5) = true by decide +kernel]
  have HB1 := Lib.hid (bstep (B := w.heap.size) (w := w) hb1 (by go_grown) (Nat.le_refl _))
  clear hb1
  go_wp2_with fail
  refine (cmd_two _ 6 _ (anew _ _ rfl)).mono ?_
  rintro e w2 ⟨rfl, hb2⟩
  rw [show cmN 0 false [1, 5] 6 = 0 by decide +kernel, show decide (cmOk 0 false [1, 5] 6) = false by decide +kernel]
  have b1 := HB1.out
  have k1 := b1.size
  have HB2 := Lib.hid (bstep (B := w.heap.size) (w := w) hb2 (by go_grown) (Nat.le_refl _))
  clear hb2 b1 HB1
  go_wp2_with fail
  refine (next_any 5 129 _).mono ?_
  rintro e w3 ⟨rfl, rfl⟩
  rw [show nxS 5 129 = 0 by decide +kernel, show nxR 5 129 = 129 by decide +kernel]
  go_wp2_with fail
  refine (beat_yes 5 127 _ (by unfold beatOk knS; omega)).mono ?_
  rintro e w3 ⟨g, rfl, hg, hG, hb3⟩
  have b1 := HB2.out
  have k2 := b1.size
  have HB3 := Lib.hid (bstep (B := w.heap.size) (w := w) hb3 (by go_grown) (Nat.le_refl _))
  have hlt := lt_of_block hG
  have hs : (convert 22 9 (.slice (some ⟨g, 0, none⟩) 1 1)).run Try.prog (w3.alloc (.cells #[.int .i64 1797, .bool false, .slice (some ⟨g, 0, none⟩) 1 1] 32)) = .ok (.string ⟨#[127]⟩) (w3.alloc (.cells #[.int .i64 1797, .bool false, .slice (some ⟨g, 0, none⟩) 1 1] 32)) :=
    string_of (l := [127]) (cap := 1) (bytes_blk1 (x := 127) (akeep (.cells #[.int .i64 1797, .bool false, .slice (some ⟨g, 0, none⟩) 1 1] 32) hG)) (fun h => by cases h)
  have HG := Lib.hid hG
  have k3 := HB3.out.size
  clear hb3 b1 HB2 hG
  go_wp2_with fail
  refine (sv_any 5 1 _).mono ?_
  rintro e w4 ⟨rfl, rfl⟩
  rw [show decide (svB 5 1) = true by decide +kernel]
  go_wp2_with fail
  refine (sv_any 127 1 _).mono ?_
  rintro e w4 ⟨rfl, rfl⟩
  rw [show decide (svB 127 1) = false by decide +kernel]
  go_wp2_with fail
  go_ret
  have b1 := HB3.out
  exact ⟨rfl, by go_grown⟩
end Go.Proofs.Ytpnnmcicpjebmaa
