/-
  CONTRACT of All, as the heart's law needs it.
-/
import Derived.Test.YtpnnmcicpjebmaaRTickH
import Derived.Test.YtpnnmcicpjebmaaBeatsLaw
import Derived.Deep.RegionHeld3
set_option linter.unusedSimpArgs false
set_option linter.unusedVariables false
namespace Go.Proofs.Ytpnnmcicpjebmaa
open Go.RowKit
attribute [local go_sem] Oper.semAt_some

theorem FB.cells {w : World} {g d : Nat} {n st : Int} (h : FB w g d n st) : w.cell? ⟨g, 0, none⟩ = some (.int .i64 (1792 + n)) ∧ w.cell? ⟨g, 1, none⟩ = some (.bool false) ∧ w.cell? ⟨g, 2, none⟩ = some (.slice (some ⟨d, 0, none⟩) 1 1) := by
  obtain ⟨⟨cur, h1, h2, h3, h4⟩, _⟩ := h
  refine ⟨?_, ?_, ?_⟩
  · simpa [World.cell?, h1] using h2
  · simpa [World.cell?, h1] using h3
  · simpa [World.cell?, h1] using h4

set_option maxRecDepth 100000 in
set_option maxHeartbeats 2000000 in
theorem all_nil (w : World) : Calls Try.prog 39 #[.slice none 0 0, .slice none 0 0] w fun e w' => e = .returned (.bool true) ∧ w = w' := by
  go_enter Try.func39, Try.ntmps39
  go_wp2_with fail
  go_loopg [5] 0 (fun gg i wr => i = .int .i64 0 ∧ wr = w)
  case atStart => exact ⟨rfl, rfl⟩
  case round =>
    obtain ⟨rfl, hw⟩ := hrel
    subst hw
    go_wp2_with fail
    go_ret
    exact ⟨rfl, rfl⟩

set_option maxRecDepth 100000 in
set_option maxHeartbeats 4000000 in
theorem all_one (n st : Int) (u : UInt8) (hu : st = (u.toNat : Int)) (g1 d1 g2 d2 c1 c2 : Nat) (w : World) (h1 : FB w g1 d1 n st) (h2 : FB w g2 d2 n st) :
    Calls Try.prog 39 #[.slice (some ⟨g1, 0, none⟩) 1 c1, .slice (some ⟨g2, 0, none⟩) 1 c2] w fun e w' => e = .returned (.bool true) ∧ Below w.heap.size w w' := by
  subst hu
  obtain ⟨p0, p1, p2⟩ := h1.cells
  obtain ⟨q0, q1, q2⟩ := h2.cells
  have H1 := Lib.hid h1.2
  have H2 := Lib.hid h2.2
  clear h1 h2
  go_enter Try.func39, Try.ntmps39
  go_wp2_with fail
  go_loopg [5] 1 (fun gg i wr => ∃ k : Nat, k ≤ 1 ∧ gg = 1 - k ∧ i = .int .i64 k ∧ Below w.heap.size w wr)
  case atStart => exact ⟨0, by omega, by omega, rfl, Below.refl _ _⟩
  case round =>
    obtain ⟨k, hk, hg, rfl, hB⟩ := hrel
    have HB := Lib.hid hB
    have HG := Lib.hid hg
    by_cases hk1 : k = 0
    · subst hk1
      have r0 : wr.cell? ⟨g1, 0, none⟩ = some (.int .i64 (1792 + n)) := (hB.cell (World.block_lt_of_cell? w _ p0)).trans p0
      have r1 : wr.cell? ⟨g1, 1, none⟩ = some (.bool false) := (hB.cell (World.block_lt_of_cell? w _ p1)).trans p1
      have r2 : wr.cell? ⟨g1, 2, none⟩ = some (.slice (some ⟨d1, 0, none⟩) 1 1) := (hB.cell (World.block_lt_of_cell? w _ p2)).trans p2
      have s0 : wr.cell? ⟨g2, 0, none⟩ = some (.int .i64 (1792 + n)) := (hB.cell (World.block_lt_of_cell? w _ q0)).trans q0
      have s1 : wr.cell? ⟨g2, 1, none⟩ = some (.bool false) := (hB.cell (World.block_lt_of_cell? w _ q1)).trans q1
      have s2 : wr.cell? ⟨g2, 2, none⟩ = some (.slice (some ⟨d2, 0, none⟩) 1 1) := (hB.cell (World.block_lt_of_cell? w _ q2)).trans q2
      have hD1 : wr.heap[d1]? = some (.cells #[.int .u8 (u.toNat : Int)] 5 (0, 0)) := bkeep' hB H1.out
      have hD2 : wr.heap[d2]? = some (.cells #[.int .u8 (u.toNat : Int)] 5 (0, 0)) := bkeep' hB H2.out
      have SM := Lib.hid (same_one (1792 + n) false u d1 d2 wr.drew hD1 hD2)
      clear hB hD1 hD2 p0 p1 p2 q0 q1 q2 hg
      go_wp2_with fail
      go_region_held3 (fun w' => w'.cell? ⟨g1, 0, none⟩ = some (.int .i64 (1792 + n)) ∧ w'.cell? ⟨g1, 1, none⟩ = some (.bool false) ∧ w'.cell? ⟨g1, 2, none⟩ = some (.slice (some ⟨d1, 0, none⟩) 1 1) ∧ w'.cell? ⟨g2, 0, none⟩ = some (.int .i64 (1792 + n)) ∧ w'.cell? ⟨g2, 1, none⟩ = some (.bool false) ∧ w'.cell? ⟨g2, 2, none⟩ = some (.slice (some ⟨d2, 0, none⟩) 1 1))
        (first | go_keep | (go_split_ands; exact ⟨(hb2.cell (World.block_lt_of_cell? wr _ r0)).trans r0, (hb2.cell (World.block_lt_of_cell? wr _ r1)).trans r1, (hb2.cell (World.block_lt_of_cell? wr _ r2)).trans r2, (hb2.cell (World.block_lt_of_cell? wr _ s0)).trans s0, (hb2.cell (World.block_lt_of_cell? wr _ s1)).trans s1, (hb2.cell (World.block_lt_of_cell? wr _ s2)).trans s2⟩))
        (first | (go_at_call 34; refine SM.out.mono ?_; rintro e w2 ⟨rfl, hb2⟩))
      have HB2 := Lib.hid (bstep (B := w.heap.size) (w := w) hb2 HB.out.drew (Nat.le_refl _))
      clear hb2
      go_wp2_with fail
      go_roundg (1 - (0 + 1))
      case measure => have := HG.out; omega
      case rel => exact ⟨0 + 1, by omega, rfl, by go_num, HB2.out⟩
    · obtain rfl : k = 1 := by omega
      go_wp2_with fail
      go_ret
      exact ⟨rfl, HB.out⟩
end Go.Proofs.Ytpnnmcicpjebmaa
