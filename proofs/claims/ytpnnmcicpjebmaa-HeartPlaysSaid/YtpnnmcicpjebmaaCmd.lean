/-
  CONTRACTS of nmt's Command and the document's.
-/
import Derived.Test.YtpnnmcicpjebmaaNmt
set_option linter.unusedSimpArgs false
set_option linter.unusedVariables false
namespace Go.Proofs.Ytpnnmcicpjebmaa
open Go.RowKit
attribute [local go_sem] Oper.semAt_some

def mineB (b : Nat) (node : Int) : Prop := b = 0 ∨ (1 ≤ node ∧ node ≤ 127 ∧ (b : Int) = node)
instance (b : Nat) (node : Int) : Decidable (mineB b node) := by unfold mineB; infer_instance

set_option maxRecDepth 100000 in
theorem mine_any (b : Nat) (hb : b < 256) (node : Int) (w : World) : Calls Try.prog 51 #[.int .u8 (b : Int), .int .i64 node] w fun e w' => e = .returned (.bool (decide (mineB b node))) ∧ w = w' := by
  have h0 : (0 : Int) ≤ (b : Int) := by omega
  have h1 : (b : Int) < 256 := by omega
  go_enter Try.func51, Try.ntmps51
  go_wp2
  all_goals
    go_ret
    refine ⟨ret_bool ?_, rfl⟩
    go_light
    unfold mineB
    simp_all
    try omega

def cmOk (id : Int) (rem : Bool) (l : List UInt8) (node : Int) : Prop := id = 0 ∧ rem = false ∧ l.length = 2 ∧ mineB (l.getD 1 0).toNat node ∧ tgB ((l.getD 0 0).toNat : Int)
instance (id : Int) (rem : Bool) (l : List UInt8) (node : Int) : Decidable (cmOk id rem l node) := by unfold cmOk; infer_instance
def cmN (id : Int) (rem : Bool) (l : List UInt8) (node : Int) : Int := if cmOk id rem l node then ((l.getD 0 0).toNat : Int) else 0

theorem two_of {w : World} {a : Option Addr} {x y : UInt8} (h : Bytes w a [x, y]) : ∃ b off, a = some ⟨b, off, none⟩ ∧ b < w.heap.size ∧ w.cell? ⟨b, off, none⟩ = some (.int .u8 (x.toNat : Int)) ∧ w.cell? ⟨b, off + 1, none⟩ = some (.int .u8 (y.toNat : Int)) := by
  rcases h with h | ⟨b, off, rfl, hc⟩
  · cases h
  · have h0 := hc 0 (by simp)
    have h1 := hc 1 (by simp)
    exact ⟨b, off, rfl, World.block_lt_of_cell? w _ h0, by simpa using h0, by simpa using h1⟩

theorem ret_ib' {k : IntKind} {a b : Int} {c d : Bool} (h : a = b) (h2 : c = d) : Ending.returned (.tuple #[.int k a, .bool c]) = .returned (.tuple #[.int k b, .bool d]) := by rw [h, h2]

set_option maxRecDepth 100000 in
set_option maxHeartbeats 1000000 in
theorem cmd_any (id : Int) (rem : Bool) (l : List UInt8) (a : Option Addr) (cap : Nat) (node : Int) (w : World) (hl : l.length ≤ 70368744177664) (hB : Bytes w a l) :
    Calls Try.prog 21 #[.agg #[.int .i64 id, .bool rem, .slice a l.length cap], .int .i64 node] w fun e w' => e = .returned (.tuple #[.int .i64 (cmN id rem l node), .bool (decide (cmOk id rem l node))]) ∧ Below w.heap.size w w' := by
  by_cases h : id = 0 ∧ rem = false ∧ l.length = 2
  · obtain ⟨rfl, rfl, h2⟩ := h
    obtain ⟨x, y, rfl⟩ : ∃ x y, l = [x, y] := by
      match l, h2 with
      | [x, y], _ => exact ⟨x, y, rfl⟩
    obtain ⟨b, off, rfl, hlt, hx, hy⟩ := two_of hB
    have hxl := x.toNat_lt
    have hyl := y.toNat_lt
    have e1 : cmOk 0 false [x, y] node ↔ mineB y.toNat node ∧ tgB (x.toNat : Int) := by unfold cmOk; simp
    have e2 : cmN 0 false [x, y] node = if mineB y.toNat node ∧ tgB (x.toNat : Int) then (x.toNat : Int) else 0 := by unfold cmN; simp only [e1]; rfl
    have HE := Lib.hid (And.intro e1 e2)
    clear hB e1 e2 h2
    generalize x.toNat = X at *
    generalize y.toNat = Y at *
    generalize hN : cmN 0 false [x, y] node = N at *
    generalize hO : decide (cmOk 0 false [x, y] node) = O at *
    have HO := Lib.hid hO
    clear hO hN
    go_enter Try.func21, Try.ntmps21
    go_wp2_with (first | (go_at_call 51; refine (mine_any _ (by omega) _ _).mono ?_; rintro e w' ⟨rfl, rfl⟩) | (go_at_call 52; refine (target_any _ _).mono ?_; rintro e w' ⟨rfl, rfl⟩))
    all_goals
      go_ret2
      obtain ⟨e1, e2⟩ := HE.out
      have hO := HO.out
      simp only [e1] at hO
      refine ⟨ret_ib' ?_ ?_, (Below.refl _ w).alloc (Nat.le_refl _) _⟩
      · rw [e2]; go_light; simp_all
      · rw [← hO]; go_light; simp_all
  · have HN := Lib.hid (show ¬ cmOk id rem l node from fun c => h ⟨c.1, c.2.1, c.2.2.1⟩)
    have HN2 := Lib.hid (show cmN id rem l node = 0 from if_neg HN.out)
    generalize cmN id rem l node = N at *
    generalize hO : decide (cmOk id rem l node) = O at *
    have HO := Lib.hid (show O = false by rw [← hO]; exact decide_eq_false HN.out)
    have h' : id ≠ 0 ∨ rem = true ∨ l.length ≠ 2 := by
      by_cases c1 : id = 0
      · by_cases c2 : rem = true
        · exact .inr (.inl c2)
        · exact .inr (.inr fun c3 => h ⟨c1, by simpa using c2, c3⟩)
      · exact .inl c1
    clear hO HN hB h
    generalize l.length = n at *
    rcases h' with h | rfl | h
    all_goals
      go_enter Try.func21, Try.ntmps21
      go_wp2_with fail
      all_goals
        first
        | (go_ret2
           exact ⟨ret_ib' HN2.out.symm HO.out.symm, (Below.refl _ w).alloc (Nat.le_refl _) _⟩)
        | (exfalso; go_light; simp_all; done)

set_option maxRecDepth 100000 in
set_option maxHeartbeats 1000000 in
theorem rcmd_any (id : Int) (rem : Bool) (l : List UInt8) (a : Option Addr) (cap : Nat) (node : Int) (w : World) (hl : l.length ≤ 70368744177664) (hB : Bytes w a l) :
    Calls Try.prog 22 #[.agg #[.int .i64 id, .bool rem, .slice a l.length cap], .int .i64 node] w fun e w' => e = .returned (.tuple #[.int .i64 (cmN id rem l node), .bool (decide (cmOk id rem l node))]) ∧ Below w.heap.size w w' := by
  by_cases h : id = 0 ∧ rem = false ∧ l.length = 2
  · obtain ⟨rfl, rfl, h2⟩ := h
    obtain ⟨x, y, rfl⟩ : ∃ x y, l = [x, y] := by
      match l, h2 with
      | [x, y], _ => exact ⟨x, y, rfl⟩
    obtain ⟨b, off, rfl, hlt, hx, hy⟩ := two_of hB
    have hxl := x.toNat_lt
    have hyl := y.toNat_lt
    have e1 : cmOk 0 false [x, y] node ↔ mineB y.toNat node ∧ tgB (x.toNat : Int) := by unfold cmOk; simp
    have e2 : cmN 0 false [x, y] node = if mineB y.toNat node ∧ tgB (x.toNat : Int) then (x.toNat : Int) else 0 := by unfold cmN; simp only [e1]; rfl
    have HE := Lib.hid (And.intro e1 e2)
    clear hB e1 e2 h2
    generalize x.toNat = X at *
    generalize y.toNat = Y at *
    generalize hN : cmN 0 false [x, y] node = N at *
    generalize hO : decide (cmOk 0 false [x, y] node) = O at *
    have HO := Lib.hid hO
    clear hO hN
    go_enter Try.func22, Try.ntmps22
    go_wp2_with fail
    all_goals
      go_ret2
      obtain ⟨e1, e2⟩ := HE.out
      have hO := HO.out
      simp only [e1] at hO
      refine ⟨ret_ib' ?_ ?_, (Below.refl _ w).alloc (Nat.le_refl _) _⟩
      · rw [e2]; unfold mineB tgB; go_light; simp_all <;> omega
      · rw [← hO]; unfold mineB tgB; go_light; simp_all <;> omega
  · have HN := Lib.hid (show ¬ cmOk id rem l node from fun c => h ⟨c.1, c.2.1, c.2.2.1⟩)
    have HN2 := Lib.hid (show cmN id rem l node = 0 from if_neg HN.out)
    generalize cmN id rem l node = N at *
    generalize hO : decide (cmOk id rem l node) = O at *
    have HO := Lib.hid (show O = false by rw [← hO]; exact decide_eq_false HN.out)
    have h' : id ≠ 0 ∨ rem = true ∨ l.length ≠ 2 := by
      by_cases c1 : id = 0
      · by_cases c2 : rem = true
        · exact .inr (.inl c2)
        · exact .inr (.inr fun c3 => h ⟨c1, by simpa using c2, c3⟩)
      · exact .inl c1
    clear hO HN hB h
    generalize l.length = n at *
    rcases h' with h | rfl | h
    all_goals
      go_enter Try.func22, Try.ntmps22
      go_wp2_with fail
      all_goals
        first
        | (go_ret2
           exact ⟨ret_ib' HN2.out.symm HO.out.symm, (Below.refl _ w).alloc (Nat.le_refl _) _⟩)
        | (exfalso; go_light; simp_all; done)
end Go.Proofs.Ytpnnmcicpjebmaa
