/-
  CONTRACTS of the law's same, of All and of Spoil, as the heart's laws need them.
-/
import Derived.Test.YtpnnmcicpjebmaaRTickH
import Derived.Test.YtpnnmcicpjebmaaBeatsLaw
import Derived.BigQuiet
import Derived.Deep.QuietTactic
set_option linter.unusedSimpArgs false
set_option linter.unusedVariables false
namespace Go.Proofs.Ytpnnmcicpjebmaa
open Go.RowKit
attribute [local go_sem] Oper.semAt_some

/-- News in memory, either type. -/
def NewsAt (w : World) (a : Option Addr) (l : List (Int × Int)) : Prop :=
  l = [] ∨ ∃ g, a = some ⟨g, 0, none⟩ ∧ ∀ i x, l[i]? = some x → w.cell? ⟨g, i * 2, none⟩ = some (.int .i64 x.1) ∧ w.cell? ⟨g, i * 2 + 1, none⟩ = some (.int .i64 x.2)

theorem nvals_get (l : List (Int × Int)) (i : Nat) (x : Int × Int) (h : l[i]? = some x) : (nvals l)[i * 2]? = some (.int .i64 x.1) ∧ (nvals l)[i * 2 + 1]? = some (.int .i64 x.2) := by
  induction l generalizing i with
  | nil => simp at h
  | cons q l ih =>
    have e : nvals (q :: l) = [.int .i64 q.1, .int .i64 q.2] ++ nvals l := by simp [nvals]
    rw [e]
    cases i with
    | zero => simp at h; subst h; exact ⟨rfl, rfl⟩
    | succ i =>
      simp at h
      rw [show (i + 1) * 2 = i * 2 + 2 by omega, show i * 2 + 2 + 1 = i * 2 + 1 + 2 by omega, List.getElem?_append_right (by simp), List.getElem?_append_right (by simp)]
      simpa using ih i h

theorem newsAt_of {w : World} {base t : Nat} {v : Value} {l : List (Int × Int)} (h : w.ownsRow base t 2 v l.length (nvals l)) : ∃ a c, v = .slice a l.length c ∧ NewsAt w a l := by
  rcases h.2 with ⟨rfl, h0⟩ | ⟨g, cap, cur, rfl, hb, hh, h1, h2, h3, h4⟩
  · rw [h0]; exact ⟨none, 0, rfl, .inl (List.length_eq_zero_iff.1 h0)⟩
  · refine ⟨_, cap, rfl, .inr ⟨g, rfl, fun i x hx => ?_⟩⟩
    have hi := (List.getElem?_eq_some_iff.1 hx).1
    obtain ⟨e1, e2⟩ := nvals_get l i x hx
    rw [← h4, List.getElem?_take_of_lt (by omega)] at e1 e2
    constructor
    · simp [World.cell?, hh]; simpa using e1
    · simp [World.cell?, hh]; simpa using e2
theorem NewsAt.below {w w' : World} {a : Option Addr} {l : List (Int × Int)} (h : NewsAt w a l) (hb : Below w.heap.size w w') : NewsAt w' a l := by
  rcases h with h | ⟨g, rfl, hc⟩
  · exact .inl h
  · refine .inr ⟨g, rfl, fun i x hx => ?_⟩
    obtain ⟨c1, c2⟩ := hc i x hx
    exact ⟨(hb.cell (World.block_lt_of_cell? w _ c1)).trans c1, (hb.cell (World.block_lt_of_cell? w _ c2)).trans c2⟩

set_option maxRecDepth 100000 in
set_option maxHeartbeats 2000000 in
theorem hsame_any (l : List (Int × Int)) (a1 a2 : Option Addr) (c1 c2 : Nat) (w : World) (hl : (l.length : Int) ≤ 1000) (h1 : NewsAt w a1 l) (h2 : NewsAt w a2 l) :
    Calls Try.prog 40 #[.slice a1 l.length c1, .slice a2 l.length c2] w fun e w' => e = .returned (.bool true) ∧ Below w.heap.size w w' := by
  have H1 := Lib.hid h1
  have H2 := Lib.hid h2
  clear h1 h2
  go_enter Try.func40, Try.ntmps40
  go_wp2_with fail
  go_loopg [5] l.length (fun gg i wr => ∃ k : Nat, k ≤ l.length ∧ gg = l.length - k ∧ i = .int .i64 k ∧ ∃ nd, wr = w.drewN nd)
  case atStart => exact ⟨0, by omega, by omega, rfl, 0, rfl⟩
  case round =>
    obtain ⟨k, hk, hgk, rfl, nd, rfl⟩ := hrel
    have HG := Lib.hid hgk
    clear hgk
    by_cases hkl : k < l.length
    · have d1 : (k : Int) < (l.length : Int) := by omega
      obtain ⟨x, hx⟩ : ∃ x, l[k]? = some x := ⟨_, List.getElem?_eq_getElem hkl⟩
      obtain ⟨g1, rfl, q1⟩ : ∃ g, a1 = some ⟨g, 0, none⟩ ∧ ∀ i x, l[i]? = some x → w.cell? ⟨g, i * 2, none⟩ = some (.int .i64 x.1) ∧ w.cell? ⟨g, i * 2 + 1, none⟩ = some (.int .i64 x.2) := by
        rcases H1.out with h | h
        · rw [h] at hkl; simp at hkl
        · exact h
      obtain ⟨g2, rfl, q2⟩ : ∃ g, a2 = some ⟨g, 0, none⟩ ∧ ∀ i x, l[i]? = some x → w.cell? ⟨g, i * 2, none⟩ = some (.int .i64 x.1) ∧ w.cell? ⟨g, i * 2 + 1, none⟩ = some (.int .i64 x.2) := by
        rcases H2.out with h | h
        · rw [h] at hkl; simp at hkl
        · exact h
      obtain ⟨p1, p2⟩ := q1 k x hx
      obtain ⟨p3, p4⟩ := q2 k x hx
      obtain ⟨x1, x2⟩ := x
      simp only at p1 p2 p3 p4
      clear q1 q2 hx
      go_wp2_with fail
      go_quiet (fail)
      go_wp2_with fail
      go_roundg (l.length - (k + 1))
      case measure => have := HG.out; omega
      case rel => exact ⟨k + 1, by omega, rfl, by go_num, _, rfl⟩
    · obtain rfl : k = l.length := by omega
      go_wp2_with fail
      go_ret
      exact ⟨rfl, ⟨rfl, rfl, rfl, Nat.le_refl _, fun _ _ => rfl⟩⟩
end Go.Proofs.Ytpnnmcicpjebmaa
