/-
  CONTRACTS of the references' Bit, New, Register, find; the references' Emcy in memory.
-/
import Derived.Test.YtlhbgikgaoeciaaRegE
import Derived.BigQuiet
import Derived.Deep.QuietTactic
set_option linter.unusedSimpArgs false
set_option linter.unusedVariables false
namespace Go.Proofs.Ytlhbgikgaoeciaa
open Go.RowKit
attribute [local go_sem] Oper.semAt_some

set_option maxRecDepth 100000 in
set_option maxHeartbeats 1000000 in
theorem rbit_any (c : Int) (w : World) : Calls Try.prog 22 #[.int .i64 c] w fun e w' => e = .returned (.int .i64 (bitC c)) ∧ w = w' := by
  by_cases h : 1 ≤ c ∧ c ≤ 65535
  · obtain ⟨h1, h2⟩ := h
    have d1 : decide (c < 1) = false := decide_eq_false (by omega)
    have d2 : decide (65535 < c) = false := decide_eq_false (by omega)
    by_cases h3 : 65280 ≤ c
    · have e : bitC c = 129 := by unfold bitC; rw [if_pos ⟨h1, h2⟩, if_pos h3]
      rw [e]
      clear e
      go_enter Try.func22, Try.ntmps22
      go_wp2_with fail
      go_ret
      exact ⟨rfl, rfl⟩
    · have e := bitC_of h1 h2 h3
      by_cases q2 : c / 4096 = 2
      · rw [if_pos q2] at e
        rw [e]
        clear e
        go_enter Try.func22, Try.ntmps22
        go_wp2_with fail
        go_ret
        exact ⟨rfl, rfl⟩
      rw [if_neg q2] at e
      by_cases q3 : c / 4096 = 3
      · rw [if_pos q3] at e
        rw [e]
        clear e q2
        go_enter Try.func22, Try.ntmps22
        go_wp2_with fail
        go_ret
        exact ⟨rfl, rfl⟩
      rw [if_neg q3] at e
      by_cases q4 : c / 4096 = 4
      · rw [if_pos q4] at e
        rw [e]
        clear e q2 q3
        go_enter Try.func22, Try.ntmps22
        go_wp2_with fail
        go_ret
        exact ⟨rfl, rfl⟩
      rw [if_neg q4] at e
      by_cases q8 : c / 4096 = 8
      · rw [if_pos q8] at e
        rw [e]
        clear e q2 q3 q4
        go_enter Try.func22, Try.ntmps22
        go_wp2_with fail
        go_ret
        exact ⟨rfl, rfl⟩
      rw [if_neg q8] at e
      rw [e]
      have b2 : (c / 4096 == 2) = false := by rw [beq_eq_false_iff_ne]; exact q2
      have b3 : (c / 4096 == 3) = false := by rw [beq_eq_false_iff_ne]; exact q3
      have b4 : (c / 4096 == 4) = false := by rw [beq_eq_false_iff_ne]; exact q4
      have b8 : (c / 4096 == 8) = false := by rw [beq_eq_false_iff_ne]; exact q8
      clear e q2 q3 q4 q8
      go_enter Try.func22, Try.ntmps22
      go_wp2_with fail
      go_ret
      exact ⟨rfl, rfl⟩
  · have e : bitC c = 0 := by unfold bitC; rw [if_neg h]
    rw [e]
    by_cases h1 : c < 1
    · have d1 : decide (c < 1) = true := decide_eq_true h1
      clear e h
      go_enter Try.func22, Try.ntmps22
      go_wp2_with fail
      go_ret
      exact ⟨rfl, rfl⟩
    · have d1 : decide (c < 1) = false := decide_eq_false h1
      have h2 : 65535 < c := by omega
      have d2 : decide (65535 < c) = true := decide_eq_true h2
      clear e h
      go_enter Try.func22, Try.ntmps22
      go_wp2_with fail
      go_ret
      exact ⟨rfl, rfl⟩

def nv (l : List Int) : List Value := l.map (Value.int .i64)
theorem nv_get (l : List Int) (i : Nat) (x : Int) (h : l[i]? = some x) : (nv l)[i]? = some (.int .i64 x) := by unfold nv; rw [List.getElem?_map, h]; rfl
theorem nv_append (l m : List Int) : nv (l ++ m) = nv l ++ nv m := by simp [nv]

/-- An Emcy of the references in block R. -/
def REm (w : World) (R : Nat) (node : Int) (cv xv hv : Value) (fs : List (Int × Int)) (hs : List Int) : Prop :=
  w.heap[R]? = some (.cells #[.int .i64 node, cv, xv, hv] 41 (0, 0)) ∧ Lax w 3 1 cv fs.length (nv (fs.map (·.1))) ∧ Lax w 3 1 xv fs.length (nv (fs.map (·.2))) ∧ Lax w 45 1 hv hs.length (uv hs) ∧
    (∀ j, cv.ownBlock = some j → xv.ownBlock ≠ some j)

section
variable {w w' : World} {R : Nat} {node : Int} {cv xv hv : Value} {fs : List (Int × Int)} {hs : List Int}
theorem REm.upd {S : Nat → Prop} (h : REm w R node cv xv hv fs hs) (hu : Upd S w w') (h1 : ¬ S R) (h2 : ∀ j, cv.ownBlock = some j → ¬ S j) (h3 : ∀ j, xv.ownBlock = some j → ¬ S j) (h4 : ∀ j, hv.ownBlock = some j → ¬ S j) : REm w' R node cv xv hv fs hs :=
  ⟨hu.block_some h.1 h1, h.2.1.upd hu h2, h.2.2.1.upd hu h3, h.2.2.2.1.upd hu h4, h.2.2.2.2⟩
theorem REm.below (h : REm w R node cv xv hv fs hs) (hb : Below w.heap.size w w') : REm w' R node cv xv hv fs hs :=
  h.upd (Upd.ofBelow' (S := fun _ => False) hb) (fun x => x) (fun _ _ x => x) (fun _ _ x => x) (fun _ _ x => x)
theorem REm.drewN (h : REm w R node cv xv hv fs hs) (N : Nat) : REm (w.drewN N) R node cv xv hv fs hs :=
  h.upd ((Upd.refl (fun _ => False) w).drewN N) (fun h => h) (fun _ _ h => h) (fun _ _ h => h) (fun _ _ h => h)
end

theorem rnew_ok (n : Int) (w : World) (h : 1 ≤ n ∧ n ≤ 127) : Calls Try.prog 14 #[.int .i64 n] w fun e w' => e = .returned (.tuple #[.pointer (some ⟨w.heap.size, 0, none⟩), .int .i64 0]) ∧ w' = w.alloc (.cells #[.int .i64 n, .slice none 0 0, .slice none 0 0, .slice none 0 0] 41) := by
  obtain ⟨h1, h2⟩ := h
  have d1 : decide (n < 1) = false := decide_eq_false (by omega)
  have d2 : decide (127 < n) = false := decide_eq_false (by omega)
  go_enter Try.func14, Try.ntmps14
  go_wp2_with fail
  go_ret2
  exact ⟨rfl, rfl⟩
theorem rnew_no (n : Int) (w : World) (h : ¬ (1 ≤ n ∧ n ≤ 127)) : Calls Try.prog 14 #[.int .i64 n] w fun e w' => (∃ R, e = .returned (.tuple #[.pointer (some ⟨R, 0, none⟩), .int .i64 1])) ∧ Below w.heap.size w w' := by
  by_cases h1 : n < 1
  · have d1 : decide (n < 1) = true := decide_eq_true h1
    clear h h1
    go_enter Try.func14, Try.ntmps14
    go_wp2_with fail
    go_ret2
    exact ⟨⟨_, rfl⟩, (Below.refl _ w).alloc (Nat.le_refl _) _⟩
  · have d1 : decide (n < 1) = false := decide_eq_false h1
    have d2 : decide (127 < n) = true := decide_eq_true (by omega)
    clear h h1
    go_enter Try.func14, Try.ntmps14
    go_wp2_with fail
    go_ret2
    exact ⟨⟨_, rfl⟩, (Below.refl _ w).alloc (Nat.le_refl _) _⟩

set_option maxRecDepth 100000 in
set_option maxHeartbeats 2000000 in
theorem rreg_any (R : Nat) (node : Int) (cv xv hv : Value) (fs : List (Int × Int)) (hs : List Int) (w : World) (h : REm w R node cv xv hv fs hs) :
    Calls Try.prog 19 #[.pointer (some ⟨R, 0, none⟩)] w fun e w' => e = .returned (.int .i64 (regC fs)) ∧ w = w' := by
  obtain ⟨a, c, rfl, _, hac, hcm⟩ := h.2.1.shape
  have hml : maxLen ≤ 9223372036854775807 := by unfold maxLen; omega
  obtain ⟨c0, c1, c2, c3⟩ := cells4 h.1
  have HL := Lib.hid h.2.1
  clear h
  go_enter Try.func19, Try.ntmps19
  go_wp2_with fail
  go_loopg [3, 4] fs.length (fun gg v i wr => ∃ k : Nat, k ≤ fs.length ∧ gg = fs.length - k ∧ i = .int .i64 k ∧ v = .int .i64 (regC (fs.take k)) ∧ wr = w)
  case atStart => exact ⟨0, by omega, by omega, rfl, rfl, rfl⟩
  case round =>
    obtain ⟨k, hk, hgk, rfl, rfl, hw⟩ := hrel
    subst hw
    have HG := Lib.hid hgk
    clear hgk
    by_cases hkn : k < fs.length
    · have d1 : (k : Int) < (fs.length : Int) := by omega
      obtain ⟨g, rfl⟩ := HL.out.at0 (by omega)
      obtain ⟨p, hp⟩ : ∃ p, fs[k]? = some p := ⟨_, List.getElem?_eq_getElem hkn⟩
      have q1 := HL.out.cell (nv_get _ k p.1 (by rw [List.getElem?_map, hp]; rfl))
      have HR := Lib.hid (regC_take fs k p hp)
      obtain ⟨p1, p2⟩ := p
      simp only at q1 HR
      clear hp
      generalize regC (fs.take k) = r0 at *
      go_wp2_with fail
      refine (rbit_any p1 _).mono ?_
      rintro e w1 ⟨rfl, rfl⟩
      go_wp2_with fail
      go_roundg (fs.length - (k + 1))
      case measure => have := HG.out; omega
      case rel => exact ⟨k + 1, by omega, rfl, by go_num, by rw [HR.out], rfl⟩
    · obtain rfl : k = fs.length := by omega
      rw [List.take_length]
      go_wp2_with fail
      go_ret
      exact ⟨rfl, rfl⟩
end Go.Proofs.Ytlhbgikgaoeciaa
