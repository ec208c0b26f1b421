/-
  CONTRACTS of emcy's Bit, at, Register, Active and Wipe; the Emcy in memory.
-/
import Derived.Test.YtlhbgikgaoeciaaIds
import Derived.Test.YtlhbgikgaoeciaaLax
import Derived.Handy
import Derived.Deep.Light
import Derived.Deep.LoopGhost
set_option linter.unusedSimpArgs false
set_option linter.unusedVariables false
namespace Go.Proofs.Ytlhbgikgaoeciaa
open Go.RowKit
attribute [local go_sem] Oper.semAt_some

def bitC (c : Int) : Int := if 1 ≤ c ∧ c ≤ 65535 then (if 65280 ≤ c then 129 else if c / 4096 = 2 then 3 else if c / 4096 = 3 then 5 else if c / 4096 = 4 then 9 else if c / 4096 = 8 then 17 else 1) else 0

theorem bitC_of {c : Int} (h1 : 1 ≤ c) (h2 : c ≤ 65535) (h3 : ¬ 65280 ≤ c) : bitC c = if c / 4096 = 2 then 3 else if c / 4096 = 3 then 5 else if c / 4096 = 4 then 9 else if c / 4096 = 8 then 17 else 1 := by
  unfold bitC; rw [if_pos ⟨h1, h2⟩, if_neg h3]

set_option maxRecDepth 100000 in
set_option maxHeartbeats 1000000 in
theorem bit_any (c : Int) (w : World) : Calls Try.prog 21 #[.int .i64 c] w fun e w' => e = .returned (.int .i64 (bitC c)) ∧ w = w' := by
  by_cases h : 1 ≤ c ∧ c ≤ 65535
  · obtain ⟨h1, h2⟩ := h
    have d1 : decide (c < 1) = false := decide_eq_false (by omega)
    have d2 : decide (65535 < c) = false := decide_eq_false (by omega)
    by_cases h3 : 65280 ≤ c
    · have e : bitC c = 129 := by unfold bitC; rw [if_pos ⟨h1, h2⟩, if_pos h3]
      rw [e]
      clear e
      go_enter Try.func21, Try.ntmps21
      go_wp2_with fail
      go_ret
      exact ⟨rfl, rfl⟩
    · have e := bitC_of h1 h2 h3
      have eb1 : bits .or .i64 1 2 = 3 := by decide +kernel
      have eb2 : bits .or .i64 1 4 = 5 := by decide +kernel
      have eb3 : bits .or .i64 1 8 = 9 := by decide +kernel
      by_cases q2 : c / 4096 = 2
      · rw [if_pos q2] at e
        rw [e]
        clear e
        go_enter Try.func21, Try.ntmps21
        go_wp2_with fail
        go_ret
        exact ⟨rfl, rfl⟩
      rw [if_neg q2] at e
      by_cases q3 : c / 4096 = 3
      · rw [if_pos q3] at e
        rw [e]
        clear e q2
        go_enter Try.func21, Try.ntmps21
        go_wp2_with fail
        go_ret
        exact ⟨rfl, rfl⟩
      rw [if_neg q3] at e
      by_cases q4 : c / 4096 = 4
      · rw [if_pos q4] at e
        rw [e]
        clear e q2 q3
        go_enter Try.func21, Try.ntmps21
        go_wp2_with fail
        go_ret
        exact ⟨rfl, rfl⟩
      rw [if_neg q4] at e
      by_cases q8 : c / 4096 = 8
      · rw [if_pos q8] at e
        rw [e]
        clear e q2 q3 q4
        go_enter Try.func21, Try.ntmps21
        go_wp2_with fail
        go_ret
        exact ⟨rfl, rfl⟩
      rw [if_neg q8] at e
      rw [e]
      have b2 : (c / 4096 == 2) = false := by rw [beq_eq_false_iff_ne]; exact q2
      have b3 : (c / 4096 == 3) = false := by rw [beq_eq_false_iff_ne]; exact q3
      have b4 : (c / 4096 == 4) = false := by rw [beq_eq_false_iff_ne]; exact q4
      have b8 : (c / 4096 == 8) = false := by rw [beq_eq_false_iff_ne]; exact q8
      clear e q2 q3 q4 q8
      go_enter Try.func21, Try.ntmps21
      go_wp2_with fail
      go_ret
      exact ⟨rfl, rfl⟩
  · have e : bitC c = 0 := by unfold bitC; rw [if_neg h]
    rw [e]
    by_cases h1 : c < 1
    · have d1 : decide (c < 1) = true := decide_eq_true h1
      clear e h
      go_enter Try.func21, Try.ntmps21
      go_wp2_with fail
      go_ret
      exact ⟨rfl, rfl⟩
    · have d1 : decide (c < 1) = false := decide_eq_false h1
      have h2 : 65535 < c := by omega
      have d2 : decide (65535 < c) = true := decide_eq_true h2
      clear e h
      go_enter Try.func21, Try.ntmps21
      go_wp2_with fail
      go_ret
      exact ⟨rfl, rfl⟩

/-- Errors, how they lie in memory. -/
def fvals (l : List (Int × Int)) : List Value := l.flatMap fun x => [.int .i64 x.1, .int .i64 x.2]
theorem fvals_snoc (l : List (Int × Int)) (x : Int × Int) : fvals (l ++ [x]) = fvals l ++ [.int .i64 x.1, .int .i64 x.2] := by simp [fvals]
theorem fvals_append (l m : List (Int × Int)) : fvals (l ++ m) = fvals l ++ fvals m := by simp [fvals]
theorem fvals_len (l : List (Int × Int)) : (fvals l).length = l.length * 2 := by induction l with | nil => rfl | cons x l ih => simp [fvals] at ih ⊢; omega
theorem fvals_get (l : List (Int × Int)) (i : Nat) (x : Int × Int) (h : l[i]? = some x) : (fvals l)[i * 2]? = some (.int .i64 x.1) ∧ (fvals l)[i * 2 + 1]? = some (.int .i64 x.2) := by
  induction l generalizing i with
  | nil => simp at h
  | cons q l ih =>
    have e : fvals (q :: l) = [.int .i64 q.1, .int .i64 q.2] ++ fvals l := by simp [fvals]
    rw [e]
    cases i with
    | zero => simp at h; subst h; exact ⟨rfl, rfl⟩
    | succ i =>
      simp at h
      rw [show (i + 1) * 2 = i * 2 + 2 by omega, show i * 2 + 2 + 1 = i * 2 + 1 + 2 by omega, List.getElem?_append_right (by simp), List.getElem?_append_right (by simp)]
      simpa using ih i h
def uv (l : List Int) : List Value := l.map (Value.int .u32)

/-- An Emcy in block b. -/
def Emc (w : World) (b : Nat) (id : Int) (av hv : Value) (fs : List (Int × Int)) (hs : List Int) : Prop :=
  w.heap[b]? = some (.cells #[.int .i64 id, av, hv] 62 (0, 0)) ∧ Lax w 64 2 av fs.length (fvals fs) ∧ Lax w 45 1 hv hs.length (uv hs)

theorem Emc.lt {w : World} {b : Nat} {id : Int} {av hv : Value} {fs : List (Int × Int)} {hs : List Int} (h : Emc w b id av hv fs hs) : b < w.heap.size := lt_of_block h.1
theorem Emc.below {w w' : World} {b : Nat} {id : Int} {av hv : Value} {fs : List (Int × Int)} {hs : List Int} (h : Emc w b id av hv fs hs) (hb : Below w.heap.size w w') : Emc w' b id av hv fs hs :=
  ⟨bkeep' hb h.1, h.2.1.below hb, h.2.2.below hb⟩

theorem idx_found {fs : List (Int × Int)} {x : Int × Int} {k : Nat} (h : ∀ i, i < k → fs[i]? ≠ some x) (hk : fs[k]? = some x) : fs.idxOf x = k := by
  induction fs generalizing k with
  | nil => simp at hk
  | cons y fs ih =>
    cases k with
    | zero => simp at hk; subst hk; simp [List.idxOf_cons]
    | succ k =>
      have h0 := h 0 (by omega)
      simp at h0 hk
      have hb : (y == x) = false := by rw [beq_eq_false_iff_ne]; exact h0
      rw [List.idxOf_cons, hb, ih (fun i hi => by have := h (i + 1) (by omega); simpa using this) hk]
      rfl
theorem idx_none {fs : List (Int × Int)} {x : Int × Int} (h : ∀ i, i < fs.length → fs[i]? ≠ some x) : fs.idxOf x = fs.length := by
  induction fs with
  | nil => rfl
  | cons y fs ih =>
    have h0 := h 0 (by simp)
    simp at h0
    have hb : (y == x) = false := by rw [beq_eq_false_iff_ne]; exact h0
    rw [List.idxOf_cons, hb, ih (fun i hi => by have := h (i + 1) (by simpa using hi); simpa using this)]
    rfl

theorem guard64 : Try.prog.eqGuardType Try.prog.depth 64 = false := by kernel_rfl
theorem fields64 : (Try.prog.fieldsOf 64).toList = [{ name := "code", type := 3, offset := 0, embedded := false, tag := "", pkgPath := "wheelhouse/emcy", byteOffset := 0 }, { name := "info", type := 3, offset := 1, embedded := false, tag := "", pkgPath := "wheelhouse/emcy", byteOffset := 8 }] := by kernel_rfl
theorem part_int64 (xs : Array Value) (i : Nat) (x : Int) (w : World) (h : xs[i]? = some (.int .i64 x)) : (part 3 xs i).run Try.prog w = .ok (.int .i64 x) w := by
  simp [part, isAgg, run_underlying Try.underlying3, h]
theorem eq64 (a b a' b' : Int) (w : World) : (Op.equalIn 10000 64 (.agg #[.int .i64 a, .int .i64 b]) (.agg #[.int .i64 a', .int .i64 b'])).run Try.prog w = .ok ((a == a') && (b == b')) w := by
  rw [run_equalIn_struct w 9999 64 _ _ (by kernel_rfl) (by kernel_rfl), fields64]
  have he : ∀ (x y : Int) (w : World), (Op.equalIn 9999 3 (.int .i64 x) (.int .i64 y)).run Try.prog w = .ok (x == y) w := fun x y w => run_equalIn_int w 9998 3 .i64 .i64 x y Try.underlying3
  have p0 : ∀ w, (part 3 #[.int .i64 a, .int .i64 b] 0).run Try.prog w = .ok (.int .i64 a) w := fun w => part_int64 _ 0 a w rfl
  have p1 : ∀ w, (part 3 #[.int .i64 a, .int .i64 b] 1).run Try.prog w = .ok (.int .i64 b) w := fun w => part_int64 _ 1 b w rfl
  have q0 : ∀ w, (part 3 #[.int .i64 a', .int .i64 b'] 0).run Try.prog w = .ok (.int .i64 a') w := fun w => part_int64 _ 0 a' w rfl
  have q1 : ∀ w, (part 3 #[.int .i64 a', .int .i64 b'] 1).run Try.prog w = .ok (.int .i64 b') w := fun w => part_int64 _ 1 b' w rfl
  cases h1 : (a == a') <;> cases h2 : (b == b') <;> simp [Op.eqFields, p0, p1, q0, q1, he, h1, h2, Sem.run_bind, Sem.run_ite]

set_option maxRecDepth 100000 in
set_option maxHeartbeats 2000000 in
theorem at_any (b : Nat) (id : Int) (av hv : Value) (fs : List (Int × Int)) (hs : List Int) (x y : Int) (w : World) (h : Emc w b id av hv fs hs) :
    Calls Try.prog 25 #[.pointer (some ⟨b, 0, none⟩), .agg #[.int .i64 x, .int .i64 y]] w fun e w' => e = .returned (.int .i64 (fs.idxOf (x, y) : Nat)) ∧ Below w.heap.size w w' := by
  obtain ⟨aa, ac, rfl, _, hac, hcm⟩ := h.2.1.shape
  have hml : maxLen ≤ 9223372036854775807 := by unfold maxLen; omega
  obtain ⟨c0, c1, c2⟩ := cells3' h.1
  have hbl := h.lt
  have HE := Lib.hid h
  clear h
  go_enter Try.func25, Try.ntmps25
  go_wp2_with fail
  go_loopg [12] fs.length (fun gg i wr => ∃ k : Nat, k ≤ fs.length ∧ gg = fs.length - k ∧ i = .int .i64 k ∧ Below w.heap.size w wr ∧ wr.heap[w.heap.size]? = some (.cells #[.int .i64 x, .int .i64 y] 64 (0, 0)) ∧ ∀ i, i < k → fs[i]? ≠ some (x, y))
  case atStart => exact ⟨0, by omega, by omega, rfl, by go_grown, heap_alloc_new _ _, fun i hi => absurd hi (Nat.not_lt_zero _)⟩
  case round =>
    obtain ⟨k, hk, hgk, rfl, hB, hX, hny⟩ := hrel
    have HG := Lib.hid hgk
    have HB := Lib.hid hB
    have HX := Lib.hid hX
    have HN := Lib.hid hny
    have hws := hB.size
    have hWX := lt_of_block hX
    have hEr : Emc wr b id (.slice aa fs.length ac) hv fs hs := ⟨hB.block b hbl |>.trans HE.out.1, HE.out.2.1.below hB, HE.out.2.2.below hB⟩
    obtain ⟨x0, x1⟩ := cells2 hX
    obtain ⟨r0, r1, r2⟩ := cells3' hEr.1
    have HEr := Lib.hid hEr
    clear hgk hB hX hny hEr c0 c1 c2
    by_cases hkn : k < fs.length
    · have d1 : (k : Int) < (fs.length : Int) := by omega
      obtain ⟨g, rfl⟩ := HEr.out.2.1.at0 (by omega)
      obtain ⟨p, hp⟩ : ∃ p, fs[k]? = some p := ⟨_, List.getElem?_eq_getElem hkn⟩
      obtain ⟨f1, f2⟩ := fvals_get fs k p hp
      have q1 := HEr.out.2.1.cell f1
      have q2 := HEr.out.2.1.cell f2
      have hgl := (HEr.out.2.1.lt g rfl).1
      have HP := Lib.hid hp
      obtain ⟨p1, p2⟩ := p
      simp only at q1 q2
      clear hp f1 f2
      have he : (p1 = x ∧ p2 = y) ∨ ¬ (p1 = x ∧ p2 = y) := Classical.em _
      rcases he with ⟨rfl, rfl⟩ | he
      · have HF := Lib.hid (idx_found HN.out HP.out)
        go_wp2_with fail
        go_ret
        rw [HF.out]
        exact ⟨rfl, HB.out.alloc hws _⟩
      · by_cases c : x = p1
        · have hb1 : (x == p1) = true := by rw [beq_iff_eq]; exact c
          have hb2 : (y == p2) = false := by rw [beq_eq_false_iff_ne]; exact fun e => he ⟨c.symm, e.symm⟩
          clear c
          have HNE := Lib.hid he
          clear he
          go_wp2_with fail
          go_roundg (fs.length - (k + 1))
          case measure => have := HG.out; omega
          case rel =>
            refine ⟨k + 1, by omega, rfl, by go_num, HB.out.alloc hws _, akeep _ HX.out, fun i hi hi2 => ?_⟩
            by_cases e : i = k
            · subst e
              rw [HP.out] at hi2
              injection hi2 with hi2
              injection hi2 with h1 h2
              exact HNE.out ⟨h1, h2⟩
            · exact HN.out i (by omega) hi2
        · have hb1 : (x == p1) = false := by rw [beq_eq_false_iff_ne]; exact c
          clear c
          have HNE := Lib.hid he
          clear he
          go_wp2_with fail
          go_roundg (fs.length - (k + 1))
          case measure => have := HG.out; omega
          case rel =>
            refine ⟨k + 1, by omega, rfl, by go_num, HB.out.alloc hws _, akeep _ HX.out, fun i hi hi2 => ?_⟩
            by_cases e : i = k
            · subst e
              rw [HP.out] at hi2
              injection hi2 with hi2
              injection hi2 with h1 h2
              exact HNE.out ⟨h1, h2⟩
            · exact HN.out i (by omega) hi2
    · obtain rfl : k = fs.length := by omega
      have HF := Lib.hid (idx_none HN.out)
      go_wp2_with fail
      go_ret
      rw [HF.out]
      exact ⟨rfl, HB.out⟩
end Go.Proofs.Ytlhbgikgaoeciaa
