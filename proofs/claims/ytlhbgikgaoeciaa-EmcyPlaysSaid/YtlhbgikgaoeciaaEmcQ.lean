/-
  CONTRACTS of the references' find, frame, and of Raise where it refuses.
-/
import Derived.Test.YtlhbgikgaoeciaaEmcP
import Derived.Deep.RegionHeld3
set_option linter.unusedSimpArgs false
set_option linter.unusedVariables false
namespace Go.Proofs.Ytlhbgikgaoeciaa
open Go.RowKit
attribute [local go_sem] Oper.semAt_some

theorem belowU {S : Nat → Prop} {base : Nat} {w W W' : World} (h : Below base w W) (hu : Upd S W W') (hs : ∀ i, S i → base ≤ i) (hb : base ≤ w.heap.size) : Below base w W' :=
  ⟨hu.os.trans h.os, hu.tape.trans h.tape, hu.output.trans h.output, Nat.le_trans h.size hu.size, fun k hk => (hu.block k (by have := h.size; omega) (fun e => by have := hs k e; omega)).trans (h.block k hk)⟩

def findZ (fs : List (Int × Int)) (x : Int × Int) : Int := if x ∈ fs then (fs.idxOf x : Int) else -1

set_option maxRecDepth 100000 in
set_option maxHeartbeats 2000000 in
theorem rfind_any (R : Nat) (node : Int) (cv xv hv : Value) (fs : List (Int × Int)) (hs : List Int) (x y : Int) (w : World) (h : REm w R node cv xv hv fs hs) :
    Calls Try.prog 27 #[.pointer (some ⟨R, 0, none⟩), .int .i64 x, .int .i64 y] w fun e w' => e = .returned (.int .i64 (findZ fs (x, y))) ∧ w = w' := by
  obtain ⟨a, c, rfl, _, hac, hcm⟩ := h.2.1.shape
  obtain ⟨a2, c2', rfl, _, hac2, hcm2⟩ := h.2.2.1.shape
  have hml : maxLen ≤ 9223372036854775807 := by unfold maxLen; omega
  obtain ⟨c0, c1, c2, c3⟩ := cells4 h.1
  have HL := Lib.hid h.2.1
  have HL2 := Lib.hid h.2.2.1
  clear h
  go_enter Try.func27, Try.ntmps27
  go_wp2_with fail
  go_loopg [7] fs.length (fun gg i wr => ∃ k : Nat, k ≤ fs.length ∧ gg = fs.length - k ∧ i = .int .i64 k ∧ wr = w ∧ ∀ i, i < k → fs[i]? ≠ some (x, y))
  case atStart => exact ⟨0, by omega, by omega, rfl, rfl, fun i hi => absurd hi (Nat.not_lt_zero _)⟩
  case round =>
    obtain ⟨k, hk, hgk, rfl, hw, hny⟩ := hrel
    subst hw
    have HG := Lib.hid hgk
    have HN := Lib.hid hny
    clear hgk hny
    by_cases hkn : k < fs.length
    · have d1 : (k : Int) < (fs.length : Int) := by omega
      obtain ⟨g, rfl⟩ := HL.out.at0 (by omega)
      obtain ⟨g2, rfl⟩ := HL2.out.at0 (by omega)
      obtain ⟨p, hp⟩ : ∃ p, fs[k]? = some p := ⟨_, List.getElem?_eq_getElem hkn⟩
      have q1 := HL.out.cell (nv_get _ k p.1 (by rw [List.getElem?_map, hp]; rfl))
      have q2 := HL2.out.cell (nv_get _ k p.2 (by rw [List.getElem?_map, hp]; rfl))
      have HP := Lib.hid hp
      obtain ⟨p1, p2⟩ := p
      simp only at q1 q2
      clear hp
      have step : Hid (¬ (p1 = x ∧ p2 = y) → ∀ i, i < k + 1 → fs[i]? ≠ some (x, y)) := by
        intro hne i hi hi2
        by_cases e : i = k
        · subst e
          rw [HP.out] at hi2
          injection hi2 with hi2
          injection hi2 with h1 h2
          exact hne ⟨h1, h2⟩
        · exact HN.out i (by omega) hi2
      by_cases e1 : p1 = x
      · by_cases e2 : p2 = y
        · subst e1 e2
          have HF : Hid (findZ fs (p1, p2) = (k : Int)) := by
            show _ = _
            unfold findZ
            rw [if_pos (List.mem_of_getElem? HP.out), idx_found HN.out HP.out]
          go_wp2_with fail
          go_ret
          rw [HF.out]
          exact ⟨rfl, rfl⟩
        · have b1 : (p1 == x) = true := beq_iff_eq.2 e1
          have b2 : (p2 == y) = false := beq_eq_false_iff_ne.2 e2
          have HNE := Lib.hid (step.out (fun h => e2 h.2))
          clear e1 e2 step
          go_wp2_with fail
          go_roundg (fs.length - (k + 1))
          case measure => have := HG.out; omega
          case rel => exact ⟨k + 1, by omega, rfl, by go_num, rfl, HNE.out⟩
      · have b1 : (p1 == x) = false := beq_eq_false_iff_ne.2 e1
        have HNE := Lib.hid (step.out (fun h => e1 h.1))
        clear e1 step
        go_wp2_with fail
        go_roundg (fs.length - (k + 1))
        case measure => have := HG.out; omega
        case rel => exact ⟨k + 1, by omega, rfl, by go_num, rfl, HNE.out⟩
    · obtain rfl : k = fs.length := by omega
      have HF : Hid (findZ fs (x, y) = -1) := by
        show _ = _
        unfold findZ
        rw [if_neg]
        intro hm
        obtain ⟨i, hi⟩ := List.getElem?_of_mem hm
        exact HN.out i (List.getElem?_eq_some_iff.1 hi).1 hi
      go_wp2_with fail
      go_ret
      rw [HF.out]
      exact ⟨rfl, rfl⟩

set_option maxRecDepth 100000 in
set_option maxHeartbeats 4000000 in
theorem rframe_any (R : Nat) (node : Int) (cv xv hv : Value) (fs : List (Int × Int)) (hs : List Int) (x : Nat) (i : Int) (w : World) (h : REm w R node cv xv hv fs hs) (hx : x < 65536) (hnode : 1 ≤ node ∧ node ≤ 127) :
    Calls Try.prog 28 #[.pointer (some ⟨R, 0, none⟩), .int .i64 (x : Int), .int .i64 i] w fun e w' => ∃ g, e = .returned (.slice (some ⟨g, 0, none⟩) 1 1) ∧ w.heap.size ≤ g ∧ EmF w' w.heap.size g (128 + node) x (regC fs) i ∧ Below w.heap.size w w' := by
  obtain ⟨c0, c1, c2, c3⟩ := cells4 h.1
  have HRD : Hid (∀ N, Calls Try.prog 19 #[.pointer (some ⟨R, 0, none⟩)] (w.drewN N) fun e w' => e = .returned (.int .i64 (regC fs)) ∧ w.drewN N = w') := fun N => rreg_any R node cv xv hv fs hs _ (h.drewN N)
  obtain ⟨r, hr, hrl⟩ := regC_nat fs
  rw [hr] at HRD
  rw [hr]
  obtain ⟨n1, n2⟩ := hnode
  have hrl2 : (r : Int) < 256 := by omega
  have hx2 : (x : Int) < 65536 := by omega
  clear h hr
  go_enter Try.func28, Try.ntmps28
  go_wp2_with fail
  go_region_held3 (fun w' => w'.cell? ⟨R, 0, none⟩ = some (.int .i64 node)) (first | go_keep) (first | (go_at_call 19; refine (HRD.out 1).mono ?_; rintro e w2 ⟨rfl, rfl⟩))
  go_wp2_with fail
  go_ret
  have e0 : IntKind.i64.wrap (128 + node) = 128 + node := IntWalk.i64_in _ (by omega)
  have e1 : IntKind.u8.wrap ((x : Int).tmod 256) = (x : Int) % 256 := by rw [IntKind.wrap_u8, Int.tmod_eq_emod_of_nonneg (by omega)]; omega
  have e2 : IntKind.u8.wrap (IntKind.i64.wrap ((x : Int) / 256)) = (x : Int) / 256 := by
    rw [IntWalk.i64_in ((x : Int) / 256) (by omega), IntKind.wrap_u8]; omega
  have e3 : IntKind.u8.wrap (r : Int) = (r : Int) % 256 := by rw [IntKind.wrap_u8]
  have e4 : IntKind.u8.wrap i = i % 256 := by rw [IntKind.wrap_u8]
  rw [e0, e1, e2, e3, e4]
  refine ⟨w.heap.size + 1, rfl, by omega, ⟨w.heap.size, 8, anew _ _ (by simp [World.drewN]), Nat.le_refl _, ?_⟩, belowU (Below.refl _ w) ((((Upd.refl (fun _ => False) w).drewN 1).alloc _).alloc _) (fun _ h => h.elim) (Nat.le_refl _)⟩
  exact ⟨rfl, .inr ⟨w.heap.size, 8, _, rfl, akeep _ (heap_alloc_new (w.drewN 1) _), by omega, by unfold maxLen; omega, by simp, rfl⟩⟩

set_option maxRecDepth 100000 in
set_option maxHeartbeats 4000000 in
theorem rraise_no (R : Nat) (node : Int) (cv xv hv : Value) (fs : List (Int × Int)) (hs : List Int) (c i : Int) (w : World) (h : REm w R node cv xv hv fs hs) (hk : ¬ rsOk fs c i) (hl : fs.length ≤ 1000) :
    Calls Try.prog 15 #[.pointer (some ⟨R, 0, none⟩), .int .i64 c, .int .i64 i] w fun e w' => e = .returned (.slice none 0 0) ∧ w = w' := by
  have HB := Lib.hid (rbit_any c w)
  have HF := Lib.hid (rfind_any R node cv xv hv fs hs c i w h)
  obtain ⟨a, ac, rfl, _, hac, hcm⟩ := h.2.1.shape
  obtain ⟨c0, c1, c2, c3⟩ := cells4 h.1
  clear h
  by_cases h1 : bitC c = 0
  · rw [h1] at HB
    clear h1 hk
    go_enter Try.func15, Try.ntmps15
    go_wp2_with fail
    refine HB.out.mono ?_
    rintro e w1 ⟨rfl, rfl⟩
    go_wp2_with fail
    go_ret
    exact ⟨rfl, rfl⟩
  · have b1 : (bitC c == 0) = false := beq_eq_false_iff_ne.2 h1
    by_cases h2 : i < 0
    · have b2 : decide (i < 0) = true := decide_eq_true h2
      clear h1 hk h2
      go_enter Try.func15, Try.ntmps15
      go_wp2_with fail
      refine HB.out.mono ?_
      rintro e w1 ⟨rfl, rfl⟩
      go_wp2_with fail
      go_ret
      exact ⟨rfl, rfl⟩
    · have b2 : decide (i < 0) = false := decide_eq_false h2
      by_cases h3 : 255 < i
      · have b3 : decide (255 < i) = true := decide_eq_true h3
        clear h1 hk h2 h3
        go_enter Try.func15, Try.ntmps15
        go_wp2_with fail
        refine HB.out.mono ?_
        rintro e w1 ⟨rfl, rfl⟩
        go_wp2_with fail
        go_ret
        exact ⟨rfl, rfl⟩
      · have b3 : decide (255 < i) = false := decide_eq_false h3
        by_cases h4 : (c, i) ∈ fs
        · have e : findZ fs (c, i) = (fs.idxOf (c, i) : Int) := by unfold findZ; rw [if_pos h4]
          rw [e] at HF
          have b4 : (0 : Int) ≤ (fs.idxOf (c, i) : Int) := by omega
          clear h1 hk h2 h3 h4 e
          generalize fs.idxOf (c, i) = q at *
          go_enter Try.func15, Try.ntmps15
          go_wp2_with fail
          refine HB.out.mono ?_
          rintro e w1 ⟨rfl, rfl⟩
          go_wp2_with fail
          refine HF.out.mono ?_
          rintro e w1 ⟨rfl, rfl⟩
          go_wp2_with fail
          go_ret
          exact ⟨rfl, rfl⟩
        · have e : findZ fs (c, i) = -1 := by unfold findZ; rw [if_neg h4]
          rw [e] at HF
          have h5 : fs.length = 64 := by
            apply Classical.byContradiction
            intro hne
            exact hk ⟨h1, ⟨by omega, by omega⟩, h4, hne⟩
          rw [h5] at c1
          clear h1 hk h2 h3 h4 e hac h5 hl
          go_enter Try.func15, Try.ntmps15
          go_wp2_with fail
          refine HB.out.mono ?_
          rintro e w1 ⟨rfl, rfl⟩
          go_wp2_with fail
          refine HF.out.mono ?_
          rintro e w1 ⟨rfl, rfl⟩
          go_wp2_with fail
          go_ret
          exact ⟨rfl, rfl⟩
end Go.Proofs.Ytlhbgikgaoeciaa
