/-
  CONTRACTS at a nil clock; the comparison of two lists of numbers.
-/
import Derived.Test.YtcicmpegajahkaaLeft
import Derived.BigQuiet
import Derived.Deep.QuietTactic
set_option linter.unusedSimpArgs false
set_option linter.unusedVariables false
namespace Go.Proofs.Ytcicmpegajahkaa
open Go.RowKit
attribute [local go_sem] Oper.semAt_some

set_option maxHeartbeats 1000000 in
theorem iter_nil (B : Nat) (w : World) : SeqL Try.prog 26 #[.pointer (some ⟨B, 0, none⟩)] [] (fun _ W => W.cell? ⟨B, 0, none⟩ = some (.pointer none)) w := by
  intro l J Jx W _ hRd hY h0
  have hbx := hRd 0 W h0
  have H0 := Lib.hid h0
  clear hY hRd h0
  refine callsIn_of_wp Try.func26 rfl trivial ?_ rfl
  simp only [Try.ntmps26, List.size_toArray, List.length_cons, List.length_nil, Nat.reduceAdd, Nat.reduceSub, Array.replicate_succ, Array.replicate_zero, List.push_toArray, List.append_toArray, List.nil_append, List.cons_append]
  gi_wp2
  refine bodyPost_ret (results_none rfl _ _ _) rfl ?_
  exact ⟨⟨_, rfl⟩, .inl H0.out⟩

set_option maxHeartbeats 1000000 in
theorem left_nil (name : Int) (w : World) :
    Calls Try.prog 12 #[.pointer none, .int .i64 name] w fun e w' => e = .returned (.tuple #[.int .i64 0, .bool false]) ∧ Below w.heap.size w w' := by
  refine callsIn_wide (n := 0) |>.1 ?_
  refine callsIn_of_wp_marks Try.func12 rfl trivial ?_ rfl
  simp only [Try.ntmps12, List.size_toArray, List.length_cons, List.length_nil, Nat.reduceAdd, Nat.reduceSub, Array.replicate_succ, Array.replicate_zero, List.push_toArray, List.append_toArray, List.nil_append, List.cons_append]
  gi_wp2_with fail
  refine ⟨trivial, rfl, (callsIn_wide.2 (running_any _ _)).mono ?_⟩
  rintro e w' ⟨rfl, rfl⟩
  gi_wp2_with fail
  obtain ⟨h0, h1, h2, h3, hs, hb⟩ := new4 w (.cells #[.int .i64 name] 3) (.cells #[.int .i64 0] 3) (.cells #[.bool false] 4) (.cells #[.pointer none] 23)
  obtain ⟨W0, hW0⟩ : ∃ W0, ((((w.alloc (.cells #[.int .i64 name] 3)).alloc (.cells #[.int .i64 0] 3)).alloc (.cells #[.bool false] 4)).alloc (.cells #[.pointer none] 23)) = W0 := ⟨_, rfl⟩
  rw [hW0] at h0 h1 h2 h3 hs hb ⊢
  clear hW0
  refine wp_range (full := []) rfl (enters_of Try.func26 (by kernel_rfl) rfl) (iter_nil (w.heap.size + 3) W0) (Below.refl _ _) (fun k hk => absurd hk (Nat.not_lt_zero _))
    (fun k W => (W.heap[w.heap.size + 1]? = some (.cells #[.int .i64 0] 3 (0, 0)) ∧ W.heap[w.heap.size + 2]? = some (.cells #[.bool false] 4 (0, 0)) ∧ W.heap[w.heap.size + 3]? = some (.cells #[.pointer none] 23 (0, 0))) ∧ Upd (fun _ => False) w W)
    (fun c k W => False)
    (((own_blk _ _).and ((own_blk _ _).and (own_blk _ _))).and (own_upd (by omega)))
    (fun c => own_pure _)
    (fun k W hI => cell_of_one hI.1.2.2)
    ⟨⟨h1, h2, h3⟩, Upd.ofBelow' hb⟩
    (fun k => { tmps := #[], defers := [] }) (fun _ _ h => absurd h (Nat.not_lt_zero _)) (fun _ _ _ h => absurd h (Nat.not_lt_zero _)) ?done (fun _ _ _ _ _ _ h => h.elim)
  case done =>
    rintro D W hD ⟨⟨c1, c2, c3⟩, hu⟩ hK
    have d1 := cell_of_one c1
    have d2 := cell_of_one c2
    have f1 := free_of_one c1
    have f2 := free_of_one c2
    have HK := Lib.hid hK
    have HC := Lib.hid (And.intro c1 c2)
    clear c1 c2 c3 hK
    have hDn : w.heap.size + 2 < D := by omega
    gi_wp2
    obtain ⟨c1, c2⟩ := HC.out
    have e1 := cell_of_one (putObj_other (one_setCell_other (b := w.heap.size + 1) (one_setCell c1 (u := .int .i64 0)) (a := ⟨w.heap.size + 2, 0, none⟩) (by simp) (.bool false)) (D := D) (by omega) (.deferred none))
    have e2 := cell_of_one (putObj_other (one_setCell (one_setCell_other c2 (a := ⟨w.heap.size + 1, 0, none⟩) (by simp) (.int .i64 0)) (u := .bool false)) (D := D) (by omega) (.deferred none))
    have hK2 := ((KeepsOthers.setCell W ⟨w.heap.size + 1, 0, none⟩ (.int .i64 0)).trans (KeepsOthers.setCell _ ⟨w.heap.size + 2, 0, none⟩ (.bool false))).same D _ HK.out rfl
    refine ⟨by simp, .inl ⟨_, _, rfl, run_takeDeferred hK2, ?_⟩⟩
    refine ⟨.tuple #[.int .i64 0, .bool false], ?_, rfl, ?_⟩
    · simp [results, Try.results12, go_sem, e1, e2]
    · exact ((((hu.setCell (p := ⟨w.heap.size + 1, 0, none⟩) (fun hlt => by simp at hlt; omega) _).setCell (p := ⟨w.heap.size + 2, 0, none⟩) (fun hlt => by simp at hlt; omega) _).putObj (by omega) _).toBelow (Nat.le_refl _) (fun _ _ h => h))

set_option maxHeartbeats 1000000 in
theorem next_nil (w : World) :
    Calls Try.prog 14 #[.pointer none] w fun e w' => e = .returned (.tuple #[.int .i64 0, .bool false]) ∧ Below w.heap.size w w' := by
  refine callsIn_wide (n := 0) |>.1 ?_
  refine callsIn_of_wp_marks Try.func14 rfl trivial ?_ rfl
  simp only [Try.ntmps14, List.size_toArray, List.length_cons, List.length_nil, Nat.reduceAdd, Nat.reduceSub, Array.replicate_succ, Array.replicate_zero, List.push_toArray, List.append_toArray, List.nil_append, List.cons_append]
  gi_wp2_with fail
  refine ⟨trivial, rfl, (callsIn_wide.2 (running_any _ _)).mono ?_⟩
  rintro e w' ⟨rfl, rfl⟩
  gi_wp2_with fail
  obtain ⟨h0, h1, h2, hs, hb⟩ := new3 w (.cells #[.int .i64 0] 3) (.cells #[.bool false] 4) (.cells #[.pointer none] 23)
  obtain ⟨W0, hW0⟩ : ∃ W0, (((w.alloc (.cells #[.int .i64 0] 3)).alloc (.cells #[.bool false] 4)).alloc (.cells #[.pointer none] 23)) = W0 := ⟨_, rfl⟩
  rw [hW0] at h0 h1 h2 hs hb ⊢
  clear hW0
  refine wp_range (full := []) rfl (enters_of Try.func26 (by kernel_rfl) rfl) (iter_nil (w.heap.size + 2) W0) (Below.refl _ _) (fun k hk => absurd hk (Nat.not_lt_zero _))
    (fun k W => (W.heap[w.heap.size]? = some (.cells #[.int .i64 0] 3 (0, 0)) ∧ W.heap[w.heap.size + 1]? = some (.cells #[.bool false] 4 (0, 0)) ∧ W.heap[w.heap.size + 2]? = some (.cells #[.pointer none] 23 (0, 0))) ∧ Upd (fun _ => False) w W)
    (fun c k W => False)
    (((own_blk _ _).and ((own_blk _ _).and (own_blk _ _))).and (own_upd (by omega)))
    (fun c => own_pure _)
    (fun k W hI => cell_of_one hI.1.2.2)
    ⟨⟨h0, h1, h2⟩, Upd.ofBelow' hb⟩
    (fun k => { tmps := #[], defers := [] }) (fun _ _ h => absurd h (Nat.not_lt_zero _)) (fun _ _ _ h => absurd h (Nat.not_lt_zero _)) ?done (fun _ _ _ _ _ _ h => h.elim)
  case done =>
    rintro D W hD ⟨⟨c0, c1, c2⟩, hu⟩ hK
    have d0 := cell_of_one c0
    have d1 := cell_of_one c1
    have HK := Lib.hid hK
    have mo : Try.prog.follows .mixedOrders = true := by kernel_rfl
    clear c0 c1 c2 hK
    gi_wp2
    refine wpIn_region_noP ?_
    gi_region_with_o (fail)
    all_goals
      refine NoP.normal ?_
      gi_wp2
      refine ⟨by simp, .inl ⟨_, _, rfl, run_takeDeferred (show W.drew.heap[D]? = _ from HK.out), ?_⟩⟩
      refine ⟨_, results_tmp2 rfl _ _ _, rfl, ?_⟩
      exact (hu.drew.putObj (by omega) _).toBelow (Nat.le_refl _) (fun _ _ h => h)

set_option maxHeartbeats 1000000 in
theorem tick_nil (w : World) :
    Calls Try.prog 11 #[.pointer none] w fun e w' => e = .returned (.slice none 0 0) ∧ Below w.heap.size w w' := by
  refine callsIn_wide (n := 0) |>.1 ?_
  refine callsIn_of_wp_marks Try.func11 rfl trivial ?_ rfl
  simp only [Try.ntmps11, List.size_toArray, List.length_cons, List.length_nil, Nat.reduceAdd, Nat.reduceSub, Array.replicate_succ, Array.replicate_zero, List.push_toArray, List.append_toArray, List.nil_append, List.cons_append]
  gi_wp2_with fail
  refine ⟨trivial, rfl, (callsIn_wide.2 (running_any _ _)).mono ?_⟩
  rintro e w' ⟨rfl, rfl⟩
  gi_wp2_with fail
  obtain ⟨h0, h1, hs, hb⟩ := new2 w (.cells #[.slice none 0 0] 30) (.cells #[.pointer none] 23)
  obtain ⟨W0, hW0⟩ : ∃ W0, ((w.alloc (.cells #[.slice none 0 0] 30)).alloc (.cells #[.pointer none] 23)) = W0 := ⟨_, rfl⟩
  rw [hW0] at h0 h1 hs hb ⊢
  clear hW0
  refine wp_range (full := []) rfl (enters_of Try.func26 (by kernel_rfl) rfl) (iter_nil (w.heap.size + 1) W0) (Below.refl _ _) (fun k hk => absurd hk (Nat.not_lt_zero _))
    (fun k W => (W.heap[w.heap.size]? = some (.cells #[.slice none 0 0] 30 (0, 0)) ∧ W.heap[w.heap.size + 1]? = some (.cells #[.pointer none] 23 (0, 0))) ∧ Upd (fun _ => False) w W)
    (fun c k W => False)
    (((own_blk _ _).and (own_blk _ _)).and (own_upd (by omega)))
    (fun c => own_pure _)
    (fun k W hI => cell_of_one hI.1.2)
    ⟨⟨h0, h1⟩, Upd.ofBelow' hb⟩
    (fun k => { tmps := #[], defers := [] }) (fun _ _ h => absurd h (Nat.not_lt_zero _)) (fun _ _ _ h => absurd h (Nat.not_lt_zero _)) ?done (fun _ _ _ _ _ _ h => h.elim)
  case done =>
    rintro D W hD ⟨⟨c0, c1⟩, hu⟩ hK
    have d0 := cell_of_one c0
    have HK := Lib.hid hK
    clear c0 c1 hK
    gi_wp2
    refine ⟨by simp, .inl ⟨_, _, rfl, run_takeDeferred HK.out, ?_⟩⟩
    exact ⟨_, results_tmp (fn := Try.f11) (t := 2) rfl _ _ _, rfl, (hu.putObj (by omega) _).toBelow (Nat.le_refl _) (fun _ _ h => h)⟩

/-- What a slice of numbers reads as. -/
def Ints (w : World) (a : Option Addr) (l : List Int) : Prop :=
  l = [] ∨ ∃ b off, a = some ⟨b, off, none⟩ ∧ ∀ i (h : i < l.length), w.cell? ⟨b, off + i, none⟩ = some (.int .i64 l[i])

theorem Ints.below {w w' : World} {a : Option Addr} {l : List Int} (h : Ints w a l) (hu : Below w.heap.size w w') : Ints w' a l := by
  rcases h with h | ⟨b, off, rfl, hc⟩
  · exact .inl h
  · exact .inr ⟨b, off, rfl, fun i hi => (hu.cell (World.block_lt_of_cell? w _ (hc i hi))).trans (hc i hi)⟩

set_option maxHeartbeats 1000000 in
theorem ints_any (l m : List Int) (a b : Option Addr) (ca cb : Nat) (w : World) (hl : l.length ≤ maxLen) (hm : m.length ≤ maxLen) (ha : Ints w a l) (hb : Ints w b m) :
    Calls Try.prog 20 #[.slice a l.length ca, .slice b m.length cb] w fun e w' => e = .returned (.bool (decide (l = m))) ∧ Below w.heap.size w w' := by
  unfold maxLen at hl hm
  by_cases hlen : l.length = m.length
  · have ht : ((l.length : Int) != (m.length : Int)) = false := by rw [bne_eq_false_iff_eq]; omega
    have HL := Lib.hid hlen
    have HA := Lib.hid ha
    have HB := Lib.hid hb
    have hlm : (l.length : Int) ≤ (m.length : Int) := by omega
    clear hlen ha hb
    generalize hd : decide (l = m) = d
    have HD := Lib.hid hd
    clear hd
    go_enter Try.func20, Try.ntmps20
    go_wp2_with fail
    go_loopw [5] (fun i wr => ∃ k : Nat, k ≤ l.length ∧ i = .int .i64 k ∧ l.take k = m.take k ∧ Below w.heap.size w wr) (fun i _ => l.length - (intOf i).toNat)
    case atStart => exact ⟨0, Nat.zero_le _, rfl, by simp, Below.refl _ _⟩
    case round =>
      obtain ⟨k, hk, rfl, htk, hbr⟩ := hrel
      have HT := Lib.hid htk
      clear htk
      by_cases hlt : k < l.length
      · have hlt2 : k < m.length := by have := HL.out; omega
        rcases HA.out.below hbr with rfl | ⟨ab, ao, rfl, hca⟩
        · simp at hlt
        rcases HB.out.below hbr with rfl | ⟨bb, bo, rfl, hcb⟩
        · simp at hlt2
        have hca1 := hca k hlt
        have hcb1 := hcb k hlt2
        generalize hx : l[k] = x at *
        generalize hy : m[k] = y at *
        have Hx := Lib.hid hx
        have Hy := Lib.hid hy
        have hk1 : (k : Int) < (l.length : Int) := by omega
        have hk2 : (k : Int) < (m.length : Int) := by omega
        clear hx hy hca hcb
        by_cases hxy : x = y
        · have hq : (x != y) = false := by simp [hxy]
          have HQ := Lib.hid hxy
          clear hxy
          go_wp2_with fail
          go_quiet (fail)
          go_wp2_with fail
          go_roundw
          case rel =>
            refine ⟨k + 1, by omega, by go_num, ?_, ?_⟩
            · rw [List.take_succ_eq_append_getElem hlt, List.take_succ_eq_append_getElem hlt2, HT.out, Hx.out, Hy.out, HQ.out]
            · exact ⟨hbr.os, hbr.tape, hbr.output, hbr.size, hbr.block⟩
          case measure => simp [intOf]; omega
        · have hq : (x != y) = true := by simp [hxy]
          have hd : d = false := by
            rw [← HD.out, decide_eq_false_iff_not]
            rintro rfl
            have := Hx.out; have := Hy.out; simp_all
          subst hd
          clear hxy
          go_wp2_with fail
          go_quiet (fail)
          go_wp2_with fail
          go_ret
          exact ⟨rfl, ⟨hbr.os, hbr.tape, hbr.output, hbr.size, hbr.block⟩⟩
      · have hd : d = true := by
          rw [← HD.out, decide_eq_true_iff]
          have h1 := HT.out
          rw [List.take_of_length_le (by omega), List.take_of_length_le (by have := HL.out; omega)] at h1
          exact h1
        subst hd
        go_wp2_with fail
        go_ret
        exact ⟨rfl, hbr⟩
  · have ht : ((l.length : Int) != (m.length : Int)) = true := by rw [bne_iff_ne]; omega
    have hd : decide (l = m) = false := by rw [decide_eq_false_iff_not]; rintro rfl; exact hlen rfl
    rw [hd]
    clear hlen hd ha hb
    go_enter Try.func20, Try.ntmps20
    go_wp2_with fail
    go_ret
    exact ⟨rfl, Below.refl _ _⟩
end Go.Proofs.Ytcicmpegajahkaa
