/-
  CONTRACTS at a nil heart: the iterator, Tick and State.
-/
import Derived.Test.YtpnnmcicpjebmaaTickH
set_option linter.unusedSimpArgs false
set_option linter.unusedVariables false
namespace Go.Proofs.Ytpnnmcicpjebmaa
open Go.RowKit
attribute [local go_sem] Oper.semAt_some

set_option maxRecDepth 100000 in
set_option maxHeartbeats 1000000 in
theorem iter_nil (B : Nat) (w : World) : SeqL Try.prog 55 #[.pointer (some ⟨B, 0, none⟩)] [] (fun _ W => W.cell? ⟨B, 0, none⟩ = some (.pointer none)) w := by
  intro l J Jx W _ hRd hY h0
  have hbx := hRd 0 W h0
  have H0 := Lib.hid h0
  have HT := Lib.hid (there_nil W)
  clear hY hRd h0
  refine callsIn_of_wp Try.func55 rfl trivial ?_ rfl
  simp only [Try.ntmps55, List.size_toArray, List.length_cons, List.length_nil, Nat.reduceAdd, Nat.reduceSub, Array.replicate_succ, Array.replicate_zero, List.push_toArray, List.append_toArray, List.nil_append, List.cons_append]
  gi_wp2_with fail
  refine ⟨trivial, rfl, (callsIn_wide.2 HT.out).mono ?_⟩
  rintro e w' ⟨rfl, rfl⟩
  gi_wp2
  refine bodyPost_ret (results_none rfl _ _ _) rfl ?_
  exact ⟨⟨_, rfl⟩, .inl H0.out⟩

set_option maxRecDepth 100000 in
set_option maxHeartbeats 1000000 in
theorem state_nil (name : Int) (w : World) :
    Calls Try.prog 16 #[.pointer none, .int .i64 name] w fun e w' => e = .returned (.tuple #[.int .i64 0, .bool false]) ∧ Below w.heap.size w w' := by
  refine callsIn_wide (n := 0) |>.1 ?_
  refine callsIn_of_wp_marks Try.func16 rfl trivial ?_ rfl
  simp only [Try.ntmps16, List.size_toArray, List.length_cons, List.length_nil, Nat.reduceAdd, Nat.reduceSub, Array.replicate_succ, Array.replicate_zero, List.push_toArray, List.append_toArray, List.nil_append, List.cons_append]
  gi_wp2_with fail
  refine ⟨trivial, rfl, (callsIn_wide.2 (each_any _ _)).mono ?_⟩
  rintro e w' ⟨rfl, rfl⟩
  gi_wp2_with fail
  obtain ⟨h0, h1, h2, h3, hs, hb⟩ := new4 w (.cells #[.int .i64 name] 3) (.cells #[.int .i64 0] 3) (.cells #[.bool false] 4) (.cells #[.pointer none] 23)
  obtain ⟨W0, hW0⟩ : ∃ W0, ((((w.alloc (.cells #[.int .i64 name] 3)).alloc (.cells #[.int .i64 0] 3)).alloc (.cells #[.bool false] 4)).alloc (.cells #[.pointer none] 23)) = W0 := ⟨_, rfl⟩
  rw [hW0] at h0 h1 h2 h3 hs hb ⊢
  clear hW0
  refine wp_range (full := []) rfl (enters_of Try.func55 (by kernel_rfl) rfl) (iter_nil (w.heap.size + 3) W0) (Below.refl _ _) (fun k hk => absurd hk (Nat.not_lt_zero _))
    (fun k W => (W.heap[w.heap.size + 1]? = some (.cells #[.int .i64 0] 3 (0, 0)) ∧ W.heap[w.heap.size + 2]? = some (.cells #[.bool false] 4 (0, 0)) ∧ W.heap[w.heap.size + 3]? = some (.cells #[.pointer none] 23 (0, 0))) ∧ Upd (fun _ => False) w W)
    (fun c k W => False)
    (((own_blk _ _).and ((own_blk _ _).and (own_blk _ _))).and (own_upd (by omega)))
    (fun c => own_pure _)
    (fun k W hI => cell_of_one hI.1.2.2)
    ⟨⟨h1, h2, h3⟩, Upd.ofBelow' hb⟩
    (fun k => { tmps := #[], defers := [] }) (fun _ _ h => absurd h (Nat.not_lt_zero _)) (fun _ _ _ h => absurd h (Nat.not_lt_zero _)) ?done (fun _ _ _ _ _ _ h => h.elim)
  case done =>
    rintro D W hD ⟨⟨c1, c2, c3⟩, hu⟩ hK
    have d1 := cell_of_one c1
    have d2 := cell_of_one c2
    have f1 := free_of_one c1
    have f2 := free_of_one c2
    have HK := Lib.hid hK
    have HC := Lib.hid (And.intro c1 c2)
    clear c1 c2 c3 hK
    have hDn : w.heap.size + 2 < D := by omega
    gi_wp2
    obtain ⟨c1, c2⟩ := HC.out
    have e1 := cell_of_one (putObj_other (one_setCell_other (b := w.heap.size + 1) (one_setCell c1 (u := .int .i64 0)) (a := ⟨w.heap.size + 2, 0, none⟩) (by simp) (.bool false)) (D := D) (by omega) (.deferred none))
    have e2 := cell_of_one (putObj_other (one_setCell (one_setCell_other c2 (a := ⟨w.heap.size + 1, 0, none⟩) (by simp) (.int .i64 0)) (u := .bool false)) (D := D) (by omega) (.deferred none))
    have hK2 := ((KeepsOthers.setCell W ⟨w.heap.size + 1, 0, none⟩ (.int .i64 0)).trans (KeepsOthers.setCell _ ⟨w.heap.size + 2, 0, none⟩ (.bool false))).same D _ HK.out rfl
    refine ⟨by simp, .inl ⟨_, _, rfl, run_takeDeferred hK2, ?_⟩⟩
    refine ⟨.tuple #[.int .i64 0, .bool false], ?_, rfl, ?_⟩
    · simp [results, Try.results16, go_sem, e1, e2]
    · exact ((((hu.setCell (p := ⟨w.heap.size + 1, 0, none⟩) (fun hlt => by simp at hlt; omega) _).setCell (p := ⟨w.heap.size + 2, 0, none⟩) (fun hlt => by simp at hlt; omega) _).putObj (by omega) _).toBelow (Nat.le_refl _) (fun _ _ h => h))

set_option maxRecDepth 100000 in
set_option maxHeartbeats 1000000 in
theorem tick_nil (st : Int) (w : World) :
    Calls Try.prog 15 #[.pointer none, .int .i64 st] w fun e w' => e = .returned (.tuple #[.slice none 0 0, .slice none 0 0]) ∧ Below w.heap.size w w' := by
  have HB := Lib.hid (beatH_nil st w)
  refine callsIn_wide (n := 0) |>.1 ?_
  refine callsIn_of_wp_marks Try.func15 rfl trivial ?_ rfl
  simp only [Try.ntmps15, List.size_toArray, List.length_cons, List.length_nil, Nat.reduceAdd, Nat.reduceSub, Array.replicate_succ, Array.replicate_zero, List.push_toArray, List.append_toArray, List.nil_append, List.cons_append]
  gi_wp2_with fail
  refine ⟨trivial, rfl, (callsIn_wide.2 HB.out).mono ?_⟩
  rintro e w1 ⟨rfl, rfl⟩
  clear HB
  gi_wp2_with fail
  refine ⟨trivial, rfl, (callsIn_wide.2 (each_any _ _)).mono ?_⟩
  rintro e w' ⟨rfl, rfl⟩
  gi_wp2_with fail
  obtain ⟨h0, h1, h2, hs, hb⟩ := new3 w (.cells #[.slice none 0 0] 33) (.cells #[.func (.func 50) #[] #[.pointer (some ⟨w.heap.size, 0, none⟩)]] 87) (.cells #[.pointer none] 23)
  obtain ⟨W0, hW0⟩ : ∃ W0, (((w.alloc (.cells #[.slice none 0 0] 33)).alloc (.cells #[.func (.func 50) #[] #[.pointer (some ⟨w.heap.size, 0, none⟩)]] 87)).alloc (.cells #[.pointer none] 23)) = W0 := ⟨_, rfl⟩
  rw [hW0] at h0 h1 h2 hs hb ⊢
  clear hW0
  refine wp_range (full := []) rfl (enters_of Try.func55 (by kernel_rfl) rfl) (iter_nil (w.heap.size + 2) W0) (Below.refl _ _) (fun k hk => absurd hk (Nat.not_lt_zero _))
    (fun k W => (W.heap[w.heap.size]? = some (.cells #[.slice none 0 0] 33 (0, 0)) ∧ W.heap[w.heap.size + 2]? = some (.cells #[.pointer none] 23 (0, 0))) ∧ Upd (fun _ => False) w W)
    (fun c k W => False)
    (((own_blk _ _).and (own_blk _ _)).and (own_upd (by omega)))
    (fun c => own_pure _)
    (fun k W hI => cell_of_one hI.1.2)
    ⟨⟨h0, h2⟩, Upd.ofBelow' hb⟩
    (fun k => { tmps := #[], defers := [] }) (fun _ _ h => absurd h (Nat.not_lt_zero _)) (fun _ _ _ h => absurd h (Nat.not_lt_zero _)) ?done (fun _ _ _ _ _ _ h => h.elim)
  case done =>
    rintro D W hD ⟨⟨c0, c2⟩, hu⟩ hK
    have d0 := cell_of_one c0
    have HK := Lib.hid hK
    have mo : Try.prog.follows .mixedOrders = true := by kernel_rfl
    clear c0 c2 hK
    gi_wp2
    refine wpIn_region_noP ?_
    gi_region_with_o (fail)
    all_goals
      refine NoP.normal ?_
      gi_wp2
      refine ⟨by simp, .inl ⟨_, _, rfl, run_takeDeferred (show W.drew.heap[D]? = _ from HK.out), ?_⟩⟩
      refine ⟨_, results_tmp2 rfl _ _ _, rfl, ?_⟩
      exact (hu.drew.putObj (by omega) _).toBelow (Nat.le_refl _) (fun _ _ h => h)
end Go.Proofs.Ytpnnmcicpjebmaa
