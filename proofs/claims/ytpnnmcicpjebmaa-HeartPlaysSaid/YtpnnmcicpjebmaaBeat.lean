/-
  CONTRACTS of nmt's Beat and the document's.
-/
import Derived.Test.YtpnnmcicpjebmaaNmt
import Derived.Test.YtpnnmcicpjebmaaGuess
set_option linter.unusedSimpArgs false
set_option linter.unusedVariables false
namespace Go.Proofs.Ytpnnmcicpjebmaa
open Go.RowKit
attribute [local go_sem] Oper.semAt_some

def beatOk (node s : Int) : Prop := 1 ≤ node ∧ node ≤ 127 ∧ knS s
instance (node s : Int) : Decidable (beatOk node s) := by unfold beatOk; infer_instance

theorem idN9 (node : Int) : (1 ≤ node ∧ node ≤ 127) → idN 9 0 node = 1792 + node ∧ idE 9 0 node = 0 := fun h => by
  have : okN 9 0 node := by unfold okN; omega
  obtain ⟨h1, h2⟩ := idN_yes this
  rw [h1, h2]
  simp [bN]
theorem idE9 (node : Int) : ¬ (1 ≤ node ∧ node ≤ 127) → idN 9 0 node = 0 ∧ idE 9 0 node = 1 := fun h => by
  have : ¬ okN 9 0 node := by unfold okN; omega
  exact idN_no this

def zFrame : Array Value := #[.int .i64 0, .bool false, .slice none 0 0]

set_option maxRecDepth 100000 in
set_option maxHeartbeats 1000000 in
theorem beat_yes (node s : Int) (w : World) (h : beatOk node s) : Calls Try.prog 30 #[.int .i64 node, .int .i64 s] w fun e w' => ∃ g, e = .returned (.tuple #[.agg #[.int .i64 (1792 + node), .bool false, .slice (some ⟨g, 0, none⟩) 1 1], .int .i64 0]) ∧
    w.heap.size ≤ g ∧ w'.heap[g]? = some (.cells #[.int .u8 s] 5 (0, 0)) ∧ Below w.heap.size w w' := by
  obtain ⟨h1, h2, h3⟩ := h
  have hs : 0 ≤ s := by unfold knS at h3; omega
  have hs2 : s < 256 := by unfold knS at h3; omega
  have HI := Lib.hid (idN9 node ⟨h1, h2⟩)
  have HK := Lib.hid (decide_eq_true h3)
  clear h3
  go_enter Try.func30, Try.ntmps30
  go_wp2_with fail
  refine (id_any 9 0 node _).mono ?_
  rintro e w1 ⟨rfl, hb1⟩
  rw [HI.out.1, HI.out.2]
  have HB1 := Lib.hid (bstep (B := w.heap.size) (w := w) hb1 (by go_grown) (Nat.le_refl _))
  have HZ1 := Lib.hid (bkeep' hb1 (heap_alloc_new w _))
  have s1 := hb1.size
  have k1 : w.heap.size < w1.heap.size := by simp at s1; omega
  clear hb1
  obtain ⟨z0, z1, z2⟩ := cells3' HZ1.out
  have f0 := free_of HZ1.out 0
  have f1 := free_of HZ1.out 1
  have f2 := free_of HZ1.out 2
  go_wp2_with fail
  refine (kn_any s _).mono ?_
  rintro e w2 ⟨rfl, rfl⟩
  rw [HK.out]
  go_wp2_with fail
  (try simp only [Exit.inBlock, Exit.then])
  refine bodyPost_ret (results_row_tmp rfl _ _ w.heap.size _ _ (0, 0) _ rfl (akeep _ (hset (hset (hset HZ1.out _ _) _ _) _ _)) Try.underlying32 rfl rfl) rfl ?_
  refine ⟨w1.heap.size, rfl, by omega, anew _ _ (by simp), ?_⟩
  have b1 := HB1.out
  exact (((HB1.out.setCell (p := ⟨w.heap.size, 0, none⟩) (Nat.le_refl _) _).setCell (p := ⟨w.heap.size, 1, none⟩) (Nat.le_refl _) _).setCell (p := ⟨w.heap.size, 2, none⟩) (Nat.le_refl _) _).alloc (by simp; omega) _

set_option maxRecDepth 100000 in
set_option maxHeartbeats 1000000 in
theorem beat_no (node s : Int) (w : World) (h : ¬ beatOk node s) : Calls Try.prog 30 #[.int .i64 node, .int .i64 s] w fun e w' => e = .returned (.tuple #[.agg #[.int .i64 0, .bool false, .slice none 0 0], .int .i64 1]) ∧ Below w.heap.size w w' := by
  by_cases c : 1 ≤ node ∧ node ≤ 127
  · have h3 : ¬ knS s := fun k => h ⟨c.1, c.2, k⟩
    have HI := Lib.hid (idN9 node c)
    have HK := Lib.hid (decide_eq_false h3)
    clear h3 h c
    go_enter Try.func30, Try.ntmps30
    go_wp2_with fail
    refine (id_any 9 0 node _).mono ?_
    rintro e w1 ⟨rfl, hb1⟩
    rw [HI.out.1, HI.out.2]
    have HB1 := Lib.hid (bstep (B := w.heap.size) (w := w) hb1 (by go_grown) (Nat.le_refl _))
    have HZ1 := Lib.hid (bkeep' hb1 (heap_alloc_new w _))
    clear hb1
    obtain ⟨z0, z1, z2⟩ := cells3' HZ1.out
    have f0 := free_of HZ1.out 0
    have f1 := free_of HZ1.out 1
    have f2 := free_of HZ1.out 2
    go_wp2_with fail
    refine (kn_any s _).mono ?_
    rintro e w2 ⟨rfl, rfl⟩
    rw [HK.out]
    go_wp2_with fail
    (try simp only [Exit.inBlock, Exit.then])
    refine bodyPost_ret (results_row_tmp rfl _ _ w.heap.size _ _ (0, 0) _ rfl (hset (hset (hset HZ1.out _ _) _ _) _ _) Try.underlying32 rfl rfl) rfl ?_
    exact ⟨rfl, ((HB1.out.setCell (p := ⟨w.heap.size, 0, none⟩) (Nat.le_refl _) _).setCell (p := ⟨w.heap.size, 1, none⟩) (Nat.le_refl _) _).setCell (p := ⟨w.heap.size, 2, none⟩) (Nat.le_refl _) _⟩
  · have HI := Lib.hid (idE9 node c)
    clear h c
    go_enter Try.func30, Try.ntmps30
    go_wp2_with fail
    refine (id_any 9 0 node _).mono ?_
    rintro e w1 ⟨rfl, hb1⟩
    rw [HI.out.1, HI.out.2]
    have HB1 := Lib.hid (bstep (B := w.heap.size) (w := w) hb1 (by go_grown) (Nat.le_refl _))
    have HZ1 := Lib.hid (bkeep' hb1 (heap_alloc_new w _))
    clear hb1
    obtain ⟨z0, z1, z2⟩ := cells3' HZ1.out
    have f0 := free_of HZ1.out 0
    have f1 := free_of HZ1.out 1
    have f2 := free_of HZ1.out 2
    go_wp2_with fail
    (try simp only [Exit.inBlock, Exit.then])
    refine bodyPost_ret (results_row_tmp rfl _ _ w.heap.size _ _ (0, 0) _ rfl (hset (hset (hset HZ1.out _ _) _ _) _ _) Try.underlying32 rfl rfl) rfl ?_
    exact ⟨rfl, ((HB1.out.setCell (p := ⟨w.heap.size, 0, none⟩) (Nat.le_refl _) _).setCell (p := ⟨w.heap.size, 1, none⟩) (Nat.le_refl _) _).setCell (p := ⟨w.heap.size, 2, none⟩) (Nat.le_refl _) _⟩

set_option maxRecDepth 100000 in
set_option maxHeartbeats 1000000 in
theorem rbeat_yes (node s : Int) (w : World) (h : beatOk node s) : Calls Try.prog 31 #[.int .i64 node, .int .i64 s] w fun e w' => ∃ g, e = .returned (.tuple #[.agg #[.int .i64 (1792 + node), .bool false, .slice (some ⟨g, 0, none⟩) 1 1], .int .i64 0]) ∧
    w.heap.size ≤ g ∧ w'.heap[g]? = some (.cells #[.int .u8 s] 5 (0, 0)) ∧ Below w.heap.size w w' := by
  obtain ⟨h1, h2, h3⟩ := h
  have hs : 0 ≤ s := by unfold knS at h3; omega
  have hs2 : s < 256 := by unfold knS at h3; omega
  have HK := Lib.hid (decide_eq_true h3)
  have d1 : decide (node < 1) = false := by rw [decide_eq_false_iff_not]; omega
  have d2 : decide (127 < node) = false := by rw [decide_eq_false_iff_not]; omega
  clear h3
  go_enter Try.func31, Try.ntmps31
  go_wp2_with fail
  refine (rkn_any s _).mono ?_
  rintro e w2 ⟨rfl, rfl⟩
  rw [HK.out]
  go_wp2_with fail
  (try simp only [Exit.inBlock, Exit.then])
  refine bodyPost_ret (results_row_tmp rfl _ _ w.heap.size _ _ (0, 0) _ rfl (akeep _ (heap_alloc_new w _)) Try.underlying32 rfl rfl) rfl ?_
  exact ⟨w.heap.size + 1, rfl, by omega, anew _ _ (by simp), ((Below.refl _ w).alloc (Nat.le_refl _) _).alloc (by simp) _⟩

set_option maxRecDepth 100000 in
set_option maxHeartbeats 1000000 in
theorem rbeat_no (node s : Int) (w : World) (h : ¬ beatOk node s) : Calls Try.prog 31 #[.int .i64 node, .int .i64 s] w fun e w' => e = .returned (.tuple #[.agg #[.int .i64 0, .bool false, .slice none 0 0], .int .i64 1]) ∧ Below w.heap.size w w' := by
  by_cases c : 1 ≤ node ∧ node ≤ 127
  · have h3 : ¬ knS s := fun k => h ⟨c.1, c.2, k⟩
    have HK := Lib.hid (decide_eq_false h3)
    have d1 : decide (node < 1) = false := by rw [decide_eq_false_iff_not]; omega
    have d2 : decide (127 < node) = false := by rw [decide_eq_false_iff_not]; omega
    clear h3 h c
    go_enter Try.func31, Try.ntmps31
    go_wp2_with fail
    refine (rkn_any s _).mono ?_
    rintro e w2 ⟨rfl, rfl⟩
    rw [HK.out]
    go_wp2_with fail
    (try simp only [Exit.inBlock, Exit.then])
    refine bodyPost_ret (results_row_tmp rfl _ _ w.heap.size _ _ (0, 0) _ rfl (heap_alloc_new w _) Try.underlying32 rfl rfl) rfl ?_
    exact ⟨rfl, (Below.refl _ w).alloc (Nat.le_refl _) _⟩
  · clear h
    by_cases d : node < 1
    · have d1 : decide (node < 1) = true := by rw [decide_eq_true_iff]; omega
      clear c d
      go_enter Try.func31, Try.ntmps31
      go_wp2_with fail
      (try simp only [Exit.inBlock, Exit.then])
      refine bodyPost_ret (results_row_tmp rfl _ _ w.heap.size _ _ (0, 0) _ rfl (heap_alloc_new w _) Try.underlying32 rfl rfl) rfl ?_
      exact ⟨rfl, (Below.refl _ w).alloc (Nat.le_refl _) _⟩
    · have d1 : decide (node < 1) = false := by rw [decide_eq_false_iff_not]; omega
      have d2 : decide (127 < node) = true := by rw [decide_eq_true_iff]; omega
      clear c d
      go_enter Try.func31, Try.ntmps31
      go_wp2_with fail
      (try simp only [Exit.inBlock, Exit.then])
      refine bodyPost_ret (results_row_tmp rfl _ _ w.heap.size _ _ (0, 0) _ rfl (heap_alloc_new w _) Try.underlying32 rfl rfl) rfl ?_
      exact ⟨rfl, (Below.refl _ w).alloc (Nat.le_refl _) _⟩
end Go.Proofs.Ytpnnmcicpjebmaa
