/-
  CONTRACTS of canid's guess and Of, and of Restricted.
-/
import Derived.Test.YtpnnmcicpjebmaaIds
import Derived.Test.YtpnnmcicpjebmaaRow
set_option linter.unusedSimpArgs false
set_option linter.unusedVariables false
namespace Go.Proofs.Ytpnnmcicpjebmaa
open Go.RowKit
attribute [local go_sem] Oper.semAt_some

def gK (id : Int) : Int := if id / 128 = 0 then 1 else if id / 128 = 1 then (if id % 128 = 0 then 2 else 4) else if id / 128 = 2 then 3
  else if id / 128 = 3 ∨ id / 128 = 5 ∨ id / 128 = 7 ∨ id / 128 = 9 then 5 else if id / 128 = 4 ∨ id / 128 = 6 ∨ id / 128 = 8 ∨ id / 128 = 10 then 6
  else if id / 128 = 11 then 7 else if id / 128 = 12 then 8 else if id / 128 = 14 then 9 else 0
def gN (id : Int) : Int := if id / 128 = 3 ∨ id / 128 = 5 ∨ id / 128 = 7 ∨ id / 128 = 9 then (id / 128 - 1) / 2 else if id / 128 = 4 ∨ id / 128 = 6 ∨ id / 128 = 8 ∨ id / 128 = 10 then (id / 128 - 2) / 2 else 0
def gD (id : Int) : Int := if id / 128 = 13 ∨ id / 128 = 15 then 0 else id % 128

set_option maxRecDepth 100000 in
set_option maxHeartbeats 2000000 in
theorem guess_any (id : Int) (h0 : 0 ≤ id) (h1 : id ≤ 2047) (w : World) : Calls Try.prog 58 #[.int .i64 id] w fun e w' => e = .returned (.agg #[.int .i64 (gK id), .int .i64 (gN id), .int .i64 (gD id)]) ∧ Below w.heap.size w w' := by
  obtain ⟨d, hd⟩ : ∃ d, id % 128 = d := ⟨_, rfl⟩
  have hd0 : 0 ≤ d := by omega
  have hd1 : d ≤ 127 := by omega
  have hq : id / 128 = 0 ∨ (id / 128 = 1 ∧ d = 0) ∨ (id / 128 = 1 ∧ ¬ d = 0) ∨ id / 128 = 2 ∨ id / 128 = 3 ∨ id / 128 = 4 ∨ id / 128 = 5 ∨ id / 128 = 6 ∨ id / 128 = 7 ∨ id / 128 = 8 ∨ id / 128 = 9 ∨ id / 128 = 10 ∨ id / 128 = 11 ∨ id / 128 = 12 ∨ id / 128 = 13 ∨ id / 128 = 14 ∨ id / 128 = 15 := by omega
  rcases hq with hq | ⟨hq, rfl⟩ | ⟨hq, hne⟩ | hq | hq | hq | hq | hq | hq | hq | hq | hq | hq | hq | hq | hq | hq <;>
  · generalize hK : gK id = K
    generalize hN : gN id = N
    generalize hD : gD id = D
    have HK := Lib.hid (And.intro hK (And.intro hN hD))
    clear hK hN hD
    go_enter Try.func58, Try.ntmps58
    go_wp2_with fail
    (try simp only [Exit.inBlock, Exit.then])
    refine bodyPost_ret (results_cell_row rfl _ _ _ _ _ (0, 0) _ rfl (heap_alloc_new _ _) Try.underlying92 rfl rfl) rfl ?_
    obtain ⟨hK, hN, hD⟩ := HK.out
    exact ⟨by rw [← hK, ← hN, ← hD]; unfold gK gN gD; simp [hq, hd, *], (Below.refl _ w).alloc (Nat.le_refl _) _⟩

/-! plain: an Id has one name at most, and guess tells it -/
theorem name_only (k n d id : Int) (h : okN k n d) (e : idN k n d = id) : (0 ≤ id ∧ id ≤ 2047) ∧ gK id = k ∧ gN id = n ∧ gD id = d := by
  rw [(idN_yes h).1] at e
  rcases h with ⟨h1, h2, rfl, rfl⟩ | ⟨h1, h2, h3, h4, h5⟩ | ⟨h1, rfl, h4, h5⟩
  · have : k = 1 ∨ k = 2 ∨ k = 3 := by omega
    rcases this with rfl | rfl | rfl <;> (simp only [bN] at e; subst e; decide)
  · have hn : n = 1 ∨ n = 2 ∨ n = 3 ∨ n = 4 := by omega
    rcases h1 with rfl | rfl <;> rcases hn with rfl | rfl | rfl | rfl <;>
    · simp only [bN] at e
      have hd : id % 128 = d := by omega
      have hq : id / 128 = (id - d) / 128 := by omega
      rw [← e] at hq
      refine ⟨by omega, ?_⟩
      have hq' : id / 128 = 3 ∨ id / 128 = 4 ∨ id / 128 = 5 ∨ id / 128 = 6 ∨ id / 128 = 7 ∨ id / 128 = 8 ∨ id / 128 = 9 ∨ id / 128 = 10 := by omega
      rcases hq' with hq' | hq' | hq' | hq' | hq' | hq' | hq' | hq' <;> first
        | (exfalso; omega)
        | (unfold gK gN gD; simp [hq', hd])
  · rcases h1 with rfl | rfl | rfl | rfl <;>
    · simp only [bN] at e
      have hd : id % 128 = d := by omega
      have hd0 : ¬ d = 0 := by omega
      refine ⟨by omega, ?_⟩
      have hq' : id / 128 = 1 ∨ id / 128 = 11 ∨ id / 128 = 12 ∨ id / 128 = 14 := by omega
      rcases hq' with hq' | hq' | hq' | hq' <;> first
        | (exfalso; omega)
        | (unfold gK gN gD; simp [hq', hd, hd0])

/-- Has this Id a name? -/
def named (id : Int) : Prop := (0 ≤ id ∧ id ≤ 2047) ∧ okN (gK id) (gN id) (gD id) ∧ idN (gK id) (gN id) (gD id) = id
instance (id : Int) : Decidable (named id) := by unfold named; infer_instance
def ofK (id : Int) : Int := if named id then gK id else 0
def ofN (id : Int) : Int := if named id then gN id else 0
def ofD (id : Int) : Int := if named id then gD id else 0

theorem named_of {k n d id : Int} (h : okN k n d) (e : idN k n d = id) : named id ∧ gK id = k ∧ gN id = n ∧ gD id = d := by
  obtain ⟨h1, h2, h3, h4⟩ := name_only k n d id h e
  exact ⟨⟨h1, by rw [h2, h3, h4]; exact h, by rw [h2, h3, h4]; exact e⟩, h2, h3, h4⟩

set_option maxRecDepth 100000 in
set_option maxHeartbeats 1000000 in
theorem of_any (id : Int) (w : World) : Calls Try.prog 54 #[.int .i64 id] w fun e w' => e = .returned (.tuple #[.agg #[.int .i64 (ofK id), .int .i64 (ofN id), .int .i64 (ofD id)], .bool (decide (named id))]) ∧ Below w.heap.size w w' := by
  generalize hK : ofK id = K
  generalize hN : ofN id = N
  generalize hD : ofD id = D
  generalize hB : decide (named id) = B
  have HK := Lib.hid (And.intro hK (And.intro hN (And.intro hD hB)))
  clear hK hN hD hB
  by_cases r : 0 ≤ id ∧ id ≤ 2047
  · obtain ⟨r0, r1⟩ := r
    go_enter Try.func54, Try.ntmps54
    go_wp2_with fail
    refine (between_yes _ _ _ r0 r1 _).mono ?_
    rintro e w' ⟨rfl, rfl⟩
    go_wp2_with fail
    refine (guess_any id r0 r1 _).mono ?_
    rintro e w1 ⟨rfl, hb1⟩
    have hz1 : w1.heap[w.heap.size]? = some (.cells #[.int .i64 0, .int .i64 0, .int .i64 0] 92 (0, 0)) := (hb1.block _ (by simp)).trans (heap_alloc_new w _)
    have s1 := hb1.size
    simp only [World.size_alloc] at s1
    have HB1 := Lib.hid (((Below.refl _ w).alloc (Nat.le_refl _) (.cells #[.int .i64 0, .int .i64 0, .int .i64 0] 92)).trans (hb1.mono (by simp)))
    clear hb1
    go_wp2_with fail
    refine (id_any _ _ _ _).mono ?_
    rintro e w2 ⟨rfl, hb2⟩
    have s2 := hb2.size
    simp only [World.size_alloc] at s2
    have HZ2 := Lib.hid (show w2.heap[w.heap.size]? = some (.cells #[.int .i64 0, .int .i64 0, .int .i64 0] 92 (0, 0)) from (hb2.block _ (by simp; omega)).trans ((heap_alloc_old w1 _ (by omega)).trans hz1))
    have HN2 := Lib.hid (show w2.heap[w1.heap.size]? = some (.cells #[.int .i64 (gK id), .int .i64 (gN id), .int .i64 (gD id)] 92 (0, 0)) from (hb2.block _ (by simp)).trans (heap_alloc_new w1 _))
    have HB2 := Lib.hid ((HB1.out.alloc (by omega) (.cells #[.int .i64 (gK id), .int .i64 (gN id), .int .i64 (gD id)] 92)).trans (hb2.mono (by simp; omega)))
    have z0 : w2.cell? ⟨w.heap.size, 0, none⟩ = some (.int .i64 0) := by simp [World.cell?, HZ2.out]
    have z1 : w2.cell? ⟨w.heap.size, 1, none⟩ = some (.int .i64 0) := by simp [World.cell?, HZ2.out]
    have z2 : w2.cell? ⟨w.heap.size, 2, none⟩ = some (.int .i64 0) := by simp [World.cell?, HZ2.out]
    have f0 : w2.frozen? ⟨w.heap.size, 0, none⟩ = false := by simp [World.frozen?, HZ2.out]
    have f1 : w2.frozen? ⟨w.heap.size, 1, none⟩ = false := by simp [World.frozen?, HZ2.out]
    have f2 : w2.frozen? ⟨w.heap.size, 2, none⟩ = false := by simp [World.frozen?, HZ2.out]
    have n0 : w2.cell? ⟨w1.heap.size, 0, none⟩ = some (.int .i64 (gK id)) := by simp [World.cell?, HN2.out]
    have n1 : w2.cell? ⟨w1.heap.size, 1, none⟩ = some (.int .i64 (gN id)) := by simp [World.cell?, HN2.out]
    have n2 : w2.cell? ⟨w1.heap.size, 2, none⟩ = some (.int .i64 (gD id)) := by simp [World.cell?, HN2.out]
    clear hz1 HB1 hb2
    by_cases c : okN (gK id) (gN id) (gD id)
    · rw [(idN_yes c).2]
      by_cases c2 : idN (gK id) (gN id) (gD id) = id
      · rw [c2]
        have hq : (id != id) = false := by simp
        have HNN := Lib.hid (show named id from ⟨⟨r0, r1⟩, c, c2⟩)
        clear c c2
        go_wp2_with fail
        (try simp only [Exit.inBlock, Exit.then])
        refine bodyPost_ret (results_row_tmp rfl _ _ w.heap.size _ _ (0, 0) _ rfl (heap_setCell_same _ _ _ _ _ _ (heap_setCell_same _ _ _ _ _ _ (heap_setCell_same _ _ _ _ _ _ HZ2.out))) Try.underlying92 rfl rfl) rfl ?_
        obtain ⟨hK, hN, hD, hB⟩ := HK.out
        refine ⟨?_, ((HB2.out.setCell (p := ⟨w.heap.size, 0, none⟩) (Nat.le_refl _) _).setCell (p := ⟨w.heap.size, 1, none⟩) (Nat.le_refl _) _).setCell (p := ⟨w.heap.size, 2, none⟩) (Nat.le_refl _) _⟩
        rw [← hK, ← hN, ← hD, ← hB]
        unfold ofK ofN ofD
        rw [if_pos HNN.out, if_pos HNN.out, if_pos HNN.out, decide_eq_true HNN.out]
        rfl
      · have HNN := Lib.hid (show ¬ named id from fun h => c2 h.2.2)
        generalize idN (gK id) (gN id) (gD id) = x at *
        have hq : (x != id) = true := by rw [bne_iff_ne]; exact c2
        clear c c2
        go_wp2_with fail
        (try simp only [Exit.inBlock, Exit.then])
        refine bodyPost_ret (results_row_tmp rfl _ _ w.heap.size _ _ (0, 0) _ rfl (heap_setCell_same _ _ _ _ _ _ (heap_setCell_same _ _ _ _ _ _ (heap_setCell_same _ _ _ _ _ _ HZ2.out))) Try.underlying92 rfl rfl) rfl ?_
        obtain ⟨hK, hN, hD, hB⟩ := HK.out
        refine ⟨?_, ((HB2.out.setCell (p := ⟨w.heap.size, 0, none⟩) (Nat.le_refl _) _).setCell (p := ⟨w.heap.size, 1, none⟩) (Nat.le_refl _) _).setCell (p := ⟨w.heap.size, 2, none⟩) (Nat.le_refl _) _⟩
        rw [← hK, ← hN, ← hD, ← hB]
        unfold ofK ofN ofD
        rw [if_neg HNN.out, if_neg HNN.out, if_neg HNN.out, decide_eq_false HNN.out]
        rfl
    · have HNN := Lib.hid (show ¬ named id from fun h => c h.2.1)
      rw [(idN_no c).2, (idN_no c).1]
      clear c
      go_wp2_with fail
      (try simp only [Exit.inBlock, Exit.then])
      refine bodyPost_ret (results_row_tmp rfl _ _ w.heap.size _ _ (0, 0) _ rfl (heap_setCell_same _ _ _ _ _ _ (heap_setCell_same _ _ _ _ _ _ (heap_setCell_same _ _ _ _ _ _ HZ2.out))) Try.underlying92 rfl rfl) rfl ?_
      obtain ⟨hK, hN, hD, hB⟩ := HK.out
      refine ⟨?_, ((HB2.out.setCell (p := ⟨w.heap.size, 0, none⟩) (Nat.le_refl _) _).setCell (p := ⟨w.heap.size, 1, none⟩) (Nat.le_refl _) _).setCell (p := ⟨w.heap.size, 2, none⟩) (Nat.le_refl _) _⟩
      rw [← hK, ← hN, ← hD, ← hB]
      unfold ofK ofN ofD
      rw [if_neg HNN.out, if_neg HNN.out, if_neg HNN.out, decide_eq_false HNN.out]
      rfl
  · have HNN := Lib.hid (show ¬ named id from fun h => r h.1)
    have r' : id < 0 ∨ 2047 < id := by omega
    go_enter Try.func54, Try.ntmps54
    go_wp2_with fail
    refine (between_no _ _ _ r' _).mono ?_
    rintro e w' ⟨rfl, rfl⟩
    go_wp2_with fail
    (try simp only [Exit.inBlock, Exit.then])
    refine bodyPost_ret (results_row_tmp rfl _ _ w.heap.size _ _ (0, 0) _ rfl (heap_alloc_new _ _) Try.underlying92 rfl rfl) rfl ?_
    obtain ⟨hK, hN, hD, hB⟩ := HK.out
    refine ⟨?_, (Below.refl _ w).alloc (Nat.le_refl _) _⟩
    rw [← hK, ← hN, ← hD, ← hB]
    unfold ofK ofN ofD
    rw [if_neg HNN.out, if_neg HNN.out, if_neg HNN.out, decide_eq_false HNN.out]
    rfl
end Go.Proofs.Ytpnnmcicpjebmaa
