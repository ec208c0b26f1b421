/-
  CONTRACT of the document's Of: sought among all names.
-/
import Derived.Test.YtagkbacgdkbbeaaGuess
import Derived.Test.YtagkbacgdkbbeaaRefId
import Derived.Test.YtagkbacgdkbbeaaAid
import Derived.Handy
set_option linter.unusedSimpArgs false
set_option linter.unusedVariables false
namespace Go.Proofs.Ytagkbacgdkbbeaa
open Go.RowKit
attribute [local go_sem] Oper.semAt_some

/-- No name ahead of (k, n, d) has this Id. -/
def Seen (id k n d : Int) : Prop := ∀ k' n' d', okN k' n' d' → idN k' n' d' = id → k < k' ∨ (k = k' ∧ (n < n' ∨ (n = n' ∧ d ≤ d')))
theorem okN_range {k n d : Int} (h : okN k n d) : 1 ≤ k ∧ k ≤ 9 ∧ 0 ≤ n ∧ n ≤ 4 ∧ 0 ≤ d ∧ d ≤ 127 := by unfold okN at h; omega
theorem seen_0 (id : Int) : Seen id 1 0 0 := fun k n d h _ => by have := okN_range h; omega
theorem seen_d {id k n d : Int} (h : Seen id k n d) (hn : ¬ (okN k n d ∧ idN k n d = id)) : Seen id k n (d + 1) := fun k' n' d' h' e => by
  have := h k' n' d' h' e
  by_cases c : k = k' ∧ n = n' ∧ d = d'
  · obtain ⟨rfl, rfl, rfl⟩ := c; exact absurd ⟨h', e⟩ hn
  · omega
theorem seen_n {id k n : Int} (h : Seen id k n 128) : Seen id k (n + 1) 0 := fun k' n' d' h' e => by
  have := h k' n' d' h' e; have := okN_range h'; omega
theorem seen_k {id k : Int} (h : Seen id k 5 0) : Seen id (k + 1) 0 0 := fun k' n' d' h' e => by
  have := h k' n' d' h' e; have := okN_range h'; omega
theorem seen_all {id : Int} (h : Seen id 10 0 0) : ¬ named id := fun hn => by
  have := h _ _ _ hn.2.1 hn.2.2; have := okN_range hn.2.1; omega

/-- The world of the search: the result's cells, and nothing else turned. -/
def RofW (w wr : World) : Prop := wr.heap[w.heap.size]? = some (.cells #[.int .i64 0, .int .i64 0, .int .i64 0] 53 (0, 0)) ∧ Below w.heap.size w wr

set_option maxHeartbeats 2000000 in
theorem rof_any (id : Int) (w : World) : Calls Try.prog 26 #[.int .i64 id] w fun e w' => e = .returned (.tuple #[.agg #[.int .i64 (ofK id), .int .i64 (ofN id), .int .i64 (ofD id)], .bool (decide (named id))]) ∧ Below w.heap.size w w' := by
  generalize hK : ofK id = K
  generalize hN : ofN id = N
  generalize hD : ofD id = D
  generalize hB : decide (named id) = B
  have HK := Lib.hid (And.intro hK (And.intro hN (And.intro hD hB)))
  clear hK hN hD hB
  go_enter Try.func26, Try.ntmps26
  go_wp2_with fail
  go_loopw [4] (fun k wr => ∃ kk : Nat, 1 ≤ kk ∧ kk ≤ 10 ∧ k = .int .i64 kk ∧ Seen id kk 0 0 ∧ RofW w wr) (fun k _ => 10 - (intOf k).toNat)
  case atStart => exact ⟨1, by omega, by omega, rfl, seen_0 id, heap_alloc_new w _, (Below.refl _ w).alloc (Nat.le_refl _) _⟩
  case round =>
    obtain ⟨k, hk1, hk2, rfl, hS, hR⟩ := hrel
    have HS := Lib.hid hS
    have HR := Lib.hid hR
    clear hS hR
    by_cases hk : k < 10
    · have hk9 : (k : Int) ≤ 9 := by omega
      go_wp2_with fail
      obtain ⟨wo, rfl⟩ : ∃ wo : World, wo = wr := ⟨_, rfl⟩
      go_loopw [5] (fun n wr => ∃ nn : Nat, nn ≤ 5 ∧ n = .int .i64 nn ∧ Seen id k nn 0 ∧ RofW w wr) (fun n _ => 5 - (intOf n).toNat)
      case atStart => exact ⟨0, by omega, rfl, HS.out, HR.out⟩
      case round =>
        obtain ⟨n, hn2, rfl, hS, hR⟩ := hrel
        clear HS HR
        have HS := Lib.hid hS
        have HR := Lib.hid hR
        clear hS hR
        by_cases hn : n < 5
        · have hn4 : (n : Int) ≤ 4 := by omega
          go_wp2_with fail
          obtain ⟨wi, rfl⟩ : ∃ wi : World, wi = wr := ⟨_, rfl⟩
          go_loopw [6] (fun d wr => ∃ dd : Nat, dd ≤ 128 ∧ d = .int .i64 dd ∧ Seen id k n dd ∧ RofW w wr) (fun d _ => 128 - (intOf d).toNat)
          case atStart => exact ⟨0, by omega, rfl, HS.out, HR.out⟩
          case round =>
            obtain ⟨d, hd2, rfl, hS, hR⟩ := hrel
            clear HS HR
            have HS := Lib.hid hS
            have HR := Lib.hid hR
            clear hS hR
            by_cases hd : d < 128
            · have hd4 : (d : Int) ≤ 127 := by omega
              go_wp2_with fail
              refine (rid_any k n d _).mono ?_
              rintro e w1 ⟨rfl, hb1⟩
              have HZ1 := Lib.hid (bkeep' hb1 (akeep _ HR.out.1))
              have b0 := HR.out.2
              have k0 := b0.size
              have HB1 := Lib.hid (bstep (B := w.heap.size) (w := w) hb1 (by go_grown) (Nat.le_refl _))
              have HN1 := Lib.hid (bkeep' hb1 (heap_alloc_new wr _))
              have s1 := hb1.size
              clear hb1 b0
              obtain ⟨z0, z1, z2⟩ := cells3' HZ1.out
              have f0 := free_of HZ1.out 0
              have f1 := free_of HZ1.out 1
              have f2 := free_of HZ1.out 2
              obtain ⟨n0, n1, n2⟩ := cells3' HN1.out
              have k1 : w.heap.size < w1.heap.size := by simp at s1; omega
              have k2 : wr.heap.size < w1.heap.size := by simp at s1; omega
              by_cases c : okN k n d
              · rw [(idN_yes c).2]
                by_cases c2 : idN k n d = id
                · rw [c2]
                  have HH := Lib.hid (named_of c c2)
                  clear c c2
                  go_wp2_with fail
                  (try simp only [Exit.inBlock, Exit.then])
                  refine bodyPost_ret (results_row_tmp rfl _ _ w.heap.size _ _ (0, 0) _ rfl (hset (hset (hset HZ1.out _ _) _ _) _ _) Try.underlying53 rfl rfl) rfl ?_
                  obtain ⟨hK, hN, hD, hB⟩ := HK.out
                  obtain ⟨g0, g1, g2, g3⟩ := HH.out
                  refine ⟨?_, ((HB1.out.setCell (p := ⟨w.heap.size, 0, none⟩) (Nat.le_refl _) _).setCell (p := ⟨w.heap.size, 1, none⟩) (Nat.le_refl _) _).setCell (p := ⟨w.heap.size, 2, none⟩) (Nat.le_refl _) _⟩
                  rw [← hK, ← hN, ← hD, ← hB]
                  unfold ofK ofN ofD
                  rw [if_pos g0, if_pos g0, if_pos g0, decide_eq_true g0, g1, g2, g3]
                  rfl
                · have HS2 := Lib.hid (seen_d HS.out (fun h => c2 h.2))
                  clear c
                  generalize idN k n d = x at *
                  have hq : (x == id) = false := by simpa using c2
                  have HX := Lib.hid c2
                  clear c2
                  go_wp2_with fail
                  go_roundw
                  case rel => exact ⟨d + 1, by omega, by go_num, HS2.out, HZ1.out, HB1.out⟩
                  case measure => simp [intOf]; omega
              · rw [(idN_no c).2]
                have HS2 := Lib.hid (seen_d HS.out (fun h => c h.1))
                clear c
                generalize idN k n d = x at *
                go_wp2_with fail
                go_roundw
                case rel => exact ⟨d + 1, by omega, by go_num, HS2.out, HZ1.out, HB1.out⟩
                case measure => simp [intOf]; omega
            · obtain rfl : d = 128 := by omega
              go_wp2_with fail
              go_roundw
              case rel => exact ⟨n + 1, by omega, by go_num, seen_n HS.out, HR.out⟩
              case measure => simp [intOf]; omega
        · obtain rfl : n = 5 := by omega
          go_wp2_with fail
          go_roundw
          case rel => exact ⟨k + 1, by omega, by omega, by go_num, seen_k HS.out, HR.out⟩
          case measure => simp [intOf]; omega
    · obtain rfl : k = 10 := by omega
      obtain ⟨z0, z1, z2⟩ := cells3' HR.out.1
      have f0 := free_of HR.out.1 0
      have f1 := free_of HR.out.1 1
      have f2 := free_of HR.out.1 2
      go_wp2_with fail
      (try simp only [Exit.inBlock, Exit.then])
      refine bodyPost_ret (results_row_tmp rfl _ _ w.heap.size _ _ (0, 0) _ rfl (hset (hset (hset HR.out.1 _ _) _ _) _ _) Try.underlying53 rfl rfl) rfl ?_
      obtain ⟨hK, hN, hD, hB⟩ := HK.out
      have g0 := seen_all HS.out
      refine ⟨?_, ((HR.out.2.setCell (p := ⟨w.heap.size, 0, none⟩) (Nat.le_refl _) _).setCell (p := ⟨w.heap.size, 1, none⟩) (Nat.le_refl _) _).setCell (p := ⟨w.heap.size, 2, none⟩) (Nat.le_refl _) _⟩
      rw [← hK, ← hN, ← hD, ← hB]
      unfold ofK ofN ofD
      rw [if_neg g0, if_neg g0, if_neg g0, decide_eq_false g0]
      rfl
end Go.Proofs.Ytagkbacgdkbbeaa
