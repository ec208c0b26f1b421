/-
  CONTRACTS of New, Set, Every, Stop, Copy, and of all of them where the clock is nil.
-/
import Derived.Test.YtcicmpegajahkaaClk
import Derived.Deep.WholeRow
set_option linter.unusedSimpArgs false
set_option linter.unusedVariables false
namespace Go.Proofs.Ytcicmpegajahkaa
open Go.RowKit
attribute [local go_sem] Oper.semAt_some

def zeroF : Nat → Int := fun _ => 0

theorem clk_new (w : World) (L A : Nat → Int) : Clk (w.alloc (.cells #[.int .i64 (L 0), .int .i64 (A 0), .int .i64 (L 1), .int .i64 (A 1), .int .i64 (L 2), .int .i64 (A 2), .int .i64 (L 3), .int .i64 (A 3), .int .i64 (L 4), .int .i64 (A 4), .int .i64 (L 5), .int .i64 (A 5), .int .i64 (L 6), .int .i64 (A 6), .int .i64 (L 7), .int .i64 (A 7), .int .i64 (L 8), .int .i64 (A 8), .int .i64 (L 9), .int .i64 (A 9), .int .i64 (L 10), .int .i64 (A 10), .int .i64 (L 11), .int .i64 (A 11), .int .i64 (L 12), .int .i64 (A 12), .int .i64 (L 13), .int .i64 (A 13), .int .i64 (L 14), .int .i64 (A 14), .int .i64 (L 15), .int .i64 (A 15)] 49)) w.heap.size L A := by
  refine ⟨_, heap_alloc_new w _, rfl, fun i hi => ?_⟩
  have : i = 0 ∨ i = 1 ∨ i = 2 ∨ i = 3 ∨ i = 4 ∨ i = 5 ∨ i = 6 ∨ i = 7 ∨ i = 8 ∨ i = 9 ∨ i = 10 ∨ i = 11 ∨ i = 12 ∨ i = 13 ∨ i = 14 ∨ i = 15 := by omega
  rcases this with rfl | rfl | rfl | rfl | rfl | rfl | rfl | rfl | rfl | rfl | rfl | rfl | rfl | rfl | rfl | rfl <;> exact ⟨rfl, rfl⟩

theorem new_any (w : World) : Calls Try.prog 7 #[] w fun e w' => e = .returned (.pointer (some ⟨w.heap.size, 0, none⟩)) ∧ Clk w' w.heap.size zeroF zeroF ∧ Below w.heap.size w w' ∧ w.heap.size < w'.heap.size := by
  go_enter Try.func7, Try.ntmps7
  go_wp2
  go_ret
  exact ⟨rfl, clk_new w zeroF zeroF, (Below.refl _ w).alloc (Nat.le_refl _) _, by simp⟩

theorem Clk.setBoth {w : World} {b : Nat} {L A : Nat → Int} (h : Clk w b L A) (i : Nat) (hi : i < 16) (x y : Int) :
    Clk ((w.setCell ⟨b, i * 2, none⟩ (.int .i64 x)).setCell ⟨b, i * 2 + 1, none⟩ (.int .i64 y)) b (fun j => if j = i then x else L j) (fun j => if j = i then y else A j) := by
  obtain ⟨cs, hh, hs, hc⟩ := h
  refine ⟨(cs.setIfInBounds (i * 2) (.int .i64 x)).setIfInBounds (i * 2 + 1) (.int .i64 y), heap_setCell_same _ b (i * 2 + 1) _ 49 _ (heap_setCell_same w b (i * 2) cs 49 _ hh), by simpa using hs, fun j hj => ?_⟩
  obtain ⟨h1, h2⟩ := hc j hj
  constructor
  · rw [Array.getElem?_setIfInBounds_ne (by omega)]
    by_cases e : j = i
    · subst e; simp [Array.getElem?_setIfInBounds]; omega
    · rw [Array.getElem?_setIfInBounds_ne (by omega)]; simpa [e] using h1
  · by_cases e : j = i
    · subst e; simp [Array.getElem?_setIfInBounds]; omega
    · rw [Array.getElem?_setIfInBounds_ne (by omega), Array.getElem?_setIfInBounds_ne (by omega)]; simpa [e] using h2

/-- May a timer be started so? -/
def fits (name ticks : Int) : Prop := 0 ≤ name ∧ name < 16 ∧ 1 ≤ ticks ∧ ticks ≤ 1048576
def setF (L : Nat → Int) (name x : Int) : Nat → Int := fun j => if (j : Int) = name then x else L j

theorem start_ok (b : Nat) (name : Int) (ticks again : Int) (L A : Nat → Int) (w : World) (h : Clk w b L A) (hf : fits name ticks) :
    Calls Try.prog 23 #[.pointer (some ⟨b, 0, none⟩), .int .i64 name, .int .i64 ticks, .int .i64 again] w fun e w' => e = .returned (.int .i64 0) ∧ Clk w' b (setF L name ticks) (setF A name again) ∧ Upd (· = b) w w' := by
  obtain ⟨g0, g1, h1, h2⟩ := hf
  obtain ⟨n, rfl⟩ := Int.eq_ofNat_of_zero_le g0
  have hn : n < 16 := by omega
  have d0 := h.left n hn
  have d1 := h.again n hn
  have f0 := h.free (n * 2)
  have f1 := h.free (n * 2 + 1)
  have H := Lib.hid (h.setBoth n hn ticks again)
  clear h
  go_enter Try.func23, Try.ntmps23
  go_wp2
  go_ret
  refine ⟨rfl, ?_, ((Upd.refl (· = b) w).setCell (p := ⟨b, n * 2, none⟩) (fun _ => rfl) _).setCell (p := ⟨b, n * 2 + 1, none⟩) (fun _ => rfl) _⟩
  have e1 : setF L (n : Int) ticks = fun j => if j = n then ticks else L j := by funext j; unfold setF; by_cases e : j = n <;> simp [e] <;> omega
  have e2 : setF A (n : Int) again = fun j => if j = n then again else A j := by funext j; unfold setF; by_cases e : j = n <;> simp [e] <;> omega
  rw [e1, e2]
  exact H.out

theorem start_no (b : Nat) (name : Int) (ticks again : Int) (w : World) (hf : ¬ fits name ticks) :
    Calls Try.prog 23 #[.pointer (some ⟨b, 0, none⟩), .int .i64 name, .int .i64 ticks, .int .i64 again] w fun e w' => e = .returned (.int .i64 1) ∧ w = w' := by
  have hf' : name < 0 ∨ 16 ≤ name ∨ ticks < 1 ∨ 1048576 < ticks := by unfold fits at hf; omega
  clear hf
  by_cases g1 : name < 0
  · go_enter Try.func23, Try.ntmps23
    go_wp2
    all_goals (go_ret; exact ⟨rfl, rfl⟩)
  · by_cases g2 : 16 ≤ name
    · clear hf'
      go_enter Try.func23, Try.ntmps23
      go_wp2
      all_goals (go_ret; exact ⟨rfl, rfl⟩)
    · by_cases g3 : ticks < 1
      · clear hf'
        go_enter Try.func23, Try.ntmps23
        go_wp2
        all_goals (go_ret; exact ⟨rfl, rfl⟩)
      · have g4 : 1048576 < ticks := by omega
        clear hf'
        go_enter Try.func23, Try.ntmps23
        go_wp2
        all_goals (go_ret; exact ⟨rfl, rfl⟩)

theorem start_nil (name : Int) (ticks again : Int) (w : World) :
    Calls Try.prog 23 #[.pointer none, .int .i64 name, .int .i64 ticks, .int .i64 again] w fun e w' => e = .returned (.int .i64 17) ∧ w = w' := by
  go_enter Try.func23, Try.ntmps23
  go_wp2
  all_goals (go_ret; exact ⟨rfl, rfl⟩)

theorem stop_ok (b : Nat) (name : Int) (L A : Nat → Int) (w : World) (h : Clk w b L A) (g0 : 0 ≤ name) (g1 : name < 16) :
    Calls Try.prog 10 #[.pointer (some ⟨b, 0, none⟩), .int .i64 name] w fun e w' => e = .returned (.tuple #[]) ∧ Clk w' b (setF L name 0) (setF A name 0) ∧ Upd (· = b) w w' := by
  obtain ⟨n, rfl⟩ := Int.eq_ofNat_of_zero_le g0
  have hn : n < 16 := by omega
  have d0 := h.left n hn
  have d1 := h.again n hn
  have f0 := h.free (n * 2)
  have f1 := h.free (n * 2 + 1)
  have H := Lib.hid (h.setBoth n hn 0 0)
  clear h
  go_enter Try.func10, Try.ntmps10
  go_wp2
  go_end0
  refine ⟨rfl, ?_, ((Upd.refl (· = b) w).setCell (p := ⟨b, n * 2, none⟩) (fun _ => rfl) _).setCell (p := ⟨b, n * 2 + 1, none⟩) (fun _ => rfl) _⟩
  have e1 : setF L (n : Int) 0 = fun j => if j = n then 0 else L j := by funext j; unfold setF; by_cases e : j = n <;> simp [e] <;> omega
  have e2 : setF A (n : Int) 0 = fun j => if j = n then 0 else A j := by funext j; unfold setF; by_cases e : j = n <;> simp [e] <;> omega
  rw [e1, e2]
  exact H.out

theorem stop_no (b : Nat) (name : Int) (w : World) (hf : ¬ (0 ≤ name ∧ name < 16)) :
    Calls Try.prog 10 #[.pointer (some ⟨b, 0, none⟩), .int .i64 name] w fun e w' => e = .returned (.tuple #[]) ∧ w = w' := by
  by_cases g1 : name < 0
  · clear hf
    go_enter Try.func10, Try.ntmps10
    go_wp2
    all_goals (go_end0; exact ⟨rfl, rfl⟩)
  · have g2 : 16 ≤ name := by omega
    clear hf
    go_enter Try.func10, Try.ntmps10
    go_wp2
    all_goals (go_end0; exact ⟨rfl, rfl⟩)

theorem stop_nil (name : Int) (w : World) :
    Calls Try.prog 10 #[.pointer none, .int .i64 name] w fun e w' => e = .returned (.tuple #[]) ∧ w = w' := by
  go_enter Try.func10, Try.ntmps10
  go_wp2
  all_goals (go_end0; exact ⟨rfl, rfl⟩)

theorem Clk.cells {w : World} {b : Nat} {L A : Nat → Int} (h : Clk w b L A) : ∃ cs : Array Value, w.heap[b]? = some (.cells cs 49 (0, 0)) ∧ (Try.prog.info? 49).map (·.size) = some cs.size ∧ cs.size = 32 ∧ cs.all (·.oneCell') = true ∧
    (∀ i, i < 16 → cs[i * 2]? = some (.int .i64 (L i)) ∧ cs[i * 2 + 1]? = some (.int .i64 (A i))) := by
  obtain ⟨cs, hh, hs, hc⟩ := h
  refine ⟨cs, hh, by rw [hs]; kernel_rfl, hs, ?_, hc⟩
  rw [Array.all_eq_true]
  intro i hi
  obtain ⟨h1, h2⟩ := hc (i / 2) (by omega)
  by_cases e : i % 2 = 0
  · rw [show i / 2 * 2 = i from by omega, Array.getElem?_eq_getElem hi] at h1
    cases h1' : cs[i] <;> rw [h1'] at h1 <;> first | rfl | cases h1
  · rw [show i / 2 * 2 + 1 = i from by omega, Array.getElem?_eq_getElem hi] at h2
    cases h2' : cs[i] <;> rw [h2'] at h2 <;> first | rfl | cases h2

theorem wpList_store_new {P : Program} {ops : Array Oper} {rest : List Oper} {op : Oper} {a : Act} {w : World} {Q : Exit → Act → World → Prop} (hgd : op.guard = none) (ty : TypeId) (x y : Operand) (ho : op.op = .store ty x y)
    (c c' : Array Value) (hx : a.eval x = .pointer (some ⟨w.heap.size, 0, none⟩)) (hy : a.eval y = .agg c') (hi : (P.info? ty).map (·.size) = some c'.size) (hs : c.size = c'.size) (h1 : c'.all (·.oneCell') = true)
    (h : wpList P ops Q rest (a.put op.dst undef) (w.alloc (.cells c' ty))) : wpList P ops Q (op :: rest) a (w.alloc (.cells c ty)) :=
  wpList_plain hgd fun _ hK => by
    unfold Oper.wp execOp
    simp only [ho, hx, hy, Instr.storeAt, Instr.sureAddr, Sem.run_bind, Sem.run_pure, Result.andThen_ok, run_storeVar_new w ty c c' hi hs h1]
    exact hK _ _ h

set_option maxHeartbeats 1000000 in
theorem copy_ok (b : Nat) (L A : Nat → Int) (w : World) (h : Clk w b L A) :
    Calls Try.prog 19 #[.pointer (some ⟨b, 0, none⟩)] w fun e w' => e = .returned (.pointer (some ⟨w.heap.size, 0, none⟩)) ∧ Clk w' w.heap.size L A ∧ Below w.heap.size w w' ∧ w.heap.size < w'.heap.size := by
  obtain ⟨cs, hh, hi, hs, h1, hc⟩ := h.cells
  have HC := Lib.hid hc
  have HH := Lib.hid hh
  have HI := Lib.hid hi
  have HS := Lib.hid hs
  have H1 := Lib.hid h1
  clear h hc hh hi hs h1
  go_enter Try.func19, Try.ntmps19
  go_wp2_with (first | (refine wpList_load_row (o := ⟨some 8, .load 49 (.tmp 7), _, _, _, _⟩) rfl 49 (.tmp 7) rfl b rfl 49 cs (0, 0) _ HH.out Try.underlying49 rfl HI.out ?_) | (refine wpList_store_new (op := ⟨none, .store 49 (.tmp 3) (.tmp 8), _, _, _, _⟩) rfl 49 (.tmp 3) (.tmp 8) rfl _ cs rfl rfl HI.out HS.out.symm H1.out ?_))
  go_ret
  exact ⟨rfl, ⟨cs, heap_alloc_new w _, HS.out, HC.out⟩, (Below.refl _ w).alloc (Nat.le_refl _) _, by simp⟩

theorem copy_nil (w : World) :
    Calls Try.prog 19 #[.pointer none] w fun e w' => e = .returned (.pointer none) ∧ w = w' := by
  go_enter Try.func19, Try.ntmps19
  go_wp2_with fail
  go_ret
  exact ⟨rfl, rfl⟩
end Go.Proofs.Ytcicmpegajahkaa

