/-
  CONTRACT of Next.
-/
import Derived.Test.YtcicmpegajahkaaLeft
import Derived.BigQuiet
import Derived.Deep.QuietTactic
set_option linter.unusedSimpArgs false
set_option linter.unusedVariables false
namespace Go.Proofs.Ytcicmpegajahkaa
open Go.RowKit
attribute [local go_sem] Oper.semAt_some

/-- The least so far. -/
def least (acc : Option Int) (v : Int) : Option Int := match acc with
  | none => some v
  | some m => if v < m then some v else some m
def nextK (L : Nat → Int) (k : Nat) : Option Int := (((running L).take k).map L).foldl least none
def nextN (L : Nat → Int) : Int := (nextK L (running L).length).getD 0
def nextB (L : Nat → Int) : Bool := (nextK L (running L).length).isSome

def nextTmps (b : Nat) (B : Nat) (j : Nat) : Array Value :=
  #[.pointer (some ⟨b, 0, none⟩), undef, .int .i64 0, .bool false, .pointer (some ⟨B, 0, none⟩), .pointer (some ⟨B + 1, 0, none⟩), undef, .pointer (some ⟨b, j * 2, none⟩), .pointer (some ⟨b, 0, none⟩),
    .func (.func 26) #[] #[.pointer (some ⟨B + 1 + 1, 0, none⟩)], .int .i64 (j : Int), .pointer (some ⟨b, j * 2, none⟩), undef, undef, undef, undef, undef, undef, undef, undef, undef, undef, undef, undef, undef, undef, undef, undef]

set_option maxHeartbeats 1000000 in
theorem next_any (b : Nat) (L A : Nat → Int) (w : World) (h : Clk w b L A) :
    Calls Try.prog 14 #[.pointer (some ⟨b, 0, none⟩)] w fun e w' =>
      e = .returned (.tuple #[.int .i64 (nextN L), .bool (nextB L)]) ∧ Below w.heap.size w w' := by
  have hbl := h.lt
  refine callsIn_wide (n := 0) |>.1 ?_
  refine callsIn_of_wp_marks Try.func14 rfl trivial ?_ rfl
  simp only [Try.ntmps14, List.size_toArray, List.length_cons, List.length_nil, Nat.reduceAdd, Nat.reduceSub, Array.replicate_succ, Array.replicate_zero, List.push_toArray, List.append_toArray, List.nil_append, List.cons_append]
  gi_wp2_with fail
  refine ⟨trivial, rfl, (callsIn_wide.2 (running_any _ _)).mono ?_⟩
  rintro e w' ⟨rfl, rfl⟩
  gi_wp2_with fail
  obtain ⟨h0, h1, h2, hs, hb⟩ := new3 w (.cells #[.int .i64 0] 3) (.cells #[.bool false] 4) (.cells #[.pointer (some ⟨b, 0, none⟩)] 23)
  have hc : Clk (((w.alloc (.cells #[.int .i64 0] 3)).alloc (.cells #[.bool false] 4)).alloc (.cells #[.pointer (some ⟨b, 0, none⟩)] 23)) b L A := h.same (hb.block b hbl)
  obtain ⟨W0, hW0⟩ : ∃ W0, (((w.alloc (.cells #[.int .i64 0] 3)).alloc (.cells #[.bool false] 4)).alloc (.cells #[.pointer (some ⟨b, 0, none⟩)] 23)) = W0 := ⟨_, rfl⟩
  rw [hW0] at h0 h1 h2 hs hb hc ⊢
  clear hW0
  refine wp_range (full := (running L).map (item b)) (Rd := RdC (w.heap.size + 2) b L) rfl (enters_of Try.func26 (by kernel_rfl) rfl) (iter_any (w.heap.size + 2) b L W0) (Below.refl _ _) (fun k hk => by simp [item])
    (fun k W => (W.heap[w.heap.size]? = some (.cells #[.int .i64 ((nextK L k).getD 0)] 3 (0, 0)) ∧ W.heap[w.heap.size + 1]? = some (.cells #[.bool (nextK L k).isSome] 4 (0, 0)) ∧ W.heap[w.heap.size + 2]? = some (.cells #[.pointer (some ⟨b, 0, none⟩)] 23 (0, 0))) ∧ Clk W b L A ∧ Upd (fun _ => False) w W)
    (fun c k W => False)
    ((((own_blk (fun k => #[.int .i64 ((nextK L k).getD 0)]) _).and ((own_blk (fun k => #[.bool (nextK L k).isSome]) _).and (own_blk _ _))).and (Clk.own.and (own_upd (by omega)))))
    (fun c => own_pure _)
    (fun k W hI => ⟨cell_of_one hI.1.2.2, fun i hi _ => hI.2.1.left i hi⟩)
    ⟨⟨h0, h1, h2⟩, hc, Upd.ofBelow' hb⟩
    (fun k => { tmps := nextTmps b w.heap.size ((running L).getD k 0), defers := [] }) ?assign ?body ?done ?stop
  case assign =>
    intro l k hk W K hK
    have hk' : k < (running L).length := by simpa using hk
    have hj : ((running L).map (item b))[k] = item b ((running L).getD k 0) := by simp [List.getD, hk']
    rw [hj]
    generalize (running L).getD k 0 = j at *
    clear hk hj hk'
    unfold item nextTmps at *
    gi_wp2
    exact hK
  case body =>
    rintro l k W hk hsz ⟨⟨c0, c1, c2⟩, hc, hu⟩
    have hk' : k < (running L).length := by simpa using hk
    obtain ⟨hj1, hj2⟩ := running_mem L k hk'
    have hjk : (running L)[k]? = some ((running L).getD k 0) := by simp [List.getD, hk']
    have hje : (running L)[k] = (running L).getD k 0 := by simp [List.getD, hk']
    rw [hje] at hj1 hj2
    generalize (running L).getD k 0 = j at *
    have hstep : nextK L (k + 1) = least (nextK L k) (L j) := by
      simp only [nextK, List.take_succ_eq_append_getElem hk', hje, List.map_append, List.foldl_append, List.map_cons, List.map_nil, List.foldl_cons, List.foldl_nil]
    have Hst := Lib.hid hstep
    have dj := hc.left j hj1
    clear hstep hjk hje hk'
    have mo : Try.prog.follows .mixedOrders = true := by kernel_rfl
    unfold nextTmps
    cases hacc : nextK L k with
    | none =>
      rw [hacc] at c0 c1 Hst
      simp only [Option.getD_none, Option.isSome_none] at c0 c1
      have d0 := cell_of_one c0
      have d1 := cell_of_one c1
      have f0 := free_of_one c0
      have f1 := free_of_one c1
      have HC := Lib.hid (And.intro c0 (And.intro c1 c2))
      clear hacc c0 c1 c2
      gi_wp2
      gi_region_with_o (fail)
      all_goals
        gi_wp2
        obtain ⟨c0, c1, c2⟩ := HC.out
        refine ⟨(KeepsOthers.setCell W _ _).trans ((KeepsOthers.setCell _ _ _).trans (KeepsOthers.drew _)), ⟨?_, ?_, ?_⟩, ?_, ?_⟩
        · rw [Hst.out]; exact one_setCell_other (one_setCell c0) (by simp) _
        · rw [Hst.out]; exact one_setCell (one_setCell_other c1 (by simp) _)
        · exact one_setCell_other (one_setCell_other c2 (by simp) _) (by simp) _
        · exact (hc.setCell_other (a := ⟨w.heap.size, 0, none⟩) (by simp; omega) _).setCell_other (a := ⟨w.heap.size + 1, 0, none⟩) (by simp; omega) _
        · exact ((hu.setCell (p := ⟨w.heap.size, 0, none⟩) (fun hlt => absurd hlt (by simp)) _).setCell (p := ⟨w.heap.size + 1, 0, none⟩) (fun hlt => absurd hlt (by simp)) _).drew
    | some m =>
      rw [hacc] at c0 c1 Hst
      simp only [Option.getD_some, Option.isSome_some] at c0 c1
      have d0 := cell_of_one c0
      have d1 := cell_of_one c1
      have f0 := free_of_one c0
      have f1 := free_of_one c1
      have HC := Lib.hid (And.intro c0 (And.intro c1 c2))
      have HA := Lib.hid hacc
      clear hacc c0 c1 c2
      by_cases hlt : L j < m
      · gi_wp2
        gi_region_with_o (fail)
        all_goals
          gi_wp2
          obtain ⟨c0, c1, c2⟩ := HC.out
          refine ⟨(KeepsOthers.setCell W _ _).trans ((KeepsOthers.setCell _ _ _).trans (KeepsOthers.drew _)), ⟨?_, ?_, ?_⟩, ?_, ?_⟩
          · rw [Hst.out, least, if_pos hlt]; exact one_setCell_other (one_setCell c0) (by simp) _
          · rw [Hst.out, least, if_pos hlt]; exact one_setCell (one_setCell_other c1 (by simp) _)
          · exact one_setCell_other (one_setCell_other c2 (by simp) _) (by simp) _
          · exact (hc.setCell_other (a := ⟨w.heap.size, 0, none⟩) (by simp; omega) _).setCell_other (a := ⟨w.heap.size + 1, 0, none⟩) (by simp; omega) _
          · exact ((hu.setCell (p := ⟨w.heap.size, 0, none⟩) (fun hlt => absurd hlt (by simp)) _).setCell (p := ⟨w.heap.size + 1, 0, none⟩) (fun hlt => absurd hlt (by simp)) _).drew
      · gi_wp2
        gi_region_with_o (fail)
        all_goals
          gi_wp2
          obtain ⟨c0, c1, c2⟩ := HC.out
          refine ⟨KeepsOthers.drew _, ⟨?_, ?_, c2⟩, hc, hu.drew⟩
          · rw [Hst.out, least, if_neg (by omega)]; exact c0
          · rw [Hst.out, least, if_neg (by omega)]; exact c1
  case done =>
    rintro D W hD ⟨⟨c0, c1, c2⟩, hc, hu⟩ hK
    have d0 := cell_of_one c0
    have d1 := cell_of_one c1
    have HK := Lib.hid hK
    rw [List.length_map] at d0 d1
    rw [show (nextK L (running L).length).getD 0 = nextN L from rfl] at d0
    rw [show (nextK L (running L).length).isSome = nextB L from rfl] at d1
    have mo : Try.prog.follows .mixedOrders = true := by kernel_rfl
    clear c0 c1 c2 hK
    gi_wp2
    refine wpIn_region_noP ?_
    gi_region_with_o (fail)
    all_goals
      refine NoP.normal ?_
      gi_wp2
      refine ⟨by simp, .inl ⟨_, _, rfl, run_takeDeferred (show W.drew.heap[D]? = _ from HK.out), ?_⟩⟩
      refine ⟨_, results_tmp2 rfl _ _ _, rfl, ?_⟩
      exact (hu.drew.putObj (by omega) _).toBelow (Nat.le_refl _) (fun _ _ h => h)
  case stop =>
    rintro D c k W hD hk hF hK
    exact hF.elim
end Go.Proofs.Ytcicmpegajahkaa
