/-
  CONTRACT of heart's State.
-/
import Derived.Test.YtpnnmcicpjebmaaIter
set_option linter.unusedSimpArgs false
set_option linter.unusedVariables false
namespace Go.Proofs.Ytpnnmcicpjebmaa
open Go.RowKit
attribute [local go_sem] Oper.semAt_some

/-- The peer that is asked for, if it is there. -/
def stF (ps : List Pr) (node : Int) : Option Pr := ps.find? fun p => decide (p.node = node) && p.there
def stN (ps : List Pr) (node : Int) : Int := match stF ps node with | some p => p.state | none => 0
def stB (ps : List Pr) (node : Int) : Bool := (stF ps node).isSome
def NotYet (ps : List Pr) (node : Int) (k : Nat) : Prop := ∀ i p, i < k → ps[i]? = some p → ¬ (p.node = node ∧ p.there = true)
theorem st_none {ps : List Pr} {node : Int} (h : NotYet ps node ps.length) : stN ps node = 0 ∧ stB ps node = false := by
  have : stF ps node = none := by
    unfold stF
    rw [List.find?_eq_none]
    intro p hp
    obtain ⟨i, hi, rfl⟩ := List.getElem_of_mem hp
    have := h i _ hi (List.getElem?_eq_getElem hi)
    simpa using this
  unfold stN stB
  rw [this]
  exact ⟨rfl, rfl⟩
theorem st_some {ps : List Pr} {node : Int} {k : Nat} {p : Pr} (h : NotYet ps node k) (hp : ps[k]? = some p) (hn : p.node = node) (ht : p.there = true) : stN ps node = p.state ∧ stB ps node = true := by
  have hk := (List.getElem?_eq_some_iff.1 hp).1
  have he : stF ps node = some p := by
    unfold stF
    rw [List.find?_eq_some_iff_append]
    refine ⟨by simp [hn, ht], ps.take k, ps.drop (k + 1), ?_, ?_⟩
    · rw [← (List.getElem?_eq_some_iff.1 hp).2]; simp
    · intro q hq
      obtain ⟨i, hi, rfl⟩ := List.getElem_of_mem hq
      have hik : i < k := by simp at hi; omega
      have := h i _ hik (by rw [List.getElem?_eq_getElem (by omega)])
      simp only [List.getElem_take]
      by_cases hq : ps[i].node = node
      · simp [hq] at this; simp [this]
      · simp [hq]
  unfold stN stB
  rw [he]
  exact ⟨rfl, rfl⟩

def stTmps (b g : Nat) (name : Int) (B : Nat) (j : Nat) : Array Value :=
  #[.pointer (some ⟨b, 0, none⟩), .int .i64 name, undef, .pointer (some ⟨B, 0, none⟩), .pointer (some ⟨B + 1, 0, none⟩), .pointer (some ⟨B + 1 + 1, 0, none⟩), .pointer (some ⟨g, j * 5, none⟩), .pointer (some ⟨b, 0, none⟩),
    .func (.func 55) #[] #[.pointer (some ⟨B + 1 + 1 + 1, 0, none⟩)], .pointer (some ⟨g, j * 5, none⟩), undef, undef, undef, undef, undef, undef, undef, undef, undef, undef, undef, undef, undef, undef, undef, undef]

set_option maxRecDepth 100000 in
set_option maxHeartbeats 2000000 in
theorem state_any (b g : Nat) (n ev le : Int) (a : Option Addr) (m c : Nat) (ps : List Pr) (name : Int) (w : World) (hH : Hrt w b n ev le (.slice a m c)) (hP : PrAt w a m g ps) (hn : n ≠ 0) (hm : (m : Int) ≤ 1000) :
    Calls Try.prog 16 #[.pointer (some ⟨b, 0, none⟩), .int .i64 name] w fun e w' =>
      e = .returned (.tuple #[.int .i64 (stN ps name), .bool (stB ps name)]) ∧ Below w.heap.size w w' := by
  have hbl := hH.lt
  have hlen : ps.length = m := hP.1
  refine callsIn_wide (n := 0) |>.1 ?_
  refine callsIn_of_wp_marks Try.func16 rfl trivial ?_ rfl
  simp only [Try.ntmps16, List.size_toArray, List.length_cons, List.length_nil, Nat.reduceAdd, Nat.reduceSub, Array.replicate_succ, Array.replicate_zero, List.push_toArray, List.append_toArray, List.nil_append, List.cons_append]
  gi_wp2_with fail
  refine ⟨trivial, rfl, (callsIn_wide.2 (each_any _ _)).mono ?_⟩
  rintro e w' ⟨rfl, rfl⟩
  gi_wp2_with fail
  obtain ⟨h0, h1, h2, h3, hs, hb⟩ := new4 w (.cells #[.int .i64 name] 3) (.cells #[.int .i64 0] 3) (.cells #[.bool false] 4) (.cells #[.pointer (some ⟨b, 0, none⟩)] 23)
  have hc : Hrt ((((w.alloc (.cells #[.int .i64 name] 3)).alloc (.cells #[.int .i64 0] 3)).alloc (.cells #[.bool false] 4)).alloc (.cells #[.pointer (some ⟨b, 0, none⟩)] 23)) b n ev le (.slice a m c) := (hb.block b hbl).trans hH
  have hp : PrAt ((((w.alloc (.cells #[.int .i64 name] 3)).alloc (.cells #[.int .i64 0] 3)).alloc (.cells #[.bool false] 4)).alloc (.cells #[.pointer (some ⟨b, 0, none⟩)] 23)) a m g ps := hP.same fun cs hh => bkeep' hb hh
  obtain ⟨W0, hW0⟩ : ∃ W0, ((((w.alloc (.cells #[.int .i64 name] 3)).alloc (.cells #[.int .i64 0] 3)).alloc (.cells #[.bool false] 4)).alloc (.cells #[.pointer (some ⟨b, 0, none⟩)] 23)) = W0 := ⟨_, rfl⟩
  rw [hW0] at h0 h1 h2 h3 hs hb hc hp ⊢
  clear hW0
  refine wp_range (full := (List.range m).map (pitem g)) (Rd := fun _ W => RdH (w.heap.size + 3) b n a m c W) rfl (enters_of Try.func55 (by kernel_rfl) rfl) (iter_any (w.heap.size + 3) b g n hn a m c hm hP.where_ W0) (Below.refl _ _) (fun k hk => by simp [pitem])
    (fun k W => (W.heap[w.heap.size]? = some (.cells #[.int .i64 name] 3 (0, 0)) ∧ W.heap[w.heap.size + 1]? = some (.cells #[.int .i64 0] 3 (0, 0)) ∧ W.heap[w.heap.size + 2]? = some (.cells #[.bool false] 4 (0, 0)) ∧ W.heap[w.heap.size + 3]? = some (.cells #[.pointer (some ⟨b, 0, none⟩)] 23 (0, 0))) ∧ Hrt W b n ev le (.slice a m c) ∧ PrAt W a m g ps ∧ Upd (fun _ => False) w W ∧ NotYet ps name k)
    (fun c k W => c = .ret ∧ (W.heap[w.heap.size + 1]? = some (.cells #[.int .i64 (stN ps name)] 3 (0, 0)) ∧ W.heap[w.heap.size + 2]? = some (.cells #[.bool true] 4 (0, 0))) ∧ Upd (fun _ => False) w W ∧ stB ps name = true)
    ((((own_blk _ _).and ((own_blk _ _).and ((own_blk _ _).and (own_blk _ _)))).and (Hrt.ownF.and (PrAt.ownF.and ((own_upd (by omega)).and (own_pure _))))))
    (fun c => (own_pure _).and (((own_blk _ _).and (own_blk _ _)).and ((own_upd (by omega)).and (own_pure _))))
    (fun k W hI => ⟨cell_of_one hI.1.2.2.2, hI.2.1.cells.1, hI.2.1.cells.2.2.2⟩)
    ⟨⟨h0, h1, h2, h3⟩, hc, hp, Upd.ofBelow' hb, fun i p hi => absurd hi (Nat.not_lt_zero _)⟩
    (fun k => { tmps := stTmps b g name w.heap.size k, defers := [] }) ?assign ?body ?done ?stop
  case assign =>
    intro l k hk W K hK
    have hj : ((List.range m).map (pitem g))[k] = pitem g k := by simp
    rw [hj]
    clear hk hj
    unfold pitem stTmps at *
    gi_wp2
    exact hK
  case body =>
    rintro l k W hk hsz ⟨⟨c0, c1, c2, c3⟩, hc, hp, hu, hny⟩
    have hk' : k < ps.length := by rw [hlen]; simpa using hk
    have hpk : ps[k]? = some ps[k] := List.getElem?_eq_getElem hk'
    obtain ⟨p, hpe⟩ : ∃ p, ps[k] = p := ⟨_, rfl⟩
    rw [hpe] at hpk
    obtain ⟨q0, q1, q2, q3, q4⟩ := hp.cell hpk
    have hgl := (hp.free (by omega) 0).2
    have d0 := cell_of_one c0
    have d1 := cell_of_one c1
    have d2 := cell_of_one c2
    have f1 := free_of_one c1
    have f2 := free_of_one c2
    have HK := Lib.hid hpk
    have HC := Lib.hid (And.intro c0 (And.intro c1 (And.intro c2 c3)))
    have HH := Lib.hid hc
    have HP := Lib.hid hp
    have HN := Lib.hid hny
    have mo : Try.prog.follows .mixedOrders = true := by kernel_rfl
    obtain ⟨pn, pt, pb, pst, pl⟩ := p
    simp only at q0 q1 q2 q3 q4
    have hg1 : g ≠ w.heap.size := fun e => by rcases hp.ne c0 (by decide) with h | h; (· omega); (· exact h e)
    have hg2 : g ≠ w.heap.size + 1 := fun e => by rcases hp.ne c1 (by decide) with h | h; (· omega); (· exact h e)
    have hg3 : g ≠ w.heap.size + 1 + 1 := fun e => by rcases hp.ne c2 (by decide) with h | h; (· omega); (· exact h e)
    clear hpk hpe c0 c1 c2 c3 hc hp hny hk'
    unfold stTmps
    by_cases hjn : pn = name
    · have ht : (pn == name) = true := by simp [hjn]
      have HJ := Lib.hid hjn
      clear hjn
      cases pb
      · gi_wp2
        gi_region_with_o (fail)
        all_goals
          gi_wp2
          refine ⟨KeepsOthers.drew _, HC.out, HH.out, HP.out, hu.drew, fun i p hi he hh => ?_⟩
          by_cases hik : i = k
          · subst hik
            have := HK.out
            rw [he] at this
            cases this
            cases hh.2
          · exact HN.out i p (by omega) he hh
      · have HS := Lib.hid (st_some HN.out HK.out HJ.out rfl)
        gi_wp2
        gi_region_with_o (fail)
        all_goals
          gi_wp2
          obtain ⟨c0, c1, c2, c3⟩ := HC.out
          refine ⟨(KeepsOthers.setCell W _ _).trans ((KeepsOthers.setCell _ _ _).trans (KeepsOthers.drew _)), rfl, ⟨?_, ?_⟩, ((hu.setCell (p := ⟨w.heap.size + 1, 0, none⟩) (fun hlt => by simp at hlt; omega) _).setCell (p := ⟨w.heap.size + 2, 0, none⟩) (fun hlt => by simp at hlt; omega) _).drew, HS.out.2⟩
          · rw [HS.out.1]; exact one_setCell_other (one_setCell c1) (by simp) _
          · exact one_setCell (one_setCell_other c2 (by simp) _)
    · have ht : (pn == name) = false := by simp [hjn]
      have HJ := Lib.hid hjn
      clear hjn
      gi_wp2
      gi_region_with_o (fail)
      all_goals
        gi_wp2
        refine ⟨KeepsOthers.drew _, HC.out, HH.out, HP.out, hu.drew, fun i p hi he hh => ?_⟩
        by_cases hik : i = k
        · subst hik
          have := HK.out
          rw [he] at this
          cases this
          exact HJ.out hh.1
        · exact HN.out i p (by omega) he hh
  case done =>
    rintro D W hD ⟨⟨c0, c1, c2, c3⟩, hc, hp, hu, hny⟩ hK
    rw [List.length_map, List.length_range, ← hlen] at hny
    have d1 := cell_of_one c1
    have d2 := cell_of_one c2
    have f1 := free_of_one c1
    have f2 := free_of_one c2
    have HK := Lib.hid hK
    have HN := Lib.hid (st_none hny)
    have HC := Lib.hid (And.intro c1 c2)
    clear hny c0 c1 c2 c3 hK hc hp
    have hDn : w.heap.size + 2 < D := by omega
    gi_wp2
    obtain ⟨c1, c2⟩ := HC.out
    have e1 := cell_of_one (putObj_other (one_setCell_other (b := w.heap.size + 1) (one_setCell c1 (u := .int .i64 0)) (a := ⟨w.heap.size + 2, 0, none⟩) (by simp) (.bool false)) (D := D) (by omega) (.deferred none))
    have e2 := cell_of_one (putObj_other (one_setCell (one_setCell_other c2 (a := ⟨w.heap.size + 1, 0, none⟩) (by simp) (.int .i64 0)) (u := .bool false)) (D := D) (by omega) (.deferred none))
    have hK2 := ((KeepsOthers.setCell W ⟨w.heap.size + 1, 0, none⟩ (.int .i64 0)).trans (KeepsOthers.setCell _ ⟨w.heap.size + 2, 0, none⟩ (.bool false))).same D _ HK.out rfl
    refine ⟨by simp, .inl ⟨_, _, rfl, run_takeDeferred hK2, ?_⟩⟩
    refine ⟨.tuple #[.int .i64 0, .bool false], ?_, ?_, ?_⟩
    · simp [results, Try.results16, go_sem, e1, e2]
    · rw [HN.out.1, HN.out.2]
    · exact ((((hu.setCell (p := ⟨w.heap.size + 1, 0, none⟩) (fun hlt => by simp at hlt; omega) _).setCell (p := ⟨w.heap.size + 2, 0, none⟩) (fun hlt => by simp at hlt; omega) _).putObj (by omega) _).toBelow (Nat.le_refl _) (fun _ _ h => h))
  case stop =>
    rintro D c k W hD hk ⟨rfl, ⟨c1, c2⟩, hu, hh⟩ hK
    have d1 := cell_of_one c1
    have d2 := cell_of_one c2
    have HK := Lib.hid hK
    have HH := Lib.hid hh
    have HC := Lib.hid (And.intro c1 c2)
    clear hh c1 c2 hK
    gi_wp2
    obtain ⟨c1, c2⟩ := HC.out
    have e1 := cell_of_one (putObj_other c1 (D := D) (by omega) (.deferred none))
    have e2 := cell_of_one (putObj_other c2 (D := D) (by omega) (.deferred none))
    refine ⟨by simp, .inl ⟨_, _, rfl, run_takeDeferred HK.out, ?_⟩⟩
    refine ⟨.tuple #[.int .i64 (stN ps name), .bool true], ?_, ?_, ?_⟩
    · simp [results, Try.results16, go_sem, e1, e2]
    · rw [HH.out]
    · exact (hu.putObj (by omega) _).toBelow (Nat.le_refl _) (fun _ _ h => h)
end Go.Proofs.Ytpnnmcicpjebmaa
