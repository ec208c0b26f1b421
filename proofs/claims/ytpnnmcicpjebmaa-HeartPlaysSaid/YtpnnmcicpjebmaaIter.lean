/-
  The iterator over a heart's peers.
-/
import Derived.Test.YtpnnmcicpjebmaaPeers
import Derived.Test.YtpnnmcicpjebmaaRange
set_option linter.unusedSimpArgs false
set_option linter.unusedVariables false
namespace Go.Proofs.Ytpnnmcicpjebmaa
open Go.RowKit
attribute [local go_sem] Oper.semAt_some

theorem each_any (p : Option Addr) (w : World) :
    Calls Try.prog 48 #[.pointer p] w fun e w' => e = .returned (.func (.func 55) #[] #[.pointer (some ⟨w.heap.size, 0, none⟩)]) ∧ w.alloc (.cells #[.pointer p] 23) = w' := by
  go_enter Try.func48, Try.ntmps48
  go_wp2
  go_ret
  exact ⟨rfl, rfl⟩

def pitem (g i : Nat) : Array Value := #[.pointer (some ⟨g, i * 5, none⟩)]

/-- What the iterator reads between two rounds. -/
def RdH (B b : Nat) (n : Int) (a : Option Addr) (m c : Nat) (W : World) : Prop :=
  W.cell? ⟨B, 0, none⟩ = some (.pointer (some ⟨b, 0, none⟩)) ∧ W.cell? ⟨b, 0, none⟩ = some (.int .i64 n) ∧ W.cell? ⟨b, 3, none⟩ = some (.slice a m c)

set_option maxRecDepth 100000 in
set_option maxHeartbeats 1000000 in
theorem iter_any (B b g : Nat) (n : Int) (hn : n ≠ 0) (a : Option Addr) (m c : Nat) (hm : (m : Int) ≤ 1000) (ha : m = 0 ∨ a = some ⟨g, 0, none⟩) (w : World) :
    SeqL Try.prog 55 #[.pointer (some ⟨B, 0, none⟩)] ((List.range m).map (pitem g)) (fun _ W => RdH B b n a m c W) w := by
  intro l J Jx W _ hRd hY h0
  have HY := Lib.hid hY
  have HR := Lib.hid hRd
  have H0 := Lib.hid h0
  obtain ⟨r0, r1, r2⟩ := hRd 0 W h0
  have HT := Lib.hid (there_ok b n W r1 hn)
  clear hY hRd h0
  refine callsIn_of_wp Try.func55 rfl trivial ?_ rfl
  simp only [Try.ntmps55, List.size_toArray, List.length_cons, List.length_nil, Nat.reduceAdd, Nat.reduceSub, Array.replicate_succ, Array.replicate_zero, List.push_toArray, List.append_toArray, List.nil_append, List.cons_append]
  gi_wp2_with fail
  refine ⟨trivial, rfl, (callsIn_wide.2 HT.out).mono ?_⟩
  rintro e w' ⟨rfl, rfl⟩
  gi_wp2_with fail
  gi_loopw [3, 12] (fun _ v wr => ∃ i : Nat, i ≤ m ∧ v = .int .i64 (i : Int) ∧ J i wr) (fun _ v _ => m - (intOf v).toNat)
  case atStart => exact ⟨0, by omega, rfl, H0.out⟩
  case round =>
    obtain ⟨i, hi, rfl, hJ⟩ := hrel
    by_cases hlt : i < m
    · obtain rfl : a = some ⟨g, 0, none⟩ := by rcases ha with h | h; (· omega); (· exact h)
      obtain ⟨q0, q1, q2⟩ := HR.out _ _ hJ
      have d1 : (i : Int) < (m : Int) := by omega
      have HJ := Lib.hid hJ
      clear hJ
      have hy := HY.out i wr (by simpa using hlt) HJ.out
      rw [show ((List.range m).map (pitem g))[i]'(by simpa using hlt) = pitem g i from by simp] at hy
      obtain ⟨fn, tmps, assign, body, hy, hR⟩ := hy
      have HRR := Lib.hid hR
      unfold pitem at hy
      clear hR
      gi_wp2
      refine ⟨rfl, HRR.out.mono ?_⟩
      rintro e W3 (⟨rfl, hJ3⟩ | ⟨rfl, hJx3⟩)
      · gi_wp2
        go_roundw
        case rel => exact ⟨i + 1, by omega, by go_num, hJ3⟩
        case measure => simp [intOf]; omega
      · gi_wp2
        refine bodyPost_ret (results_none rfl _ _ _) rfl ?_
        exact ⟨⟨_, rfl⟩, .inr ⟨i + 1, by simp; omega, hJx3⟩⟩
    · obtain rfl : i = m := by omega
      gi_wp2
      go_end0
      exact ⟨⟨_, rfl⟩, .inl (by simpa using hJ)⟩

/-- The peers in block g. -/
def PrAt (w : World) (a : Option Addr) (m g : Nat) (ps : List Pr) : Prop := ps.length = m ∧
  (m = 0 ∨ (a = some ⟨g, 0, none⟩ ∧ ∃ cs : Array Value, w.heap[g]? = some (.cells cs 82 (0, 0)) ∧ ∀ i p, ps[i]? = some p → ∀ j u, (pcells p)[j]? = some u → cs[i * 5 + j]? = some u))

theorem PrAt.where_ {w : World} {a : Option Addr} {m g : Nat} {ps : List Pr} (h : PrAt w a m g ps) : m = 0 ∨ a = some ⟨g, 0, none⟩ := h.2.imp id (fun h => h.1)
theorem PrAt.cell {w : World} {a : Option Addr} {m g : Nat} {ps : List Pr} (h : PrAt w a m g ps) {i : Nat} {p : Pr} (hp : ps[i]? = some p) :
    w.cell? ⟨g, i * 5, none⟩ = some (.int .i64 p.node) ∧ w.cell? ⟨g, i * 5 + 1, none⟩ = some (.int .i64 p.time) ∧ w.cell? ⟨g, i * 5 + 2, none⟩ = some (.bool p.there) ∧ w.cell? ⟨g, i * 5 + 3, none⟩ = some (.int .i64 p.state) ∧ w.cell? ⟨g, i * 5 + 4, none⟩ = some (.int .i64 p.left) := by
  have hi := (List.getElem?_eq_some_iff.1 hp).1
  rcases h.2 with h0 | ⟨rfl, cs, hh, hc⟩
  · have := h.1; omega
  · refine ⟨?_, ?_, ?_, ?_, ?_⟩
    · simpa [World.cell?, hh] using hc i p hp 0 _ rfl
    · simpa [World.cell?, hh] using hc i p hp 1 _ rfl
    · simpa [World.cell?, hh] using hc i p hp 2 _ rfl
    · simpa [World.cell?, hh] using hc i p hp 3 _ rfl
    · simpa [World.cell?, hh] using hc i p hp 4 _ rfl
theorem PrAt.free {w : World} {a : Option Addr} {m g : Nat} {ps : List Pr} (h : PrAt w a m g ps) (hm : 0 < m) (o : Nat) : w.frozen? ⟨g, o, none⟩ = false ∧ g < w.heap.size := by
  rcases h.2 with h0 | ⟨rfl, cs, hh, hc⟩
  · omega
  · exact ⟨free_of hh o, lt_of_block hh⟩
theorem PrAt.same {w w' : World} {a : Option Addr} {m g : Nat} {ps : List Pr} (h : PrAt w a m g ps) (hk : ∀ cs, w.heap[g]? = some (.cells cs 82 (0, 0)) → w'.heap[g]? = some (.cells cs 82 (0, 0))) : PrAt w' a m g ps := by
  refine ⟨h.1, ?_⟩
  rcases h.2 with h0 | ⟨rfl, cs, hh, hc⟩
  · exact .inl h0
  · exact .inr ⟨rfl, cs, hk cs hh, hc⟩
theorem PrAt.upd {S : Nat → Prop} {w w' : World} {a : Option Addr} {m g : Nat} {ps : List Pr} (h : PrAt w a m g ps) (hu : Upd S w w') (hn : m = 0 ∨ ¬ S g) : PrAt w' a m g ps := by
  rcases hn with h0 | hn
  · exact ⟨h.1, .inl h0⟩
  · exact h.same fun cs hh => hu.block_some hh hn
theorem PrAt.ne {w : World} {a : Option Addr} {m g b t : Nat} {ps : List Pr} {cs : Array Value} (h : PrAt w a m g ps) (hb : w.heap[b]? = some (.cells cs t (0, 0))) (ht : t ≠ 82) : m = 0 ∨ ¬ g = b := by
  rcases h.2 with h0 | ⟨rfl, cs', hh, hc⟩
  · exact .inl h0
  · refine .inr fun e => ?_
    subst e
    rw [hh] at hb
    injection hb with hb
    injection hb with _ h2
    exact ht h2.symm
theorem PrAt.set {w : World} {a : Option Addr} {m g : Nat} {ps : List Pr} (h : PrAt w a m g ps) {i : Nat} {p q : Pr} (hp : ps[i]? = some p) (j : Nat) (u : Value) (hj : j < 5) (hq : pcells q = (pcells p).set j u) : PrAt (w.setCell ⟨g, i * 5 + j, none⟩ u) a m g (ps.set i q) := by
  have hi := (List.getElem?_eq_some_iff.1 hp).1
  refine ⟨by rw [List.length_set]; exact h.1, ?_⟩
  rcases h.2 with h0 | ⟨rfl, cs, hh, hc⟩
  · exact .inl h0
  · refine .inr ⟨rfl, cs.setIfInBounds (i * 5 + j) u, hset hh _ _, fun i' p' hp' j' u' hu' => ?_⟩
    have hj' : j' < 5 := by have := (List.getElem?_eq_some_iff.1 hu').1; simpa [pcells] using this
    have hsz : i * 5 + j < cs.size := by
      have h4 := hc i p hp j ((pcells p)[j]'(by simp [pcells]; omega)) (List.getElem?_eq_getElem _)
      exact (Array.getElem?_eq_some_iff.1 h4).1
    by_cases e : i' = i
    · subst e
      rw [List.getElem?_set_self hi] at hp'
      cases hp'
      by_cases ej : j' = j
      · subst ej
        rw [hq, List.getElem?_set_self (by simp [pcells]; omega)] at hu'
        cases hu'
        rw [Array.getElem?_setIfInBounds_self_of_lt hsz]
      · rw [hq, List.getElem?_set_ne (by omega)] at hu'
        rw [Array.getElem?_setIfInBounds_ne (by omega)]
        exact hc _ _ hp j' u' hu'
    · rw [List.getElem?_set_ne (by omega)] at hp'
      rw [Array.getElem?_setIfInBounds_ne (by omega)]
      exact hc i' p' hp' j' u' hu'
theorem PrAt.of_own {w : World} {base n : Nat} {v : Value} {ps : List Pr} (h : w.ownsRow base 82 5 v ps.length (pvals ps)) : ∃ a c g, v = .slice a ps.length c ∧ PrAt w a ps.length g ps ∧ (ps.length = 0 ∨ base ≤ g) := by
  rcases h.2 with ⟨rfl, h0⟩ | ⟨g, cap, cur, rfl, hb, hh, h1, h2, h3, h4⟩
  · rw [h0]; exact ⟨none, 0, 0, rfl, ⟨h0, .inl rfl⟩, .inl rfl⟩
  · refine ⟨_, cap, g, rfl, ⟨rfl, .inr ⟨rfl, cur, hh, fun i p hp j u hu => ?_⟩⟩, .inr hb⟩
    have hi := (List.getElem?_eq_some_iff.1 hp).1
    have hj : j < 5 := by have := (List.getElem?_eq_some_iff.1 hu).1; simpa [pcells] using this
    have h5 := pvals_get ps i p hp j hj
    rw [hu, ← h4, List.getElem?_take_of_lt (by omega)] at h5
    simpa using h5

theorem PrAt.ownF {B : Nat} {a : Option Addr} {m g : Nat} {ps : Nat → List Pr} : OwnFrom B (fun k W => PrAt W a m g (ps k)) :=
  fun _ _ _ _ h hg hr => h.same fun cs hh => blk_own hg hr hh
theorem Hrt.ownF {B : Nat} {b : Nat} {n ev le : Int} {v : Value} : OwnFrom B (fun (_ : Nat) W => Hrt W b n ev le v) :=
  fun _ _ _ _ h hg hr => blk_own hg hr h
end Go.Proofs.Ytpnnmcicpjebmaa
