/-
  CONTRACTS of the reference's heart: New, Period, State; its peers in memory.
-/
import Derived.Test.YtpnnmcicpjebmaaState
import Derived.Handy
import Derived.Deep.Light
import Derived.Deep.LoopGhost
set_option linter.unusedSimpArgs false
set_option linter.unusedVariables false
namespace Go.Proofs.Ytpnnmcicpjebmaa
open Go.RowKit
attribute [local go_sem] Oper.semAt_some

/-- A peer's state as the reference has it. -/
def rst (p : Pr) : Int := if p.there then p.state else -1
def rcells (p : Pr) : List Value := [.int .i64 p.node, .int .i64 p.time, .int .i64 (rst p), .int .i64 p.left]
def rvals (ps : List Pr) : List Value := ps.flatMap rcells
theorem rvals_snoc (ps : List Pr) (p : Pr) : rvals (ps ++ [p]) = rvals ps ++ rcells p := by simp [rvals]
theorem rvals_get (ps : List Pr) (i : Nat) (p : Pr) (h : ps[i]? = some p) (j : Nat) (hj : j < 4) : (rvals ps)[i * 4 + j]? = (rcells p)[j]? := by
  induction ps generalizing i with
  | nil => simp at h
  | cons q ps ih =>
    have e : rvals (q :: ps) = rcells q ++ rvals ps := by simp [rvals]
    rw [e]
    cases i with
    | zero =>
      simp at h
      subst h
      rw [Nat.zero_mul, Nat.zero_add, List.getElem?_append_left (by simp [rcells]; omega)]
    | succ i =>
      simp at h
      rw [List.getElem?_append_right (by simp [rcells]; omega)]
      have : (i + 1) * 4 + j - (rcells q).length = i * 4 + j := by simp [rcells]; omega
      rw [this]
      exact ih i h


/-- The reference's heart in block b. -/
def RHrt (w : World) (b : Nat) (n ev le : Int) (ps : Value) : Prop := w.heap[b]? = some (.cells #[.int .i64 n, .int .i64 ev, .int .i64 le, ps] 97 (0, 0))
theorem RHrt.cells {w : World} {b : Nat} {n ev le : Int} {ps : Value} (h : RHrt w b n ev le ps) :
    w.cell? ⟨b, 0, none⟩ = some (.int .i64 n) ∧ w.cell? ⟨b, 1, none⟩ = some (.int .i64 ev) ∧ w.cell? ⟨b, 2, none⟩ = some (.int .i64 le) ∧ w.cell? ⟨b, 3, none⟩ = some ps := cells4 h
theorem RHrt.lt {w : World} {b : Nat} {n ev le : Int} {ps : Value} (h : RHrt w b n ev le ps) : b < w.heap.size := lt_of_block h

/-- The reference's peers in block g. -/
def RPrAt (w : World) (a : Option Addr) (m g : Nat) (ps : List Pr) : Prop := ps.length = m ∧
  (m = 0 ∨ (a = some ⟨g, 0, none⟩ ∧ ∃ cs : Array Value, w.heap[g]? = some (.cells cs 99 (0, 0)) ∧ ∀ i p, ps[i]? = some p → ∀ j u, (rcells p)[j]? = some u → cs[i * 4 + j]? = some u))

theorem RPrAt.where_ {w : World} {a : Option Addr} {m g : Nat} {ps : List Pr} (h : RPrAt w a m g ps) : m = 0 ∨ a = some ⟨g, 0, none⟩ := h.2.imp id (fun h => h.1)
theorem RPrAt.cell {w : World} {a : Option Addr} {m g : Nat} {ps : List Pr} (h : RPrAt w a m g ps) {i : Nat} {p : Pr} (hp : ps[i]? = some p) :
    w.cell? ⟨g, i * 4, none⟩ = some (.int .i64 p.node) ∧ w.cell? ⟨g, i * 4 + 1, none⟩ = some (.int .i64 p.time) ∧ w.cell? ⟨g, i * 4 + 2, none⟩ = some (.int .i64 (rst p)) ∧ w.cell? ⟨g, i * 4 + 3, none⟩ = some (.int .i64 p.left) := by
  have hi := (List.getElem?_eq_some_iff.1 hp).1
  rcases h.2 with h0 | ⟨rfl, cs, hh, hc⟩
  · have := h.1; omega
  · refine ⟨?_, ?_, ?_, ?_⟩
    · simpa [World.cell?, hh] using hc i p hp 0 _ rfl
    · simpa [World.cell?, hh] using hc i p hp 1 _ rfl
    · simpa [World.cell?, hh] using hc i p hp 2 _ rfl
    · simpa [World.cell?, hh] using hc i p hp 3 _ rfl
theorem RPrAt.free {w : World} {a : Option Addr} {m g : Nat} {ps : List Pr} (h : RPrAt w a m g ps) (hm : 0 < m) (o : Nat) : w.frozen? ⟨g, o, none⟩ = false ∧ g < w.heap.size := by
  rcases h.2 with h0 | ⟨rfl, cs, hh, hc⟩
  · omega
  · exact ⟨free_of hh o, lt_of_block hh⟩
theorem RPrAt.same {w w' : World} {a : Option Addr} {m g : Nat} {ps : List Pr} (h : RPrAt w a m g ps) (hk : ∀ cs, w.heap[g]? = some (.cells cs 99 (0, 0)) → w'.heap[g]? = some (.cells cs 99 (0, 0))) : RPrAt w' a m g ps := by
  refine ⟨h.1, ?_⟩
  rcases h.2 with h0 | ⟨rfl, cs, hh, hc⟩
  · exact .inl h0
  · exact .inr ⟨rfl, cs, hk cs hh, hc⟩
theorem RPrAt.upd {S : Nat → Prop} {w w' : World} {a : Option Addr} {m g : Nat} {ps : List Pr} (h : RPrAt w a m g ps) (hu : Upd S w w') (hn : m = 0 ∨ ¬ S g) : RPrAt w' a m g ps := by
  rcases hn with h0 | hn
  · exact ⟨h.1, .inl h0⟩
  · exact h.same fun cs hh => hu.block_some hh hn
theorem RPrAt.ne {w : World} {a : Option Addr} {m g b t : Nat} {ps : List Pr} {cs : Array Value} (h : RPrAt w a m g ps) (hb : w.heap[b]? = some (.cells cs t (0, 0))) (ht : t ≠ 99) : m = 0 ∨ ¬ g = b := by
  rcases h.2 with h0 | ⟨rfl, cs', hh, hc⟩
  · exact .inl h0
  · refine .inr fun e => ?_
    subst e
    rw [hh] at hb
    injection hb with hb
    injection hb with _ h2
    exact ht h2.symm
theorem RPrAt.set {w : World} {a : Option Addr} {m g : Nat} {ps : List Pr} (h : RPrAt w a m g ps) {i : Nat} {p q : Pr} (hp : ps[i]? = some p) (j : Nat) (u : Value) (hj : j < 4) (hq : rcells q = (rcells p).set j u) : RPrAt (w.setCell ⟨g, i * 4 + j, none⟩ u) a m g (ps.set i q) := by
  have hi := (List.getElem?_eq_some_iff.1 hp).1
  refine ⟨by rw [List.length_set]; exact h.1, ?_⟩
  rcases h.2 with h0 | ⟨rfl, cs, hh, hc⟩
  · exact .inl h0
  · refine .inr ⟨rfl, cs.setIfInBounds (i * 4 + j) u, hset hh _ _, fun i' p' hp' j' u' hu' => ?_⟩
    have hj' : j' < 4 := by have := (List.getElem?_eq_some_iff.1 hu').1; simpa [rcells] using this
    have hsz : i * 4 + j < cs.size := by
      have h4 := hc i p hp j ((rcells p)[j]'(by simp [rcells]; omega)) (List.getElem?_eq_getElem _)
      exact (Array.getElem?_eq_some_iff.1 h4).1
    by_cases e : i' = i
    · subst e
      rw [List.getElem?_set_self hi] at hp'
      cases hp'
      by_cases ej : j' = j
      · subst ej
        rw [hq, List.getElem?_set_self (by simp [rcells]; omega)] at hu'
        cases hu'
        rw [Array.getElem?_setIfInBounds_self_of_lt hsz]
      · rw [hq, List.getElem?_set_ne (by omega)] at hu'
        rw [Array.getElem?_setIfInBounds_ne (by omega)]
        exact hc _ _ hp j' u' hu'
    · rw [List.getElem?_set_ne (by omega)] at hp'
      rw [Array.getElem?_setIfInBounds_ne (by omega)]
      exact hc i' p' hp' j' u' hu'
theorem RPrAt.of_own {w : World} {base n : Nat} {v : Value} {ps : List Pr} (h : w.ownsRow base 99 4 v ps.length (rvals ps)) : ∃ a c g, v = .slice a ps.length c ∧ RPrAt w a ps.length g ps ∧ (ps.length = 0 ∨ base ≤ g) := by
  rcases h.2 with ⟨rfl, h0⟩ | ⟨g, cap, cur, rfl, hb, hh, h1, h2, h3, h4⟩
  · rw [h0]; exact ⟨none, 0, 0, rfl, ⟨h0, .inl rfl⟩, .inl rfl⟩
  · refine ⟨_, cap, g, rfl, ⟨rfl, .inr ⟨rfl, cur, hh, fun i p hp j u hu => ?_⟩⟩, .inr hb⟩
    have hi := (List.getElem?_eq_some_iff.1 hp).1
    have hj : j < 4 := by have := (List.getElem?_eq_some_iff.1 hu).1; simpa [rcells] using this
    have h5 := rvals_get ps i p hp j hj
    rw [hu, ← h4, List.getElem?_take_of_lt (by omega)] at h5
    simpa using h5

theorem RPrAt.ownF {B : Nat} {a : Option Addr} {m g : Nat} {ps : Nat → List Pr} : OwnFrom B (fun k W => RPrAt W a m g (ps k)) :=
  fun _ _ _ _ h hg hr => h.same fun cs hh => blk_own hg hr hh

theorem rnew_ok (n : Int) (w : World) (h : 1 ≤ n ∧ n ≤ 127) : Calls Try.prog 37 #[.int .i64 n] w fun e w' => e = .returned (.tuple #[.pointer (some ⟨w.heap.size, 0, none⟩), .int .i64 0]) ∧ w.alloc (.cells #[.int .i64 n, .int .i64 0, .int .i64 0, .slice none 0 0] 97) = w' := by
  obtain ⟨h1, h2⟩ := h
  have d1 : decide (n < 1) = false := decide_eq_false (by omega)
  have d2 : decide (127 < n) = false := decide_eq_false (by omega)
  go_enter Try.func37, Try.ntmps37
  go_wp2_with fail
  go_ret2
  exact ⟨rfl, rfl⟩
theorem rnew_no (n : Int) (w : World) (h : ¬ (1 ≤ n ∧ n ≤ 127)) : Calls Try.prog 37 #[.int .i64 n] w fun e w' => ∃ p, e = .returned (.tuple #[.pointer p, .int .i64 1]) ∧ Below w.heap.size w w' := by
  by_cases h1 : n < 1
  · have d1 : decide (n < 1) = true := decide_eq_true h1
    clear h
    go_enter Try.func37, Try.ntmps37
    go_wp2_with fail
    go_ret2
    exact ⟨_, rfl, by go_grown⟩
  · have d1 : decide (n < 1) = false := decide_eq_false h1
    have h2 : 127 < n := by omega
    have d2 : decide (127 < n) = true := decide_eq_true h2
    clear h
    go_enter Try.func37, Try.ntmps37
    go_wp2_with fail
    go_ret2
    exact ⟨⟨_, rfl⟩, by go_grown⟩

theorem rperiod_ok (b : Nat) (n ev le : Int) (ps : Value) (t : Int) (w : World) (h : RHrt w b n ev le ps) (ht : 0 ≤ t ∧ t ≤ 65535) :
    Calls Try.prog 43 #[.pointer (some ⟨b, 0, none⟩), .int .i64 t] w fun e w' => e = .returned (.int .i64 0) ∧ RHrt w' b n t t ps ∧ Upd (· = b) w w' := by
  obtain ⟨h1, h2⟩ := ht
  have d1 : decide (t < 0) = false := decide_eq_false (by omega)
  have d2 : decide (65535 < t) = false := decide_eq_false (by omega)
  obtain ⟨c0, c1, c2, c3⟩ := h.cells
  have f1 := free_of h 1
  have f2 := free_of h 2
  have HH := Lib.hid (hset (hset h 1 (.int .i64 t)) 2 (.int .i64 t))
  have HU := Lib.hid (((Upd.refl (· = b) w).setCell (p := ⟨b, 1, none⟩) (fun _ => rfl) (.int .i64 t)).setCell (p := ⟨b, 2, none⟩) (fun _ => rfl) (.int .i64 t))
  clear h
  go_enter Try.func43, Try.ntmps43
  go_wp2_with fail
  go_ret
  exact ⟨rfl, HH.out, HU.out⟩
theorem rperiod_no (p : Value) (t : Int) (w : World) (ht : ¬ (0 ≤ t ∧ t ≤ 65535)) :
    Calls Try.prog 43 #[p, .int .i64 t] w fun e w' => e = .returned (.int .i64 9) ∧ w = w' := by
  by_cases h1 : t < 0
  · have d1 : decide (t < 0) = true := decide_eq_true h1
    clear ht
    go_enter Try.func43, Try.ntmps43
    go_wp2_with fail
    go_ret
    exact ⟨rfl, rfl⟩
  · have d1 : decide (t < 0) = false := decide_eq_false h1
    have h2 : 65535 < t := by omega
    have d2 : decide (65535 < t) = true := decide_eq_true h2
    clear ht
    go_enter Try.func43, Try.ntmps43
    go_wp2_with fail
    go_ret
    exact ⟨rfl, rfl⟩

set_option maxRecDepth 100000 in
set_option maxHeartbeats 1000000 in
theorem rstate_any (b g : Nat) (n ev le : Int) (a : Option Addr) (m c : Nat) (ps : List Pr) (name : Int) (w : World) (hH : RHrt w b n ev le (.slice a m c)) (hP : RPrAt w a m g ps) (hm : (m : Int) ≤ 1000) (hps : ∀ p ∈ ps, p.there = true → 0 ≤ p.state) :
    Calls Try.prog 45 #[.pointer (some ⟨b, 0, none⟩), .int .i64 name] w fun e w' =>
      e = .returned (.tuple #[.int .i64 (stN ps name), .bool (stB ps name)]) ∧ w = w' := by
  obtain ⟨c0, c1, c2, c3⟩ := hH.cells
  have hlen := hP.1
  have HP := Lib.hid hP
  have HPS := Lib.hid hps
  clear hH hP hps
  go_enter Try.func45, Try.ntmps45
  go_wp2_with fail
  go_loopg [6] m (fun gg i wr => ∃ k : Nat, k ≤ m ∧ gg = m - k ∧ i = .int .i64 k ∧ wr = w ∧ NotYet ps name k)
  case atStart => exact ⟨0, by omega, by omega, rfl, rfl, fun i p hi => absurd hi (Nat.not_lt_zero _)⟩
  case round =>
    obtain ⟨k, hk, hg, rfl, rfl, hny⟩ := hrel
    have HN := Lib.hid hny
    have HG := Lib.hid hg
    clear hny hg
    by_cases hkm : k < m
    · have d1 : (k : Int) < (m : Int) := by omega
      have hpk : ps[k]? = some ps[k] := List.getElem?_eq_getElem (by omega)
      have hmem : ps[k] ∈ ps := List.getElem_mem _
      obtain ⟨p, hpe⟩ : ∃ p, ps[k]'(by omega) = p := ⟨_, rfl⟩
      rw [hpe] at hpk hmem
      obtain ⟨q0, q1, q2, q3⟩ := HP.out.cell hpk
      have hst := HPS.out p hmem
      obtain rfl : a = some ⟨g, 0, none⟩ := by rcases HP.out.where_ with h | h; (· omega); (· exact h)
      have HK := Lib.hid hpk
      by_cases hn : p.node = name
      · by_cases ht : p.there = true
        · have hr : rst p = p.state := by unfold rst; rw [if_pos ht]
          rw [hr] at q2
          have hs0 := hst ht
          have HS := Lib.hid (st_some HN.out HK.out hn ht)
          have hnb : (p.node == name) = true := by rw [beq_iff_eq]; exact hn
          generalize p.node = x at *
          generalize p.state = y at *
          have HX := Lib.hid hn
          clear hpk hmem hpe hst ht hr hn q1 q3
          go_wp2_with fail
          go_ret2
          rw [HS.out.1, HS.out.2]
          exact ⟨rfl, rfl⟩
        · have hr : rst p = -1 := by unfold rst; rw [if_neg ht]
          rw [hr] at q2
          have hnb : (p.node == name) = true := by rw [beq_iff_eq]; exact hn
          have HT := Lib.hid ht
          generalize hx : p.node = x at *
          clear hpk hmem hpe hst ht hr hn hx q1 q3
          go_wp2_with fail
          go_roundg (m - (k + 1))
          case measure => have := HG.out; omega
          case rel =>
            refine ⟨k + 1, by omega, rfl, by go_num, rfl, fun i p' hi he hh => ?_⟩
            by_cases hik : i = k
            · subst hik
              have := HK.out
              rw [he] at this
              cases this
              exact HT.out hh.2
            · exact HN.out i p' (by omega) he hh
      · have hnb : (p.node == name) = false := by rw [beq_eq_false_iff_ne]; exact hn
        have HT := Lib.hid hn
        generalize hx : p.node = x at *
        have HX := Lib.hid hx
        clear hpk hmem hpe hst hn hx q1 q2 q3
        go_wp2_with fail
        go_roundg (m - (k + 1))
        case measure => have := HG.out; omega
        case rel =>
          refine ⟨k + 1, by omega, rfl, by go_num, rfl, fun i p' hi he hh => ?_⟩
          by_cases hik : i = k
          · subst hik
            have := HK.out
            rw [he] at this
            cases this
            exact HT.out (HX.out ▸ hh.1)
          · exact HN.out i p' (by omega) he hh
    · obtain rfl : k = m := by omega
      have HS := Lib.hid (st_none (ps := ps) (node := name) (by rw [hlen]; exact HN.out))
      go_wp2_with fail
      go_ret2
      rw [HS.out.1, HS.out.2]
      exact ⟨rfl, rfl⟩
end Go.Proofs.Ytpnnmcicpjebmaa
