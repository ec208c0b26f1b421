/-
  The clock in memory, and the contract of its iterator.
-/
import Derived.Test.YtcicmpegajahkaaChecked
import Derived.Test.YtcicmpegajahkaaRange
set_option linter.unusedSimpArgs false
set_option linter.unusedVariables false
namespace Go.Proofs.Ytcicmpegajahkaa
open Go.RowKit
attribute [local go_sem] Oper.semAt_some

/-- A clock in block b: how many ticks each timer has left, and for how many it runs again. -/
def Clk (w : World) (b : Nat) (L A : Nat → Int) : Prop :=
  ∃ cs : Array Value, w.heap[b]? = some (.cells cs 49 (0, 0)) ∧ cs.size = 32 ∧ ∀ i, i < 16 → cs[i * 2]? = some (.int .i64 (L i)) ∧ cs[i * 2 + 1]? = some (.int .i64 (A i))

theorem Clk.left {w : World} {b : Nat} {L A : Nat → Int} (h : Clk w b L A) (i : Nat) (hi : i < 16) : w.cell? ⟨b, i * 2, none⟩ = some (.int .i64 (L i)) := by
  obtain ⟨cs, hh, hs, hc⟩ := h
  simp [World.cell?, hh, (hc i hi).1]
theorem Clk.again {w : World} {b : Nat} {L A : Nat → Int} (h : Clk w b L A) (i : Nat) (hi : i < 16) : w.cell? ⟨b, i * 2 + 1, none⟩ = some (.int .i64 (A i)) := by
  obtain ⟨cs, hh, hs, hc⟩ := h
  simp [World.cell?, hh, (hc i hi).2]
theorem Clk.free {w : World} {b : Nat} {L A : Nat → Int} (h : Clk w b L A) (o : Nat) : w.frozen? ⟨b, o, none⟩ = false := by
  obtain ⟨cs, hh, hs, hc⟩ := h
  simp [World.frozen?, hh]
theorem Clk.lt {w : World} {b : Nat} {L A : Nat → Int} (h : Clk w b L A) : b < w.heap.size := by
  obtain ⟨cs, hh, hs, hc⟩ := h
  exact lt_of_block hh
theorem Clk.same {w w' : World} {b : Nat} {L A : Nat → Int} (h : Clk w b L A) (hk : w'.heap[b]? = w.heap[b]?) : Clk w' b L A := by
  obtain ⟨cs, hh, hs, hc⟩ := h
  exact ⟨cs, hk.trans hh, hs, hc⟩

/-- The running timers. -/
def running (L : Nat → Int) : List Nat := (List.range 16).filter fun i => decide (0 < L i)
def cnt (L : Nat → Int) (i : Nat) : Nat := ((List.range i).filter fun i => decide (0 < L i)).length
theorem cnt_succ (L : Nat → Int) (i : Nat) : cnt L (i + 1) = cnt L i + if 0 < L i then 1 else 0 := by
  simp only [cnt, List.range_succ, List.filter_append, List.length_append]
  by_cases h : 0 < L i <;> simp [h]
theorem cnt_mono (L : Nat → Int) (i j : Nat) (h : i ≤ j) : cnt L i ≤ cnt L j := by
  obtain ⟨d, rfl⟩ : ∃ d, j = i + d := ⟨j - i, by omega⟩
  clear h
  induction d with
  | zero => exact Nat.le_refl _
  | succ d ih => rw [← Nat.add_assoc, cnt_succ]; omega
theorem running_length (L : Nat → Int) : (running L).length = cnt L 16 := rfl
theorem running_split (L : Nat → Int) (i : Nat) (hi : i < 16) (hp : 0 < L i) : ∃ r, running L = ((List.range i).filter fun i => decide (0 < L i)) ++ i :: r := by
  have : (List.range 16) = List.range i ++ i :: (List.range' (i + 1) (15 - i)) := by
    rw [List.range_eq_range', List.range_eq_range', show 16 = i + (1 + (15 - i)) from by omega, ← List.range'_append_1, Nat.add_comm 1, List.range'_succ]
    simp
  refine ⟨(List.range' (i + 1) (15 - i)).filter fun i => decide (0 < L i), ?_⟩
  unfold running
  rw [this, List.filter_append]
  simp [hp]
theorem running_get (L : Nat → Int) (i : Nat) (hi : i < 16) (hp : 0 < L i) : (running L)[cnt L i]? = some i := by
  obtain ⟨r, hr⟩ := running_split L i hi hp
  rw [hr]
  show (((List.range i).filter fun i => decide (0 < L i)) ++ i :: r)[((List.range i).filter fun i => decide (0 < L i)).length]? = some i
  rw [List.getElem?_append_right (Nat.le_refl _)]
  simp

def item (b i : Nat) : Array Value := #[.int .i64 (i : Int), .pointer (some ⟨b, i * 2, none⟩)]

/-- What the iterator reads between two rounds. -/
def RdC (B b : Nat) (L : Nat → Int) (k : Nat) (W : World) : Prop :=
  W.cell? ⟨B, 0, none⟩ = some (.pointer (some ⟨b, 0, none⟩)) ∧ ∀ i, i < 16 → k ≤ cnt L i → W.cell? ⟨b, i * 2, none⟩ = some (.int .i64 (L i))

set_option maxHeartbeats 1000000 in
theorem iter_any (B b : Nat) (L : Nat → Int) (w : World) : SeqL Try.prog 26 #[.pointer (some ⟨B, 0, none⟩)] ((running L).map (item b)) (RdC B b L) w := by
  intro l J Jx W _ hRd hY h0
  have HY := Lib.hid hY
  have HR := Lib.hid hRd
  have H0 := Lib.hid h0
  have hbx := (hRd 0 W h0).1
  clear hY hRd h0
  refine callsIn_of_wp Try.func26 rfl trivial ?_ rfl
  simp only [Try.ntmps26, List.size_toArray, List.length_cons, List.length_nil, Nat.reduceAdd, Nat.reduceSub, Array.replicate_succ, Array.replicate_zero, List.push_toArray, List.append_toArray, List.nil_append, List.cons_append]
  gi_wp2
  gi_loopw [3, 6] (fun _ v wr => ∃ i : Nat, i ≤ 16 ∧ v = .int .i64 (i : Int) ∧ J (cnt L i) wr) (fun _ v _ => 16 - (intOf v).toNat)
  case atStart => exact ⟨0, by omega, rfl, H0.out⟩
  case round =>
    obtain ⟨i, hi, rfl, hJ⟩ := hrel
    by_cases hlt : i < 16
    · obtain ⟨hb1, hb2⟩ := HR.out _ _ hJ
      have hc := hb2 i hlt (Nat.le_refl _)
      clear hb2
      have HJ := Lib.hid hJ
      clear hJ
      by_cases hp : 0 < L i
      · have hg := running_get L i hlt hp
        have hlen : cnt L i < (running L).length := (List.getElem?_eq_some_iff.1 hg).1
        have hy := HY.out (cnt L i) wr (by simpa using hlen) HJ.out
        rw [show ((running L).map (item b))[cnt L i]'(by simpa using hlen) = item b i from by simp [(List.getElem?_eq_some_iff.1 hg).2]] at hy
        obtain ⟨fn, tmps, assign, body, hy, hR⟩ := hy
        have HRR := Lib.hid hR
        unfold item at hy
        clear hR hg hlen
        gi_wp2
        refine ⟨rfl, HRR.out.mono ?_⟩
        rintro e W3 (⟨rfl, hJ3⟩ | ⟨rfl, hJx3⟩)
        · gi_wp2
          go_roundw
          case rel => exact ⟨i + 1, by omega, by go_num, by rw [cnt_succ, if_pos hp]; exact hJ3⟩
          case measure => simp [intOf]; omega
        · gi_wp2
          refine bodyPost_ret (results_none rfl _ _ _) rfl ?_
          exact ⟨⟨_, rfl⟩, .inr ⟨cnt L i + 1, by simp [running_length]; have := cnt_mono L (i + 1) 16 (by omega); rw [cnt_succ, if_pos hp] at this; exact this, hJx3⟩⟩
      · have hp' : L i ≤ 0 := by omega
        gi_wp2
        refine ⟨fun _ h => (by cases h), ?_⟩
        gi_wp2
        go_roundw
        case rel => exact ⟨i + 1, by omega, by go_num, by rw [cnt_succ, if_neg (by omega)]; exact HJ.out⟩
        case measure => simp [intOf]; omega
    · obtain rfl : i = 16 := by omega
      gi_wp2
      go_end0
      exact ⟨⟨_, rfl⟩, .inl (by simpa [running_length] using hJ)⟩
end Go.Proofs.Ytcicmpegajahkaa
