/-
  CONTRACTS of the clock's functions.
-/
import Derived.Test.YtcicmpegajahkaaClk
set_option linter.unusedSimpArgs false
set_option linter.unusedVariables false
namespace Go.Proofs.Ytcicmpegajahkaa
open Go.RowKit
attribute [local go_sem] Oper.semAt_some

theorem running_any (p : Option Addr) (w : World) :
    Calls Try.prog 24 #[.pointer p] w fun e w' => e = .returned (.func (.func 26) #[] #[.pointer (some ⟨w.heap.size, 0, none⟩)]) ∧ w.alloc (.cells #[.pointer p] 23) = w' := by
  go_enter Try.func24, Try.ntmps24
  go_wp2
  go_ret
  exact ⟨rfl, rfl⟩

theorem Clk.own {B b : Nat} {L A : Nat → Nat → Int} : OwnFrom B (fun k W => Clk W b (L k) (A k)) :=
  fun _ _ _ _ h hg hr => by
    obtain ⟨cs, hh, hs, hc⟩ := h
    exact ⟨cs, blk_own hg hr hh, hs, hc⟩
theorem Clk.upd {w w' : World} {b : Nat} {L A : Nat → Int} {S : Nat → Prop} (h : Clk w b L A) (hu : Upd S w w') (hn : ¬ S b) : Clk w' b L A := h.same (hu.block b h.lt hn)
theorem Clk.setCell_other {w : World} {b : Nat} {L A : Nat → Int} (h : Clk w b L A) {a : Addr} (hn : b ≠ a.block) (u : Value) : Clk (w.setCell a u) b L A := h.same (Below.heap_setCell w a u b hn)
theorem Clk.putObj {w : World} {b : Nat} {L A : Nat → Int} (h : Clk w b L A) {D : Nat} (hn : b ≠ D) (x : Obj) : Clk (w.putObj D x) b L A := h.same (World.putObj_heap_other hn)

/-- What has been found: the answer of Left. -/
def hit (L : Nat → Int) (name : Int) : Prop := 0 ≤ name ∧ name < 16 ∧ 0 < L name.toNat
instance (L : Nat → Int) (name : Int) : Decidable (hit L name) := by unfold hit; infer_instance

def leftN (L : Nat → Int) (name : Int) : Int := if hit L name then L name.toNat else 0
def leftB (L : Nat → Int) (name : Int) : Bool := decide (hit L name)

theorem running_mem (L : Nat → Int) (k : Nat) (h : k < (running L).length) : (running L)[k] < 16 ∧ 0 < L (running L)[k] := by
  have : (running L)[k] ∈ running L := List.getElem_mem h
  simp only [running, List.mem_filter, List.mem_range, decide_eq_true_eq] at this
  exact this
theorem mem_running (L : Nat → Int) (name : Int) (h : hit L name) : ∃ k, k < (running L).length ∧ (running L)[k]? = some name.toNat := by
  obtain ⟨h0, h1, h2⟩ := h
  have : name.toNat ∈ running L := by simp only [running, List.mem_filter, List.mem_range, decide_eq_true_eq]; omega
  obtain ⟨k, hk, he⟩ := List.getElem_of_mem this
  exact ⟨k, hk, by rw [List.getElem?_eq_getElem hk, he]⟩

/-- None of the first k that run is name. -/
def NotYet (L : Nat → Int) (name : Int) (k : Nat) : Prop := ∀ i, i < k → (running L)[i]? = some name.toNat → ¬ 0 ≤ name

def leftTmps (b : Nat) (name : Int) (B : Nat) (j : Nat) : Array Value :=
  #[.pointer (some ⟨b, 0, none⟩), .int .i64 name, undef, .pointer (some ⟨B, 0, none⟩), .pointer (some ⟨B + 1, 0, none⟩), .pointer (some ⟨B + 1 + 1, 0, none⟩), .int .i64 (j : Int), .pointer (some ⟨b, j * 2, none⟩), .pointer (some ⟨b, 0, none⟩),
    .func (.func 26) #[] #[.pointer (some ⟨B + 1 + 1 + 1, 0, none⟩)], .int .i64 (j : Int), .pointer (some ⟨b, j * 2, none⟩), undef, undef, undef, undef, undef, undef, undef]

set_option maxHeartbeats 1000000 in
theorem left_any (b : Nat) (L A : Nat → Int) (name : Int) (w : World) (h : Clk w b L A) :
    Calls Try.prog 12 #[.pointer (some ⟨b, 0, none⟩), .int .i64 name] w fun e w' =>
      e = .returned (.tuple #[.int .i64 (leftN L name), .bool (leftB L name)]) ∧ Below w.heap.size w w' := by
  have hbl := h.lt
  refine callsIn_wide (n := 0) |>.1 ?_
  refine callsIn_of_wp_marks Try.func12 rfl trivial ?_ rfl
  simp only [Try.ntmps12, List.size_toArray, List.length_cons, List.length_nil, Nat.reduceAdd, Nat.reduceSub, Array.replicate_succ, Array.replicate_zero, List.push_toArray, List.append_toArray, List.nil_append, List.cons_append]
  gi_wp2_with fail
  refine ⟨trivial, rfl, (callsIn_wide.2 (running_any _ _)).mono ?_⟩
  rintro e w' ⟨rfl, rfl⟩
  gi_wp2_with fail
  obtain ⟨h0, h1, h2, h3, hs, hb⟩ := new4 w (.cells #[.int .i64 name] 3) (.cells #[.int .i64 0] 3) (.cells #[.bool false] 4) (.cells #[.pointer (some ⟨b, 0, none⟩)] 23)
  have hc : Clk ((((w.alloc (.cells #[.int .i64 name] 3)).alloc (.cells #[.int .i64 0] 3)).alloc (.cells #[.bool false] 4)).alloc (.cells #[.pointer (some ⟨b, 0, none⟩)] 23)) b L A := h.same (hb.block b hbl)
  obtain ⟨W0, hW0⟩ : ∃ W0, ((((w.alloc (.cells #[.int .i64 name] 3)).alloc (.cells #[.int .i64 0] 3)).alloc (.cells #[.bool false] 4)).alloc (.cells #[.pointer (some ⟨b, 0, none⟩)] 23)) = W0 := ⟨_, rfl⟩
  rw [hW0] at h0 h1 h2 h3 hs hb hc ⊢
  clear hW0
  refine wp_range (full := (running L).map (item b)) (Rd := RdC (w.heap.size + 3) b L) rfl (enters_of Try.func26 (by kernel_rfl) rfl) (iter_any (w.heap.size + 3) b L W0) (Below.refl _ _) (fun k hk => by simp [item])
    (fun k W => (W.heap[w.heap.size]? = some (.cells #[.int .i64 name] 3 (0, 0)) ∧ W.heap[w.heap.size + 1]? = some (.cells #[.int .i64 0] 3 (0, 0)) ∧ W.heap[w.heap.size + 2]? = some (.cells #[.bool false] 4 (0, 0)) ∧ W.heap[w.heap.size + 3]? = some (.cells #[.pointer (some ⟨b, 0, none⟩)] 23 (0, 0))) ∧ Clk W b L A ∧ Upd (fun _ => False) w W ∧ NotYet L name k)
    (fun c k W => c = .ret ∧ (W.heap[w.heap.size + 1]? = some (.cells #[.int .i64 (L name.toNat)] 3 (0, 0)) ∧ W.heap[w.heap.size + 2]? = some (.cells #[.bool true] 4 (0, 0))) ∧ Upd (fun _ => False) w W ∧ hit L name)
    ((((own_blk _ _).and ((own_blk _ _).and ((own_blk _ _).and (own_blk _ _)))).and (Clk.own.and ((own_upd (by omega)).and (own_pure _)))))
    (fun c => (own_pure _).and (((own_blk _ _).and (own_blk _ _)).and ((own_upd (by omega)).and (own_pure _))))
    (fun k W hI => ⟨cell_of_one hI.1.2.2.2, fun i hi _ => hI.2.1.left i hi⟩)
    ⟨⟨h0, h1, h2, h3⟩, hc, Upd.ofBelow' hb, fun i hi => absurd hi (Nat.not_lt_zero _)⟩
    (fun k => { tmps := leftTmps b name w.heap.size ((running L).getD k 0), defers := [] }) ?assign ?body ?done ?stop
  case assign =>
    intro l k hk W K hK
    have hk' : k < (running L).length := by simpa using hk
    have hj : ((running L).map (item b))[k] = item b ((running L).getD k 0) := by simp [List.getD, hk']
    rw [hj]
    generalize (running L).getD k 0 = j at *
    clear hk hj hk'
    unfold item leftTmps at *
    gi_wp2
    exact hK
  case body =>
    rintro l k W hk hsz ⟨⟨c0, c1, c2, c3⟩, hc, hu, hn⟩
    have hk' : k < (running L).length := by simpa using hk
    obtain ⟨hj1, hj2⟩ := running_mem L k hk'
    have hjk : (running L)[k]? = some ((running L).getD k 0) := by simp [List.getD, hk']
    have hje : (running L)[k] = (running L).getD k 0 := by simp [List.getD, hk']
    rw [hje] at hj1 hj2
    generalize (running L).getD k 0 = j at *
    have d0 := cell_of_one c0
    have d1 := cell_of_one c1
    have d2 := cell_of_one c2
    have f1 := free_of_one c1
    have f2 := free_of_one c2
    have dj := hc.left j hj1
    have HK := Lib.hid hjk
    have HC := Lib.hid (And.intro c0 (And.intro c1 (And.intro c2 c3)))
    clear hjk hje c0 c1 c2 c3
    unfold leftTmps
    by_cases hjn : (j : Int) = name
    · have ht : ((j : Int) == name) = true := by simp [hjn]
      have hh : hit L name := by subst hjn; exact ⟨by omega, by omega, by simpa using hj2⟩
      have e : name.toNat = j := by omega
      have HH := Lib.hid hh
      have E := Lib.hid e
      clear hh hjn e
      gi_wp2
      obtain ⟨c0, c1, c2, c3⟩ := HC.out
      refine ⟨(KeepsOthers.setCell _ _ _).trans (KeepsOthers.setCell _ _ _), rfl, ⟨?_, ?_⟩, (hu.setCell (p := ⟨w.heap.size + 1, 0, none⟩) (fun hlt => by simp at hlt; omega) _).setCell (p := ⟨w.heap.size + 2, 0, none⟩) (fun hlt => by simp at hlt; omega) _, HH.out⟩
      · rw [E.out]; exact one_setCell_other (one_setCell c1) (by simp) _
      · exact one_setCell (one_setCell_other c2 (by simp) _)
    · have ht : ((j : Int) == name) = false := by simp [hjn]
      have HJ := Lib.hid hjn
      clear hjn
      gi_wp2
      refine ⟨KeepsOthers.refl _, HC.out, hc, hu, fun i hi he hname => ?_⟩
      by_cases hik : i = k
      · subst hik
        rw [HK.out] at he
        have := HJ.out
        simp at he
        omega
      · exact hn i (by omega) he hname
  case done =>
    rintro D W hD ⟨⟨c0, c1, c2, c3⟩, hc, hu, hn⟩ hK
    have hno : ¬ hit L name := fun hh => by
      obtain ⟨k, hk, he⟩ := mem_running L name hh
      exact hn k (by simpa using hk) he hh.1
    have d1 := cell_of_one c1
    have d2 := cell_of_one c2
    have f1 := free_of_one c1
    have f2 := free_of_one c2
    have HK := Lib.hid hK
    have HN := Lib.hid hno
    have HC := Lib.hid (And.intro c1 c2)
    clear hno hn c0 c1 c2 c3 hK
    have hDn : w.heap.size + 2 < D := by omega
    have r1 := Lib.hid (show leftN L name = 0 from if_neg HN.out)
    have r2 := Lib.hid (show leftB L name = false from decide_eq_false HN.out)
    gi_wp2
    obtain ⟨c1, c2⟩ := HC.out
    have e1 := cell_of_one (putObj_other (one_setCell_other (b := w.heap.size + 1) (one_setCell c1 (u := .int .i64 0)) (a := ⟨w.heap.size + 2, 0, none⟩) (by simp) (.bool false)) (D := D) (by omega) (.deferred none))
    have e2 := cell_of_one (putObj_other (one_setCell (one_setCell_other c2 (a := ⟨w.heap.size + 1, 0, none⟩) (by simp) (.int .i64 0)) (u := .bool false)) (D := D) (by omega) (.deferred none))
    have hK2 := ((KeepsOthers.setCell W ⟨w.heap.size + 1, 0, none⟩ (.int .i64 0)).trans (KeepsOthers.setCell _ ⟨w.heap.size + 2, 0, none⟩ (.bool false))).same D _ HK.out rfl
    refine ⟨by simp, .inl ⟨_, _, rfl, run_takeDeferred hK2, ?_⟩⟩
    refine ⟨.tuple #[.int .i64 0, .bool false], ?_, ?_, ?_⟩
    · simp [results, Try.results12, go_sem, e1, e2]
    · rw [r1.out, r2.out]
    · exact ((((hu.setCell (p := ⟨w.heap.size + 1, 0, none⟩) (fun hlt => by simp at hlt; omega) _).setCell (p := ⟨w.heap.size + 2, 0, none⟩) (fun hlt => by simp at hlt; omega) _).putObj (by omega) _).toBelow (Nat.le_refl _) (fun _ _ h => h))
  case stop =>
    rintro D c k W hD hk ⟨rfl, ⟨c1, c2⟩, hu, hh⟩ hK
    have d1 := cell_of_one c1
    have d2 := cell_of_one c2
    have HK := Lib.hid hK
    have HH := Lib.hid hh
    have HC := Lib.hid (And.intro c1 c2)
    clear hh c1 c2 hK
    have r1 := Lib.hid (show leftN L name = L name.toNat from if_pos HH.out)
    have r2 := Lib.hid (show leftB L name = true from decide_eq_true HH.out)
    gi_wp2
    obtain ⟨c1, c2⟩ := HC.out
    have e1 := cell_of_one (putObj_other c1 (D := D) (by omega) (.deferred none))
    have e2 := cell_of_one (putObj_other c2 (D := D) (by omega) (.deferred none))
    refine ⟨by simp, .inl ⟨_, _, rfl, run_takeDeferred HK.out, ?_⟩⟩
    refine ⟨.tuple #[.int .i64 (L name.toNat), .bool true], ?_, ?_, ?_⟩
    · simp [results, Try.results12, go_sem, e1, e2]
    · rw [r1.out, r2.out]
    · exact (hu.putObj (by omega) _).toBelow (Nat.le_refl _) (fun _ _ h => h)
end Go.Proofs.Ytcicmpegajahkaa
