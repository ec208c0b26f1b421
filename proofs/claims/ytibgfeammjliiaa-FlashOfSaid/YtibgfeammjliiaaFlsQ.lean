/-
  CONTRACTS of the references' flash: Of, Worn, Left.
-/
import Derived.Test.YtibgfeammjliiaaFlsO
set_option linter.unusedSimpArgs false
set_option linter.unusedVariables false
namespace Go.Proofs.Ytibgfeammjliiaa
open Go.RowKit
attribute [local go_sem] Oper.semAt_some

/-- A flash of the references in block R. -/
def RFls (w : World) (R : Nat) (bv wv : Value) (bs ws : List Int) (most : Int) (off : Bool) (ahead mask ops : Int) : Prop :=
  w.heap[R]? = some (.cells #[bv, wv, .int .i64 most, .bool off, .int .i64 ahead, .int .u32 mask, .int .i64 ops] 63 (0, 0)) ∧ Lax w 5 1 bv bs.length (zv bs) ∧ Lax w 3 1 wv ws.length (iv ws)

section
variable {w : World} {R : Nat} {bv wv : Value} {bs ws : List Int} {most : Int} {off : Bool} {ahead mask ops : Int}
theorem RFls.upd {S : Nat → Prop} {w' : World} (h : RFls w R bv wv bs ws most off ahead mask ops) (hu : Upd S w w') (h1 : ¬ S R) (h2 : ∀ j, bv.ownBlock = some j → ¬ S j) (h3 : ∀ j, wv.ownBlock = some j → ¬ S j) : RFls w' R bv wv bs ws most off ahead mask ops :=
  ⟨hu.block_some h.1 h1, h.2.1.upd hu h2, h.2.2.upd hu h3⟩
theorem RFls.below {w' : World} (h : RFls w R bv wv bs ws most off ahead mask ops) (hb : Below w.heap.size w w') : RFls w' R bv wv bs ws most off ahead mask ops :=
  h.upd (Upd.ofBelow' (S := fun _ => False) hb) (fun x => x) (fun _ _ x => x) (fun _ _ x => x)
theorem RFls.drewN (h : RFls w R bv wv bs ws most off ahead mask ops) (N : Nat) : RFls (w.drewN N) R bv wv bs ws most off ahead mask ops :=
  h.upd ((Upd.refl (fun _ => False) w).drewN N) (fun h => h) (fun _ _ h => h) (fun _ _ h => h)
end

set_option maxRecDepth 100000 in
theorem rworn_any (R : Nat) (bv wv : Value) (bs ws : List Int) (most : Int) (off : Bool) (ahead mask ops : Int) (s : Int) (w : World) (h : RFls w R bv wv bs ws most off ahead mask ops) :
    Calls Try.prog 37 #[.pointer (some ⟨R, 0, none⟩), .int .i64 s] w fun e w' => e = .returned (.int .i64 (wornZ ws s)) ∧ w = w' := by
  obtain ⟨c0, c1, c2, c3, c4, c5, c6⟩ := cells7 h.1
  obtain ⟨a, c, rfl, _, hac, hcm⟩ := h.2.2.shape
  by_cases hs : 0 ≤ s ∧ s < (ws.length : Int)
  · obtain ⟨k, rfl⟩ : ∃ k : Nat, s = (k : Int) := ⟨s.toNat, by omega⟩
    have hk : k < ws.length := by omega
    obtain ⟨g, rfl⟩ := h.2.2.at0 (by omega)
    obtain ⟨z, hz⟩ : ∃ z, ws[k]? = some z := ⟨_, List.getElem?_eq_getElem hk⟩
    have cz : w.cell? ⟨g, k, none⟩ = some (.int .i64 z) := h.2.2.cell (by unfold iv; rw [List.getElem?_map, hz]; rfl)
    have e : wornZ ws (k : Int) = z := by unfold wornZ; rw [if_pos hs]; simp [List.getD, hz]
    rw [e]
    have d1 : (k : Int) < (ws.length : Int) := by omega
    clear h e hz hs
    go_enter Try.func37, Try.ntmps37
    go_wp2_with fail
    go_ret
    exact ⟨rfl, rfl⟩
  · have e : wornZ ws s = 0 := by unfold wornZ; rw [if_neg hs]
    rw [e]
    clear h e
    by_cases h0 : 0 ≤ s
    · have d1 : (ws.length : Int) ≤ s := by omega
      clear hs
      go_enter Try.func37, Try.ntmps37
      go_wp2_with fail
      go_ret
      exact ⟨rfl, rfl⟩
    · have d1 : s < 0 := by omega
      clear hs h0
      go_enter Try.func37, Try.ntmps37
      go_wp2_with fail
      go_ret
      exact ⟨rfl, rfl⟩
set_option maxRecDepth 100000 in
theorem rleft_q (R : Nat) (bv wv : Value) (bs ws : List Int) (most : Int) (off : Bool) (ahead mask ops : Int) (s : Int) (w : World) (h : RFls w R bv wv bs ws most off ahead mask ops) (hm : 0 ≤ most ∧ most ≤ 9223372036854775807) (hw : ∀ z ∈ ws, 0 ≤ z ∧ z ≤ most) :
    Calls Try.prog 38 #[.pointer (some ⟨R, 0, none⟩), .int .i64 s] w fun e w' => e = .returned (.int .i64 (leftZ most ws s)) ∧ ∃ m, w' = w.drewN m := by
  obtain ⟨c0, c1, c2, c3, c4, c5, c6⟩ := cells7 h.1
  obtain ⟨a, c, rfl, _, hac, hcm⟩ := h.2.2.shape
  by_cases hs : 0 ≤ s ∧ s < (ws.length : Int)
  · obtain ⟨k, rfl⟩ : ∃ k : Nat, s = (k : Int) := ⟨s.toNat, by omega⟩
    have hk : k < ws.length := by omega
    obtain ⟨g, rfl⟩ := h.2.2.at0 (by omega)
    obtain ⟨z, hz⟩ : ∃ z, ws[k]? = some z := ⟨_, List.getElem?_eq_getElem hk⟩
    have hzm := hw z (List.mem_of_getElem? hz)
    have cz : w.cell? ⟨g, k, none⟩ = some (.int .i64 z) := h.2.2.cell (by unfold iv; rw [List.getElem?_map, hz]; rfl)
    have e : leftZ most ws (k : Int) = most - z := by unfold leftZ; rw [if_pos hs]; simp [List.getD, hz]
    rw [e]
    have hwr : IntKind.i64.wrap (most - z) = most - z := IntWalk.i64_in _ (by omega)
    have d1 : (k : Int) < (ws.length : Int) := by omega
    clear h e hz hs hw
    go_enter Try.func38, Try.ntmps38
    go_wp2_with fail
    go_quiet (fail)
    go_wp2_with fail
    go_ret
    exact ⟨rfl, _, rfl⟩
  · have e : leftZ most ws s = 0 := by unfold leftZ; rw [if_neg hs]
    rw [e]
    clear h e hw
    by_cases h0 : 0 ≤ s
    · have d1 : (ws.length : Int) ≤ s := by omega
      clear hs
      go_enter Try.func38, Try.ntmps38
      go_wp2_with fail
      go_ret
      exact ⟨rfl, 0, rfl⟩
    · have d1 : s < 0 := by omega
      clear hs h0
      go_enter Try.func38, Try.ntmps38
      go_wp2_with fail
      go_ret
      exact ⟨rfl, 0, rfl⟩

theorem rof_no (a : Option Addr) (n c : Nat) (most : Int) (w : World) (hn : ¬ (0 < n ∧ n % 1024 = 0 ∧ n ≤ 8192 ∧ 1 ≤ most)) (hl : n ≤ 1000000) :
    Calls Try.prog 23 #[.slice a n c, .int .i64 most] w fun e w' => (∃ R, e = .returned (.tuple #[.pointer (some ⟨R, 0, none⟩), .bool false])) ∧ Below w.heap.size w w' := by
  obtain ⟨q, hq⟩ : ∃ q, n % 1024 = q := ⟨_, rfl⟩
  have d1 : (n : Int) % 1024 = (q : Int) := by omega
  rw [hq] at hn
  have hq1 : q < 1024 := by omega
  have HN := Lib.hid hn
  have HQ := Lib.hid hq
  have fin : ∀ X, Below w.heap.size w (w.alloc X) := fun X => (Below.refl _ w).alloc (Nat.le_refl _) X
  have FIN := Lib.hid fin
  have hl2 : (n : Int) ≤ 1000000 := by omega
  clear hn hq fin
  by_cases h0 : n = 0
  · subst h0
    go_enter Try.func23, Try.ntmps23
    go_wp2_with fail
    go_ret2
    exact ⟨⟨_, rfl⟩, FIN.out _⟩
  · have e0 : ((n : Int) == 0) = false := beq_eq_false_iff_ne.2 (by omega)
    by_cases h1 : q = 0
    · subst h1
      by_cases h2 : n ≤ 8192
      · have e2 : decide ((8192 : Int) < (n : Int)) = false := decide_eq_false (by omega)
        have e3 : decide (most < 1) = true := decide_eq_true (by have := HN.out; omega)
        clear h2 h0
        go_enter Try.func23, Try.ntmps23
        go_wp2_with fail
        go_ret2
        exact ⟨⟨_, rfl⟩, FIN.out _⟩
      · have e2 : decide ((8192 : Int) < (n : Int)) = true := decide_eq_true (by omega)
        clear h2 h0
        go_enter Try.func23, Try.ntmps23
        go_wp2_with fail
        go_ret2
        exact ⟨⟨_, rfl⟩, FIN.out _⟩
    · have e1 : ((q : Int) == 0) = false := beq_eq_false_iff_ne.2 (by omega)
      have e1' : ((q : Int) != 0) = true := bne_iff_ne.2 (by omega)
      clear h1 h0
      go_enter Try.func23, Try.ntmps23
      go_wp2_with fail
      go_ret2
      exact ⟨⟨_, rfl⟩, FIN.out _⟩
end Go.Proofs.Ytibgfeammjliiaa
