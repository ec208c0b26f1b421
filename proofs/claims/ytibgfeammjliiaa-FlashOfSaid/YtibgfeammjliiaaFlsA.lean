/-
  A flash in memory; CONTRACTS of the small methods.
-/
import Derived.Test.YtibgfeammjliiaaLax
import Derived.Test.YtibgfeammjliiaaSpoil
import Derived.BigQuiet
import Derived.Deep.QuietTactic
set_option linter.unusedSimpArgs false
set_option linter.unusedVariables false
namespace Go.Proofs.Ytibgfeammjliiaa
open Go.RowKit
attribute [local go_sem] Oper.semAt_some

def iv (l : List Int) : List Value := l.map (Value.int .i64)

/-- A flash in block B: its bytes, its wear. -/
def Fls (w : World) (B : Nat) (bv wv : Value) (bs ws : List Int) (most : Int) (off : Bool) (ahead mask ops : Int) : Prop :=
  w.heap[B]? = some (.cells #[bv, wv, .int .i64 most, .bool off, .int .i64 ahead, .int .u32 mask, .int .i64 ops] 60 (0, 0)) ∧ Lax w 5 1 bv bs.length (zv bs) ∧ Lax w 3 1 wv ws.length (iv ws)

theorem cells7 {w : World} {g : Nat} {a b c d e f h : Value} {t : TypeId} (k : w.heap[g]? = some (.cells #[a, b, c, d, e, f, h] t (0, 0))) :
    w.cell? ⟨g, 0, none⟩ = some a ∧ w.cell? ⟨g, 1, none⟩ = some b ∧ w.cell? ⟨g, 2, none⟩ = some c ∧ w.cell? ⟨g, 3, none⟩ = some d ∧ w.cell? ⟨g, 4, none⟩ = some e ∧ w.cell? ⟨g, 5, none⟩ = some f ∧ w.cell? ⟨g, 6, none⟩ = some h := by
  simp [World.cell?, k]

section
variable {w : World} {B : Nat} {bv wv : Value} {bs ws : List Int} {most : Int} {off : Bool} {ahead mask ops : Int}
theorem Fls.lt (h : Fls w B bv wv bs ws most off ahead mask ops) : B < w.heap.size := lt_of_block h.1
theorem Fls.upd {S : Nat → Prop} {w' : World} (h : Fls w B bv wv bs ws most off ahead mask ops) (hu : Upd S w w') (h1 : ¬ S B) (h2 : ∀ j, bv.ownBlock = some j → ¬ S j) (h3 : ∀ j, wv.ownBlock = some j → ¬ S j) : Fls w' B bv wv bs ws most off ahead mask ops :=
  ⟨hu.block_some h.1 h1, h.2.1.upd hu h2, h.2.2.upd hu h3⟩
theorem Fls.below {w' : World} (h : Fls w B bv wv bs ws most off ahead mask ops) (hb : Below w.heap.size w w') : Fls w' B bv wv bs ws most off ahead mask ops :=
  h.upd (Upd.ofBelow' (S := fun _ => False) hb) (fun x => x) (fun _ _ x => x) (fun _ _ x => x)
theorem lax_type {w : World} {e size n k t : Nat} {v : Value} {xs : List Value} {cs : Array Value} (h : Lax w e size v n xs) (hk : v.ownBlock = some k) (hc : w.heap[k]? = some (.cells cs t (0, 0))) : t = e := by
  obtain ⟨_, cur, hcur⟩ := h.lt k hk
  rw [hcur] at hc
  injection hc with hc
  injection hc with _ e2
  exact e2.symm
/-- The three blocks are apart. -/
theorem Fls.apart (h : Fls w B bv wv bs ws most off ahead mask ops) : (∀ j, bv.ownBlock = some j → j ≠ B ∧ wv.ownBlock ≠ some j) ∧ (∀ j, wv.ownBlock = some j → j ≠ B ∧ bv.ownBlock ≠ some j) := by
  refine ⟨fun j hj => ⟨fun e => ?_, fun e => ?_⟩, fun j hj => ⟨fun e => ?_, fun e => ?_⟩⟩
  · subst e; exact absurd (lax_type h.2.1 hj h.1) (by decide)
  · obtain ⟨_, cur, hc⟩ := h.2.1.lt j hj
    exact absurd (lax_type h.2.2 e hc) (by decide)
  · subst e; exact absurd (lax_type h.2.2 hj h.1) (by decide)
  · obtain ⟨_, cur, hc⟩ := h.2.1.lt j e
    exact absurd (lax_type h.2.2 hj hc) (by decide)
/-- A field of the flash is stored. -/
theorem Fls.field (h : Fls w B bv wv bs ws most off ahead mask ops) (i : Nat) (u : Value) {most' : Int} {off' : Bool} {ahead' mask' ops' : Int}
    (he : (#[bv, wv, .int .i64 most, .bool off, .int .i64 ahead, .int .u32 mask, .int .i64 ops] : Array Value).setIfInBounds i u = #[bv, wv, .int .i64 most', .bool off', .int .i64 ahead', .int .u32 mask', .int .i64 ops']) :
    Fls (w.setCell ⟨B, i, none⟩ u) B bv wv bs ws most' off' ahead' mask' ops' := by
  have hu := (Upd.refl (· = B) w).setCell (p := ⟨B, i, none⟩) (fun _ => rfl) u
  have ha := h.apart
  refine ⟨?_, h.2.1.upd hu (fun j hj => (ha.1 j hj).1), h.2.2.upd hu (fun j hj => (ha.2 j hj).1)⟩
  rw [← he]
  exact hset h.1 i u
end

/-- A cell of a row is stored. -/
theorem Lax.stored {w : World} {e g n c : Nat} {xs : List Value} (h : Lax w e 1 (.slice (some ⟨g, 0, none⟩) n c) n xs) (j : Nat) (hj : j < n) (u : Value) : Lax (w.setCell ⟨g, j, none⟩ u) e 1 (.slice (some ⟨g, 0, none⟩) n c) n (xs.set j u) := by
  refine ⟨by rw [List.length_set]; exact h.1, ?_⟩
  rcases h.2 with ⟨h0, _⟩ | ⟨g', cap, cur, e1, hh, h1, h2, h3, h4⟩
  · cases h0
  · cases e1
    refine .inr ⟨g, c, cur.setIfInBounds j u, rfl, hset hh j u, h1, h2, by simpa using h3, ?_⟩
    rw [Array.toList_setIfInBounds, List.take_set, h4]
theorem Lax.free {w : World} {e size g n c : Nat} {xs : List Value} (h : Lax w e size (.slice (some ⟨g, 0, none⟩) n c) n xs) (o : Nat) : w.frozen? ⟨g, o, none⟩ = false ∧ g < w.heap.size := by
  rcases h.2 with ⟨h0, _⟩ | ⟨g', cap, cur, e1, hh, _⟩
  · cases h0
  · cases e1; exact ⟨free_of hh o, lt_of_block hh⟩

theorem len_any (B : Nat) (bv wv : Value) (bs ws : List Int) (most : Int) (off : Bool) (ahead mask ops : Int) (w : World) (h : Fls w B bv wv bs ws most off ahead mask ops) :
    Calls Try.prog 26 #[.pointer (some ⟨B, 0, none⟩)] w fun e w' => e = .returned (.int .i64 (bs.length : Nat)) ∧ w = w' := by
  obtain ⟨a, c, rfl, _, hac, hcm⟩ := h.2.1.shape
  obtain ⟨c0, c1, c2, c3, c4, c5, c6⟩ := cells7 h.1
  clear h
  go_enter Try.func26, Try.ntmps26
  go_wp2_with fail
  go_ret
  exact ⟨rfl, rfl⟩
theorem sectors_any (B : Nat) (bv wv : Value) (bs ws : List Int) (most : Int) (off : Bool) (ahead mask ops : Int) (w : World) (h : Fls w B bv wv bs ws most off ahead mask ops) :
    Calls Try.prog 27 #[.pointer (some ⟨B, 0, none⟩)] w fun e w' => e = .returned (.int .i64 (ws.length : Nat)) ∧ w = w' := by
  obtain ⟨a, c, rfl, _, hac, hcm⟩ := h.2.2.shape
  obtain ⟨c0, c1, c2, c3, c4, c5, c6⟩ := cells7 h.1
  clear h
  go_enter Try.func27, Try.ntmps27
  go_wp2_with fail
  go_ret
  exact ⟨rfl, rfl⟩
theorem on_any (B : Nat) (bv wv : Value) (bs ws : List Int) (most : Int) (off : Bool) (ahead mask ops : Int) (w : World) (h : Fls w B bv wv bs ws most off ahead mask ops) :
    Calls Try.prog 19 #[.pointer (some ⟨B, 0, none⟩)] w fun e w' => e = .returned (.bool !off) ∧ w = w' := by
  obtain ⟨c0, c1, c2, c3, c4, c5, c6⟩ := cells7 h.1
  clear h
  go_enter Try.func19, Try.ntmps19
  go_wp2_with fail
  go_ret
  exact ⟨rfl, rfl⟩
theorem ops_any (B : Nat) (bv wv : Value) (bs ws : List Int) (most : Int) (off : Bool) (ahead mask ops : Int) (w : World) (h : Fls w B bv wv bs ws most off ahead mask ops) :
    Calls Try.prog 28 #[.pointer (some ⟨B, 0, none⟩)] w fun e w' => e = .returned (.int .i64 ops) ∧ w = w' := by
  obtain ⟨c0, c1, c2, c3, c4, c5, c6⟩ := cells7 h.1
  clear h
  go_enter Try.func28, Try.ntmps28
  go_wp2_with fail
  go_ret
  exact ⟨rfl, rfl⟩
theorem there_yes (B : Nat) (bv wv : Value) (bs ws : List Int) (most : Int) (off : Bool) (ahead mask ops : Int) (s : Nat) (w : World) (h : Fls w B bv wv bs ws most off ahead mask ops) (hs : s < ws.length) :
    Calls Try.prog 36 #[.pointer (some ⟨B, 0, none⟩), .int .i64 (s : Int)] w fun e w' => e = .returned (.bool true) ∧ w = w' := by
  obtain ⟨a, c, rfl, _, hac, hcm⟩ := h.2.2.shape
  obtain ⟨c0, c1, c2, c3, c4, c5, c6⟩ := cells7 h.1
  have d1 : (s : Int) < (ws.length : Int) := by omega
  have d0 : (0 : Int) ≤ (s : Int) := by omega
  clear h
  go_enter Try.func36, Try.ntmps36
  go_wp2_with fail
  go_ret
  exact ⟨rfl, rfl⟩
theorem there_no (B : Nat) (bv wv : Value) (bs ws : List Int) (most : Int) (off : Bool) (ahead mask ops : Int) (s : Int) (w : World) (h : Fls w B bv wv bs ws most off ahead mask ops) (hs : ¬ (0 ≤ s ∧ s < (ws.length : Int))) :
    Calls Try.prog 36 #[.pointer (some ⟨B, 0, none⟩), .int .i64 s] w fun e w' => e = .returned (.bool false) ∧ w = w' := by
  obtain ⟨a, c, rfl, _, hac, hcm⟩ := h.2.2.shape
  obtain ⟨c0, c1, c2, c3, c4, c5, c6⟩ := cells7 h.1
  clear h
  by_cases h0 : 0 ≤ s
  · have d1 : decide (s < (ws.length : Int)) = false := decide_eq_false (fun h => hs ⟨h0, h⟩)
    have d0 : decide (0 ≤ s) = true := decide_eq_true h0
    clear hs h0
    go_enter Try.func36, Try.ntmps36
    go_wp2_with fail
    go_ret
    exact ⟨rfl, rfl⟩
  · have d0 : decide (0 ≤ s) = false := decide_eq_false h0
    clear hs h0
    go_enter Try.func36, Try.ntmps36
    go_wp2_with fail
    go_ret
    exact ⟨rfl, rfl⟩
theorem there_nil (s : Int) (w : World) : Calls Try.prog 36 #[.pointer none, .int .i64 s] w fun e w' => e = .returned (.bool false) ∧ w = w' := by
  go_enter Try.func36, Try.ntmps36
  go_wp2_with fail
  go_ret
  exact ⟨rfl, rfl⟩

def wornZ (ws : List Int) (s : Int) : Int := if 0 ≤ s ∧ s < (ws.length : Int) then ws.getD s.toNat 0 else 0
def leftZ (most : Int) (ws : List Int) (s : Int) : Int := if 0 ≤ s ∧ s < (ws.length : Int) then most - ws.getD s.toNat 0 else 0

set_option maxRecDepth 100000 in
theorem worn_any (B : Nat) (bv wv : Value) (bs ws : List Int) (most : Int) (off : Bool) (ahead mask ops : Int) (s : Int) (w : World) (h : Fls w B bv wv bs ws most off ahead mask ops) :
    Calls Try.prog 12 #[.pointer (some ⟨B, 0, none⟩), .int .i64 s] w fun e w' => e = .returned (.int .i64 (wornZ ws s)) ∧ w = w' := by
  by_cases hs : 0 ≤ s ∧ s < (ws.length : Int)
  · obtain ⟨k, rfl⟩ : ∃ k : Nat, s = (k : Int) := ⟨s.toNat, by omega⟩
    have hk : k < ws.length := by omega
    have HT := Lib.hid (there_yes B bv wv bs ws most off ahead mask ops k w h hk)
    obtain ⟨a, c, rfl, _, hac, hcm⟩ := h.2.2.shape
    obtain ⟨g, rfl⟩ := h.2.2.at0 (by omega)
    obtain ⟨z, hz⟩ : ∃ z, ws[k]? = some z := ⟨_, List.getElem?_eq_getElem hk⟩
    have cz : w.cell? ⟨g, k, none⟩ = some (.int .i64 z) := h.2.2.cell (by unfold iv; rw [List.getElem?_map, hz]; rfl)
    have e : wornZ ws (k : Int) = z := by unfold wornZ; rw [if_pos hs]; simp [List.getD, hz]
    rw [e]
    obtain ⟨c0, c1, c2, c3, c4, c5, c6⟩ := cells7 h.1
    have d1 : (k : Int) < (ws.length : Int) := by omega
    clear h e hz hs
    go_enter Try.func12, Try.ntmps12
    go_wp2_with fail
    refine HT.out.mono ?_
    rintro e w1 ⟨rfl, rfl⟩
    go_wp2_with fail
    go_ret
    exact ⟨rfl, rfl⟩
  · have HT := Lib.hid (there_no B bv wv bs ws most off ahead mask ops s w h hs)
    have e : wornZ ws s = 0 := by unfold wornZ; rw [if_neg hs]
    rw [e]
    clear h e hs
    go_enter Try.func12, Try.ntmps12
    go_wp2_with fail
    refine HT.out.mono ?_
    rintro e w1 ⟨rfl, rfl⟩
    go_wp2_with fail
    go_ret
    exact ⟨rfl, rfl⟩
theorem worn_nil (s : Int) (w : World) : Calls Try.prog 12 #[.pointer none, .int .i64 s] w fun e w' => e = .returned (.int .i64 0) ∧ w = w' := by
  go_enter Try.func12, Try.ntmps12
  go_wp2_with fail
  refine (there_nil s _).mono ?_
  rintro e w1 ⟨rfl, rfl⟩
  go_wp2_with fail
  go_ret
  exact ⟨rfl, rfl⟩

set_option maxRecDepth 100000 in
theorem left_any (B : Nat) (bv wv : Value) (bs ws : List Int) (most : Int) (off : Bool) (ahead mask ops : Int) (s : Int) (w : World) (h : Fls w B bv wv bs ws most off ahead mask ops) (hm : 0 ≤ most ∧ most ≤ 9223372036854775807) (hw : ∀ z ∈ ws, 0 ≤ z ∧ z ≤ most) :
    Calls Try.prog 13 #[.pointer (some ⟨B, 0, none⟩), .int .i64 s] w fun e w' => e = .returned (.int .i64 (leftZ most ws s)) ∧ Below w.heap.size w w' := by
  by_cases hs : 0 ≤ s ∧ s < (ws.length : Int)
  · obtain ⟨k, rfl⟩ : ∃ k : Nat, s = (k : Int) := ⟨s.toNat, by omega⟩
    have hk : k < ws.length := by omega
    have HT := Lib.hid (there_yes B bv wv bs ws most off ahead mask ops k w h hk)
    obtain ⟨a, c, rfl, _, hac, hcm⟩ := h.2.2.shape
    obtain ⟨g, rfl⟩ := h.2.2.at0 (by omega)
    obtain ⟨z, hz⟩ : ∃ z, ws[k]? = some z := ⟨_, List.getElem?_eq_getElem hk⟩
    have hzm := hw z (List.mem_of_getElem? hz)
    have cz : w.cell? ⟨g, k, none⟩ = some (.int .i64 z) := h.2.2.cell (by unfold iv; rw [List.getElem?_map, hz]; rfl)
    have e : leftZ most ws (k : Int) = most - z := by unfold leftZ; rw [if_pos hs]; simp [List.getD, hz]
    rw [e]
    have hwr : IntKind.i64.wrap (most - z) = most - z := IntWalk.i64_in _ (by omega)
    obtain ⟨c0, c1, c2, c3, c4, c5, c6⟩ := cells7 h.1
    have d1 : (k : Int) < (ws.length : Int) := by omega
    clear h e hz hs hw
    go_enter Try.func13, Try.ntmps13
    go_wp2_with fail
    refine HT.out.mono ?_
    rintro e w1 ⟨rfl, rfl⟩
    go_wp2_with fail
    go_quiet (fail)
    go_wp2_with fail
    go_ret
    exact ⟨rfl, ⟨rfl, rfl, rfl, Nat.le_refl _, fun _ _ => rfl⟩⟩
  · have HT := Lib.hid (there_no B bv wv bs ws most off ahead mask ops s w h hs)
    have e : leftZ most ws s = 0 := by unfold leftZ; rw [if_neg hs]
    rw [e]
    clear h e hs
    go_enter Try.func13, Try.ntmps13
    go_wp2_with fail
    refine HT.out.mono ?_
    rintro e w1 ⟨rfl, rfl⟩
    go_wp2_with fail
    go_ret
    exact ⟨rfl, Below.refl _ _⟩
theorem left_nil (s : Int) (w : World) : Calls Try.prog 13 #[.pointer none, .int .i64 s] w fun e w' => e = .returned (.int .i64 0) ∧ w = w' := by
  go_enter Try.func13, Try.ntmps13
  go_wp2_with fail
  refine (there_nil s _).mono ?_
  rintro e w1 ⟨rfl, rfl⟩
  go_wp2_with fail
  go_ret
  exact ⟨rfl, rfl⟩

theorem start_any (B : Nat) (bv wv : Value) (bs ws : List Int) (most : Int) (off : Bool) (ahead mask ops : Int) (w : World) (h : Fls w B bv wv bs ws most off ahead mask ops) :
    Calls Try.prog 20 #[.pointer (some ⟨B, 0, none⟩)] w fun e w' => e = .returned (.tuple #[]) ∧ Fls w' B bv wv bs ws most false ahead mask ops ∧ Upd (· = B) w w' := by
  obtain ⟨c0, c1, c2, c3, c4, c5, c6⟩ := cells7 h.1
  have f3 := free_of h.1 3
  have HF := Lib.hid (h.field 3 (.bool false) (most' := most) (off' := false) (ahead' := ahead) (mask' := mask) (ops' := ops) rfl)
  have HU := Lib.hid ((Upd.refl (· = B) w).setCell (p := ⟨B, 3, none⟩) (fun _ => rfl) (.bool false))
  clear h
  go_enter Try.func20, Try.ntmps20
  go_wp2_with fail
  go_end0
  exact ⟨rfl, HF.out, HU.out⟩
theorem cut_any (B : Nat) (bv wv : Value) (bs ws : List Int) (most : Int) (off : Bool) (ahead mask ops : Int) (n m : Int) (w : World) (h : Fls w B bv wv bs ws most off ahead mask ops) (hn : 0 ≤ n) :
    Calls Try.prog 18 #[.pointer (some ⟨B, 0, none⟩), .int .i64 n, .int .u32 m] w fun e w' => e = .returned (.int .i64 0) ∧ Fls w' B bv wv bs ws most off n m ops ∧ Upd (· = B) w w' := by
  obtain ⟨c0, c1, c2, c3, c4, c5, c6⟩ := cells7 h.1
  have f4 := free_of h.1 4
  have f5 := free_of h.1 5
  have d1 : decide (n < 0) = false := decide_eq_false (by omega)
  have h2 := h.field 4 (.int .i64 n) (most' := most) (off' := off) (ahead' := n) (mask' := mask) (ops' := ops) rfl
  have HF := Lib.hid (h2.field 5 (.int .u32 m) (most' := most) (off' := off) (ahead' := n) (mask' := m) (ops' := ops) rfl)
  have HU := Lib.hid (((Upd.refl (· = B) w).setCell (p := ⟨B, 4, none⟩) (fun _ => rfl) (.int .i64 n)).setCell (p := ⟨B, 5, none⟩) (fun _ => rfl) (.int .u32 m))
  clear h h2
  go_enter Try.func18, Try.ntmps18
  go_wp2_with fail
  go_ret
  exact ⟨rfl, HF.out, HU.out⟩
end Go.Proofs.Ytibgfeammjliiaa
