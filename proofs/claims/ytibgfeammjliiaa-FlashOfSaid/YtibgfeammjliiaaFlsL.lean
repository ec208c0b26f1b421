/-
  A flash in memory: what is left, for walks that only read; the row of a sector's wear.
-/
import Derived.Test.YtibgfeammjliiaaNilF
set_option linter.unusedSimpArgs false
set_option linter.unusedVariables false
namespace Go.Proofs.Ytibgfeammjliiaa
open Go.RowKit
attribute [local go_sem] Oper.semAt_some

set_option maxRecDepth 100000 in
theorem left_q (B : Nat) (bv wv : Value) (bs ws : List Int) (most : Int) (off : Bool) (ahead mask ops : Int) (s : Int) (w : World) (h : Fls w B bv wv bs ws most off ahead mask ops) (hm : 0 ≤ most ∧ most ≤ 9223372036854775807) (hw : ∀ z ∈ ws, 0 ≤ z ∧ z ≤ most) :
    Calls Try.prog 13 #[.pointer (some ⟨B, 0, none⟩), .int .i64 s] w fun e w' => e = .returned (.int .i64 (leftZ most ws s)) ∧ ∃ m, w' = w.drewN m := by
  by_cases hs : 0 ≤ s ∧ s < (ws.length : Int)
  · obtain ⟨k, rfl⟩ : ∃ k : Nat, s = (k : Int) := ⟨s.toNat, by omega⟩
    have hk : k < ws.length := by omega
    have HT := Lib.hid (there_yes B bv wv bs ws most off ahead mask ops k w h hk)
    obtain ⟨a, c, rfl, _, hac, hcm⟩ := h.2.2.shape
    obtain ⟨g, rfl⟩ := h.2.2.at0 (by omega)
    obtain ⟨z, hz⟩ : ∃ z, ws[k]? = some z := ⟨_, List.getElem?_eq_getElem hk⟩
    have hzm := hw z (List.mem_of_getElem? hz)
    have cz : w.cell? ⟨g, k, none⟩ = some (.int .i64 z) := h.2.2.cell (by unfold iv; rw [List.getElem?_map, hz]; rfl)
    have e : leftZ most ws (k : Int) = most - z := by unfold leftZ; rw [if_pos hs]; simp [List.getD, hz]
    rw [e]
    obtain ⟨c0, c1, c2, c3, c4, c5, c6⟩ := cells7 h.1
    have d1 : (k : Int) < (ws.length : Int) := by omega
    clear h e hz hs hw
    go_enter Try.func13, Try.ntmps13
    go_wp2_with fail
    refine HT.out.mono ?_
    rintro e w1 ⟨rfl, rfl⟩
    go_wp2_with fail
    go_quiet (fail)
    go_wp2_with fail
    go_ret
    exact ⟨rfl, _, rfl⟩
  · have HT := Lib.hid (there_no B bv wv bs ws most off ahead mask ops s w h hs)
    have e : leftZ most ws s = 0 := by unfold leftZ; rw [if_neg hs]
    rw [e]
    clear h e hs
    go_enter Try.func13, Try.ntmps13
    go_wp2_with fail
    refine HT.out.mono ?_
    rintro e w1 ⟨rfl, rfl⟩
    go_wp2_with fail
    go_ret
    exact ⟨rfl, 0, by rfl⟩
theorem Fls.drewN {w : World} {B : Nat} {bv wv : Value} {bs ws : List Int} {most : Int} {off : Bool} {ahead mask ops : Int} (h : Fls w B bv wv bs ws most off ahead mask ops) (N : Nat) : Fls (w.drewN N) B bv wv bs ws most off ahead mask ops :=
  h.upd ((Upd.refl (fun _ => False) w).drewN N) (fun h => h) (fun _ _ h => h) (fun _ _ h => h)
theorem and_zero (z : Int) : bits .and .u8 z 0 = 0 := by
  simp [bits, IntKind.wrap]
  intro h; exact absurd h (by decide)
end Go.Proofs.Ytibgfeammjliiaa
