/-
  CONTRACT of the document's Tick.
-/
import Derived.Test.YtcicmpegajahkaaRefClk
set_option linter.unusedSimpArgs false
set_option linter.unusedVariables false
namespace Go.Proofs.Ytcicmpegajahkaa
open Go.RowKit
attribute [local go_sem] Oper.semAt_some

def rtK (L A : Nat → Int) (i : Nat) (j : Nat) : Int := if j < i then tickL L A j else L j
def outR (L : Nat → Int) (i : Nat) : List Nat := (List.range i).filter fun j => decide (L j = 1)
theorem outR_succ (L : Nat → Int) (i : Nat) : outR L (i + 1) = outR L i ++ if L i = 1 then [i] else [] := by
  unfold outR
  rw [List.range_succ, List.filter_append]
  by_cases h : L i = 1 <;> simp [h]
theorem outR_le (L : Nat → Int) (i : Nat) : (outR L i).length ≤ i := by
  unfold outR
  exact Nat.le_trans (List.length_filter_le _ _) (by simp)
theorem rtK_succ (L A : Nat → Int) (i j : Nat) : rtK L A (i + 1) j = if j = i then tickL L A j else rtK L A i j := by
  unfold rtK
  by_cases h : j = i
  · subst h; simp
  · rw [if_neg h]
    by_cases h2 : j < i
    · rw [if_pos h2, if_pos (by omega)]
    · rw [if_neg h2, if_neg (by omega)]
theorem rtK_at (L A : Nat → Int) (i : Nat) : rtK L A i i = L i := by unfold rtK; rw [if_neg (by omega)]

set_option maxRecDepth 100000 in
set_option maxHeartbeats 4000000 in
theorem rtick_any (c : Nat) (L A : Nat → Int) (w : World) (h : RClk w c L A) (hL : ∀ i, i < 16 → 0 ≤ L i ∧ L i ≤ 1048576) :
    Calls Try.prog 21 #[.pointer (some ⟨c, 0, none⟩)] w fun e w' =>
      ∃ v, e = .returned v ∧ w'.ownsRow w.heap.size 3 1 v (tickOut L).length (iv (tickOut L)) ∧ RClk w' c (tickL L A) A ∧ Upd (· = c) w w' := by
  have hcl := h.lt
  have HC0 := Lib.hid h
  have HLB := Lib.hid hL
  clear h hL
  go_enter Try.func21, Try.ntmps21
  go_wp2_with fail
  go_loopw [3, 4] (fun o i wr => ∃ k : Nat, k ≤ 16 ∧ i = .int .i64 k ∧ wr.ownsRow w.heap.size 3 1 o (outR L k).length (iv (outR L k)) ∧ RClk wr c (rtK L A k) A ∧ Upd (· = c) w wr) (fun _ i _ => 16 - (intOf i).toNat)
  case atStart => exact ⟨0, by omega, rfl, by simpa [outR, iv] using World.ownsRow_nil w w.heap.size 3 1, HC0.out.ext (fun i _ => by simp [rtK]) (fun _ _ => rfl), Upd.refl _ _⟩
  case round =>
    obtain ⟨k, hk, rfl, hown, hC, hu⟩ := hrel
    obtain ⟨ao, cap, rfl⟩ := row_slice hown
    have hsz := hu.size
    have HO := Lib.hid hown
    have HC := Lib.hid hC
    have HU := Lib.hid hu
    clear hown hC hu
    by_cases hk16 : k < 16
    · have d1 : (k : Int) < 16 := by omega
      have c0 := HC.out.left k hk16
      rw [rtK_at] at c0
      have c1 := HC.out.again k hk16
      have f0 := HC.out.free k
      have hx := HLB.out k hk16
      obtain ⟨x, hxx⟩ : ∃ x, L k = x := ⟨_, rfl⟩
      have HX := Lib.hid hxx
      rw [hxx] at c0 hx
      obtain ⟨hx0, hx1⟩ := hx
      have hol := outR_le L k
      have HOS := Lib.hid (outR_succ L k)
      have HRS := Lib.hid (rtK_succ L A k)
      generalize hy : A k = y at *
      have HY := Lib.hid hy
      clear hxx hy
      by_cases hz : x = 0
      · subst hz
        go_wp2_with fail
        go_roundw
        case rel =>
          refine ⟨k + 1, by omega, by go_num, ?_, HC.out.ext (fun i hi => ?_) (fun _ _ => rfl), HU.out⟩
          · rw [HOS.out, HX.out, if_neg (by omega), List.append_nil]; exact HO.out
          · rw [HRS.out]
            by_cases e : i = k
            · subst e; rw [if_pos rfl, rtK_at]; unfold tickL; rw [HX.out]; simp
            · rw [if_neg e]
        case measure => simp [intOf]; omega
      · have hzb : (x == 0) = false := by rw [beq_eq_false_iff_ne]; exact hz
        have hw1 : IntKind.i64.wrap (x - 1) = x - 1 := IntWalk.i64_in _ (by omega)
        go_wp2_with fail
        go_region
        have hC2 := HC.out.setL k hk16 (x - 1)
        have hO2 := ownsRow_setCell_below HO.out (a := ⟨c, k, none⟩) (by simp; omega) (.int .i64 (x - 1))
        have HC2 := Lib.hid hC2
        have HO2 := Lib.hid hO2
        have hcr := HC.out.lt
        clear hC2 hO2
        by_cases h1 : x = 1
        · subst h1
          have c2 : ((wr.setCell ⟨c, k, none⟩ (.int .i64 (1 - 1))).drew).cell? ⟨c, k, none⟩ = some (.int .i64 0) := by
            have := HC2.out.left k hk16
            rw [if_pos rfl] at this
            exact this
          go_wp2_with (at_builtin; refine wpList_append_any rfl (.tmp 35) (.tmp 37) 30 rfl w.heap.size 3 (.int .i64 0) 1 8 Try.underlying30 info_int rfl (by decide) _ _ _ rfl (HO2.out.drew.alloc _) (some ⟨wr.heap.size, 0, none⟩) 1 1 [.int .i64 (k : Int)] rfl (fun h => by cases h) (by simp) ?c1 ?c2 ?c3 ?c4 ?c5 ?_)
          case c1 =>
            intro ad e i u hu
            cases e
            match i, hu with
            | 0, hu =>
              simp at hu
              subst hu
              have hnew : ((wr.setCell ⟨c, k, none⟩ (.int .i64 0)).alloc (.cells #[.int .i64 (k : Int)] 3)).heap[wr.heap.size]? = some (.cells #[.int .i64 (k : Int)] 3 (0, 0)) := anew _ _ (by simp)
              exact cells1 (w := ((wr.setCell ⟨c, k, none⟩ (.int .i64 0)).alloc (.cells #[.int .i64 (k : Int)] 3)).drew) hnew
          case c2 => intro u hu; simp at hu; subst hu; rfl
          case c3 => unfold maxLen; omega
          case c4 => omega
          case c5 => show w.heap.size ≤ ((wr.setCell ⟨c, k, none⟩ (.int .i64 0)).alloc (.cells #[.int .i64 (k : Int)] 3)).heap.size; simp; omega
          intro v' w1 hown' hg
          obtain ⟨g', cap', rfl, hg1, hg2⟩ := own_shape hown' (by omega)
          have hne : some c ≠ (Value.slice ao (outR L k).length cap).ownBlock := fun e => by
            have := (HO.out.lt c e.symm).1; omega
          have hC3 : RClk w1 c (fun j => if j = k then 0 else rtK L A k j) A := RClk.same (w := (wr.setCell ⟨c, k, none⟩ (.int .i64 0))) HC2.out ((hg.block c (by show c < ((wr.setCell ⟨c, k, none⟩ (.int .i64 0)).alloc (.cells #[.int .i64 (k : Int)] 3)).heap.size; simp; omega) hne).trans (new_past (wr.setCell ⟨c, k, none⟩ (.int .i64 0)) (.cells #[.int .i64 (k : Int)] 3) c (by simp; omega)))
          have hU3 : Upd (· = c) w w1 := (((HU.out.setCell (p := ⟨c, k, none⟩) (fun _ => rfl) _).alloc _).drew).grown hg (fun i e hi => by have := (HO.out.lt i e).1; omega)
          have e0 := hC3.left k hk16
          rw [if_pos rfl] at e0
          have e1 := hC3.again k hk16
          rw [HY.out] at e1
          have ef := hC3.free k
          have hc1 := hC3.lt
          have C3 := Lib.hid hC3
          have U3 := Lib.hid hU3
          have O3 := Lib.hid hown'
          clear hC3 hU3 hown' hg hne c2
          go_wp2_with fail
          go_region
          go_wp2_with fail
          go_roundw
          case rel =>
            refine ⟨k + 1, by omega, by go_num, ?_, (C3.out.setL k hk16 y).ext (fun i hi => ?_) (fun _ _ => rfl), (U3.out.setCell (p := ⟨c, k, none⟩) (fun _ => rfl) _).drew⟩
            · rw [HOS.out, HX.out, if_pos rfl]
              have e1 : (outR L k ++ [k]).length = (outR L k).length + 1 := by simp
              have e2 : iv (outR L k ++ [k]) = iv (outR L k) ++ [.int .i64 (k : Int)] := by simp [iv]
              rw [e1, e2]
              exact ownsRow_setCell_below O3.out (a := ⟨c, k, none⟩) (by simp; omega) _
            · rw [HRS.out]
              by_cases e : i = k
              · subst e; rw [if_pos rfl, if_pos rfl]; unfold tickL; rw [HX.out, if_pos (by omega), if_pos rfl, HY.out]
              · rw [if_neg e, if_neg e, if_neg e]
          case measure => simp [intOf]; omega
        · have h1b : (x - 1 == 0) = false := by rw [beq_eq_false_iff_ne]; omega
          go_wp2_with fail
          go_roundw
          case rel =>
            refine ⟨k + 1, by omega, by go_num, ?_, HC2.out.ext (fun i hi => ?_) (fun _ _ => rfl), (HU.out.setCell (p := ⟨c, k, none⟩) (fun _ => rfl) _).drew⟩
            · rw [HOS.out, HX.out, if_neg h1, List.append_nil]; exact HO2.out
            · rw [HRS.out]
              by_cases e : i = k
              · subst e; rw [if_pos rfl, if_pos rfl]; unfold tickL; rw [HX.out, if_pos (by omega), if_neg h1]
              · rw [if_neg e, if_neg e]
          case measure => simp [intOf]; omega
    · obtain rfl : k = 16 := by omega
      go_wp2_with fail
      go_ret
      exact ⟨_, rfl, HO.out, HC.out.ext (fun i hi => by unfold rtK; rw [if_pos hi]) (fun _ _ => rfl), HU.out⟩

theorem rtick_ints (c : Nat) (L A : Nat → Int) (w : World) (h : RClk w c L A) (hL : ∀ i, i < 16 → 0 ≤ L i ∧ L i ≤ 1048576) :
    Calls Try.prog 21 #[.pointer (some ⟨c, 0, none⟩)] w fun e w' =>
      ∃ a cap, e = .returned (.slice a (tickZ L).length cap) ∧ Ints w' a (tickZ L) ∧ (∀ k, blk a = some k → w.heap.size ≤ k) ∧ RClk w' c (tickL L A) A ∧ Upd (· = c) w w' := by
  refine (rtick_any c L A w h hL).mono ?_
  rintro e w' ⟨v, rfl, hown, hC, hu⟩
  have hlen : (tickZ L).length = (tickOut L).length := by simp [tickZ]
  by_cases h0 : (tickOut L).length = 0
  · obtain ⟨a, cap, rfl⟩ := row_slice hown
    refine ⟨a, cap, by rw [hlen], .inl (List.length_eq_zero_iff.1 (by omega)), ?_, hC, hu⟩
    intro k hk
    rcases hown.2 with ⟨e1, e2⟩ | ⟨g, cap', cur, e1, hb, _⟩
    · injection e1 with e1 _ _; subst e1; simp [blk] at hk
    · injection e1 with e1 _ _; subst e1; simp [blk] at hk; omega
  · obtain ⟨g, cap, rfl, hg, hglt⟩ := own_shape hown (by omega)
    refine ⟨_, cap, by rw [hlen], .inr ⟨g, 0, rfl, fun i hi => ?_⟩, ?_, hC, hu⟩
    · rw [Nat.zero_add, hown.cellAt i (by omega)]
      simp [iv, tickZ] at hi ⊢
      exact ⟨_, List.getElem?_eq_getElem hi, rfl⟩
    · intro k hk; simp [blk] at hk; omega
end Go.Proofs.Ytcicmpegajahkaa
