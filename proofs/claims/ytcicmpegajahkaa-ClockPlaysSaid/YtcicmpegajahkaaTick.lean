/-
  CONTRACT of Tick.
-/
import Derived.Test.YtcicmpegajahkaaLeft
set_option linter.unusedSimpArgs false
set_option linter.unusedVariables false
namespace Go.Proofs.Ytcicmpegajahkaa
open Go.RowKit
attribute [local go_sem] Oper.semAt_some

def tickL (L A : Nat → Int) (i : Nat) : Int := if 0 < L i then (if L i = 1 then A i else L i - 1) else L i
def tickK (L A : Nat → Int) (k : Nat) (i : Nat) : Int := if cnt L i < k then tickL L A i else L i
def outK (L : Nat → Int) (k : Nat) : List Nat := ((running L).take k).filter fun i => decide (L i = 1)
def tickOut (L : Nat → Int) : List Nat := (List.range 16).filter fun i => decide (L i = 1)
def iv (l : List Nat) : List Value := l.map fun i : Nat => .int .i64 (i : Int)

theorem outK_all (L : Nat → Int) : outK L (running L).length = tickOut L := by
  unfold outK tickOut
  rw [List.take_of_length_le (Nat.le_refl _)]
  unfold running
  rw [List.filter_filter]
  congr 1
  funext i
  by_cases h : L i = 1 <;> simp [h]

theorem tickK_all (L A : Nat → Int) (i : Nat) (hi : i < 16) : tickK L A (running L).length i = tickL L A i := by
  unfold tickK
  by_cases h : cnt L i < (running L).length
  · rw [if_pos h]
  · rw [if_neg h]
    have hm := cnt_mono L (i + 1) 16 (by omega)
    rw [running_length] at h
    rw [cnt_succ] at hm
    have : ¬ 0 < L i := by intro hp; rw [if_pos hp] at hm; omega
    simp [tickL, this]

theorem running_cnt (L : Nat → Int) (k j : Nat) (h : (running L)[k]? = some j) : cnt L j = k := by
  have hk := (List.getElem?_eq_some_iff.1 h).1
  have hj : j < 16 ∧ 0 < L j := by
    have := running_mem L k hk
    rw [(List.getElem?_eq_some_iff.1 h).2] at this; exact this
  have h2 := running_get L j hj.1 hj.2
  have hlt : (running L).Pairwise (· < ·) := by unfold running; exact List.Pairwise.filter _ List.pairwise_lt_range
  obtain ⟨hk2, e2⟩ := List.getElem?_eq_some_iff.1 h2
  have e1 := (List.getElem?_eq_some_iff.1 h).2
  rw [List.pairwise_iff_getElem] at hlt
  rcases Nat.lt_trichotomy (cnt L j) k with h3 | h3 | h3
  · have := hlt _ _ hk2 hk h3; omega
  · exact h3
  · have := hlt _ _ hk hk2 h3; omega

theorem cnt_inj (L : Nat → Int) (i j : Nat) (hi : 0 < L i) (hj : 0 < L j) (h : cnt L i = cnt L j) : i = j := by
  rcases Nat.lt_trichotomy i j with hlt | rfl | hlt
  · have := cnt_mono L (i + 1) j hlt
    rw [cnt_succ, if_pos hi] at this; omega
  · rfl
  · have := cnt_mono L (j + 1) i hlt
    rw [cnt_succ, if_pos hj] at this; omega

theorem tickK_succ (L A : Nat → Int) (k j i : Nat) (hj : 0 < L j) (hc : cnt L j = k) : tickK L A (k + 1) i = if i = j then tickL L A j else tickK L A k i := by
  unfold tickK
  by_cases h : i = j
  · subst h; simp [hc]
  · rw [if_neg h]
    by_cases h1 : cnt L i < k
    · rw [if_pos h1, if_pos (by omega)]
    · rw [if_neg h1]
      by_cases h2 : cnt L i < k + 1
      · rw [if_pos h2]
        have : ¬ 0 < L i := fun hp => h (cnt_inj L i j hp hj (by omega))
        simp [tickL, this]
      · rw [if_neg h2]

theorem tickK_at (L A : Nat → Int) (k j : Nat) (hc : cnt L j = k) : tickK L A k j = L j := by unfold tickK; rw [if_neg (by omega)]

theorem outK_succ (L : Nat → Int) (k j : Nat) (h : (running L)[k]? = some j) : outK L (k + 1) = outK L k ++ if L j = 1 then [j] else [] := by
  have hk := (List.getElem?_eq_some_iff.1 h).1
  unfold outK
  rw [List.take_succ_eq_append_getElem hk, List.filter_append, (List.getElem?_eq_some_iff.1 h).2]
  by_cases h1 : L j = 1 <;> simp [h1]

theorem outK_le (L : Nat → Int) (k : Nat) : (outK L k).length ≤ 16 := by
  unfold outK
  refine Nat.le_trans (List.length_filter_le _ _) ?_
  refine Nat.le_trans (List.length_take_le' _ _) ?_
  unfold running
  exact Nat.le_trans (List.length_filter_le _ _) (by simp)

theorem Clk.setLeft {w : World} {b : Nat} {L A : Nat → Int} (h : Clk w b L A) (i : Nat) (hi : i < 16) (x : Int) : Clk (w.setCell ⟨b, i * 2, none⟩ (.int .i64 x)) b (fun j => if j = i then x else L j) A := by
  obtain ⟨cs, hh, hs, hc⟩ := h
  refine ⟨cs.setIfInBounds (i * 2) (.int .i64 x), heap_setCell_same w b (i * 2) cs 49 _ hh, by simpa using hs, fun j hj => ?_⟩
  obtain ⟨h1, h2⟩ := hc j hj
  constructor
  · by_cases e : j = i
    · subst e; simp [Array.getElem?_setIfInBounds]; omega
    · rw [Array.getElem?_setIfInBounds_ne (by omega)]; simpa [e] using h1
  · rw [Array.getElem?_setIfInBounds_ne (by omega)]; exact h2

theorem Clk.ext {w : World} {b : Nat} {L A L' A' : Nat → Int} (h : Clk w b L A) (hL : ∀ i, i < 16 → L' i = L i) (hA : ∀ i, i < 16 → A' i = A i) : Clk w b L' A' := by
  obtain ⟨cs, hh, hs, hc⟩ := h
  exact ⟨cs, hh, hs, fun i hi => by rw [hL i hi, hA i hi]; exact hc i hi⟩

/-- A box that holds an owned row. -/
def BoxRow (W : World) (B t base e : Nat) (n : Nat) (xs : List Value) : Prop := ∃ v, W.heap[B]? = some (.cells #[v] t (0, 0)) ∧ W.ownsRow base e 1 v n xs

theorem BoxRow.own {B B0 t base e : Nat} {n : Nat → Nat} {xs : Nat → List Value} : OwnFrom B (fun k W => BoxRow W B0 t base e (n k) (xs k)) := by
  rintro k W W' row ⟨v, hv, hr⟩ hg hrow
  refine ⟨v, blk_own hg hrow hv, hr.1, ?_⟩
  rcases hr.2 with h | ⟨g, cap, cur, rfl, hb, hh, rest⟩
  · exact .inl h
  · exact .inr ⟨g, cap, cur, rfl, hb, blk_own hg hrow hh, rest⟩

theorem row_slice {W : World} {base e n : Nat} {v : Value} {xs : List Value} (h : W.ownsRow base e 1 v n xs) : ∃ a cap, v = .slice a n cap := by
  rcases h.2 with ⟨rfl, rfl⟩ | ⟨g, cap, cur, rfl, _⟩
  · exact ⟨none, 0, rfl⟩
  · exact ⟨_, cap, rfl⟩

theorem info_int : (Try.prog.info? 3).map (fun i => (i.zero, i.size, i.bytes)) = some (some (.int .i64 0), 1, 8) := by kernel_rfl

def tickTmps (b : Nat) (B : Nat) (j : Nat) : Array Value :=
  #[.pointer (some ⟨b, 0, none⟩), undef, .slice none 0 0, .pointer (some ⟨B, 0, none⟩), .int .i64 (j : Int), .pointer (some ⟨b, j * 2, none⟩), .pointer (some ⟨b, 0, none⟩),
    .func (.func 26) #[] #[.pointer (some ⟨B + 1, 0, none⟩)], .int .i64 (j : Int), .pointer (some ⟨b, j * 2, none⟩), undef, undef, undef, undef, undef, undef, undef, undef, undef, undef, undef, undef, undef, undef, undef, undef, undef, undef, undef, undef, undef, undef, undef, undef]

set_option maxHeartbeats 2000000 in
theorem tick_any (b : Nat) (L A : Nat → Int) (w : World) (h : Clk w b L A) (hL : ∀ i, i < 16 → L i ≤ 1048576) :
    Calls Try.prog 11 #[.pointer (some ⟨b, 0, none⟩)] w fun e w' =>
      ∃ v, e = .returned v ∧ w'.ownsRow (w.heap.size + 2) 3 1 v (tickOut L).length (iv (tickOut L)) ∧ Clk w' b (tickL L A) A ∧ Upd (· = b) w w' := by
  have hbl := h.lt
  refine callsIn_wide (n := 0) |>.1 ?_
  refine callsIn_of_wp_marks Try.func11 rfl trivial ?_ rfl
  simp only [Try.ntmps11, List.size_toArray, List.length_cons, List.length_nil, Nat.reduceAdd, Nat.reduceSub, Array.replicate_succ, Array.replicate_zero, List.push_toArray, List.append_toArray, List.nil_append, List.cons_append]
  gi_wp2_with fail
  refine ⟨trivial, rfl, (callsIn_wide.2 (running_any _ _)).mono ?_⟩
  rintro e w' ⟨rfl, rfl⟩
  gi_wp2_with fail
  obtain ⟨h0, h1, hs, hb⟩ := new2 w (.cells #[.slice none 0 0] 30) (.cells #[.pointer (some ⟨b, 0, none⟩)] 23)
  have hc : Clk ((w.alloc (.cells #[.slice none 0 0] 30)).alloc (.cells #[.pointer (some ⟨b, 0, none⟩)] 23)) b L A := h.same (hb.block b hbl)
  obtain ⟨W0, hW0⟩ : ∃ W0, ((w.alloc (.cells #[.slice none 0 0] 30)).alloc (.cells #[.pointer (some ⟨b, 0, none⟩)] 23)) = W0 := ⟨_, rfl⟩
  rw [hW0] at h0 h1 hs hb hc ⊢
  clear hW0
  refine wp_range (full := (running L).map (item b)) (Rd := RdC (w.heap.size + 1) b L) rfl (enters_of Try.func26 (by kernel_rfl) rfl) (iter_any (w.heap.size + 1) b L W0) (Below.refl _ _) (fun k hk => by simp [item])
    (fun k W => BoxRow W w.heap.size 30 (w.heap.size + 2) 3 (outK L k).length (iv (outK L k)) ∧ W.heap[w.heap.size + 1]? = some (.cells #[.pointer (some ⟨b, 0, none⟩)] 23 (0, 0)) ∧ Clk W b (tickK L A k) A ∧ Upd (· = b) w W)
    (fun c k W => False)
    (BoxRow.own.and ((own_blk _ _).and (Clk.own.and (own_upd (by omega)))))
    (fun c => own_pure _)
    (fun k W hI => ⟨cell_of_one hI.2.1, fun i hi hk => by have := hI.2.2.1.left i hi; rwa [tickK, if_neg (by omega)] at this⟩)
    ⟨⟨_, h0, by simpa [outK, iv] using World.ownsRow_nil W0 (w.heap.size + 2) 3 1⟩, h1, hc.ext (fun i _ => by simp [tickK]) (fun _ _ => rfl), Upd.ofBelow' hb⟩
    (fun k => { tmps := tickTmps b w.heap.size ((running L).getD k 0), defers := [] }) ?assign ?body ?done ?stop
  case assign =>
    intro l k hk W K hK
    have hk' : k < (running L).length := by simpa using hk
    have hj : ((running L).map (item b))[k] = item b ((running L).getD k 0) := by simp [List.getD, hk']
    rw [hj]
    generalize (running L).getD k 0 = j at *
    clear hk hj hk'
    unfold item tickTmps at *
    gi_wp2
    exact hK
  case body =>
    rintro l k W hk hsz ⟨⟨v, hv, hr⟩, c1, hc, hu⟩
    have hk' : k < (running L).length := by simpa using hk
    obtain ⟨hj1, hj2⟩ := running_mem L k hk'
    have hjk : (running L)[k]? = some ((running L).getD k 0) := by simp [List.getD, hk']
    have hje : (running L)[k] = (running L).getD k 0 := by simp [List.getD, hk']
    rw [hje] at hj1 hj2
    generalize (running L).getD k 0 = j at *
    have hck := running_cnt L k j hjk
    have dj := hc.left j hj1
    rw [tickK_at L A k j hck] at dj
    have daj := hc.again j hj1
    have fj := hc.free (j * 2)
    have hLj := hL j hj1
    have HO := Lib.hid (outK_succ L k j hjk)
    have HT := Lib.hid (fun i => tickK_succ L A k j i hj2 hck)
    have hol := outK_le L k
    have HC := Lib.hid hc
    have HV := Lib.hid hv
    have HR := Lib.hid hr
    have H1 := Lib.hid c1
    obtain ⟨ao, cap, rfl⟩ := row_slice hr
    have d0 := cell_of_one hv
    have f0 := free_of_one hv
    clear hjk hje hk' hck hc hv hr c1
    unfold tickTmps
    by_cases hone : L j = 1
    · rw [hone] at dj
      have HN := Lib.hid hone
      have hc2 := HC.out.setLeft j hj1 0
      have hr2 := ownsRow_setCell_below HR.out (a := ⟨b, j * 2, none⟩) (by simp; omega) (.int .i64 0)
      have hv2 : (W.setCell ⟨b, j * 2, none⟩ (.int .i64 0)).heap[w.heap.size]? = _ := one_setCell_other HV.out (by simp; omega) _
      have h12 : (W.setCell ⟨b, j * 2, none⟩ (.int .i64 0)).heap[w.heap.size + 1]? = _ := one_setCell_other H1.out (by simp; omega) _
      obtain ⟨i0, hi, hz0, hz1, hz2⟩ := info_parts info_int
      have HR2 := Lib.hid hr2
      have HC2 := Lib.hid hc2
      have HV2 := Lib.hid hv2
      have H12 := Lib.hid h12
      clear hone hc2 hr2 hv2 h12
      gi_wp2_with (gi_at_builtin; refine wpListIn_append_own _ rfl (.tmp 22) (.tmp 24) 30 rfl (w.heap.size + 2) 3 i0 (.int .i64 0) 1 8 Try.underlying30 hi hz0 hz1 hz2 rfl (by decide) _ _ _ rfl (HR2.out.alloc _) ⟨W.heap.size, 0, none⟩ 1 1 [.int .i64 (j : Int)] rfl rfl ?c1 ?c2 ?c3 ?c4 ?c5 ?_)
      case c1 =>
        intro i u hu
        match i, hu with
        | 0, hu =>
          simp at hu
          subst hu
          rw [show ((⟨W.heap.size, 0, none⟩ : Addr).add 0) = ⟨W.heap.size, 0, none⟩ from rfl]
          rw [World.cell?_alloc_at (hn := by simp)]
          rfl
      case c2 => intro u hu; simp at hu; subst hu; rfl
      case c3 => unfold maxLen; omega
      case c4 => omega
      case c5 => simp; omega
      intro v' w1 hown' hg _
      obtain ⟨g', cap', rfl, hg1, hg2⟩ := own_shape hown' (by omega)
      have hne : ∀ i, i ≤ w.heap.size + 1 → some i ≠ (Value.slice ao (outK L k).length cap).ownBlock := fun i hi e => by
        have := (HR2.out.lt i e.symm).1; omega
      have hv3 : w1.heap[w.heap.size]? = some (.cells #[.slice ao (outK L k).length cap] 30 (0, 0)) := (hg.block _ (by simp; omega) (hne _ (by omega))).trans ((new_past _ _ _ (by simp; omega)).trans HV2.out)
      have h13 : w1.heap[w.heap.size + 1]? = some (.cells #[.pointer (some ⟨b, 0, none⟩)] 23 (0, 0)) := (hg.block _ (by simp; omega) (hne _ (by omega))).trans ((new_past _ _ _ (by simp; omega)).trans H12.out)
      have hc3 : Clk w1 b (fun i => if i = j then 0 else tickK L A k i) A := HC2.out.same ((hg.block b (by simp; omega) (hne _ (by omega))).trans (new_past _ _ _ (by simp; omega)))
      have hk1 : KeepsOthers W w1 := (KeepsOthers.setCell W _ _).trans ((KeepsOthers.alloc _ _).trans (KeepsOthers.of_grownBy hg (fun i o e ho => by
        rcases (HR2.out.alloc _).2 with ⟨hs, _⟩ | ⟨g, c, cur, hs, _, hh, _⟩
        · rw [hs] at e; simp [Value.ownBlock] at e
        · rw [hs] at e; simp [Value.ownBlock] at e; subst e; rw [hh] at ho; cases ho; rfl)))
      have hu1 : Upd (· = b) w w1 := ((hu.setCell (p := ⟨b, j * 2, none⟩) (fun _ => rfl) _).alloc _).grown hg (fun i e hi => by
        have := (HR2.out.lt i e).1; omega)
      have d3 := cell_of_one hv3
      have f3 := free_of_one hv3
      have da3 := hc3.again j hj1
      have fb3 := hc3.free (j * 2)
      have hb0 : w.heap.size < g' := by omega
      have hbne : b ≠ w.heap.size := by omega
      have dl3 := hc3.left j hj1
      rw [if_pos rfl] at dl3
      have V3 := Lib.hid hv3
      have H13 := Lib.hid h13
      have C3 := Lib.hid hc3
      have O3 := Lib.hid hown'
      clear hv3 h13 hc3 hown' hg hne
      gi_wp2
      refine ⟨hk1.trans ((KeepsOthers.setCell _ _ _).trans (KeepsOthers.setCell _ _ _)), ⟨_, one_setCell_other (one_setCell V3.out) (by simp; omega) _, ?_⟩, one_setCell_other (one_setCell_other H13.out (by simp) _) (by simp; omega) _, ?_, (hu1.setCell (p := ⟨w.heap.size, 0, none⟩) (fun hlt => absurd hlt (by simp)) _).setCell (p := ⟨b, j * 2, none⟩) (fun _ => rfl) _⟩
      · rw [HO.out, if_pos HN.out]
        have e1 : (outK L k ++ [j]).length = (outK L k).length + 1 := by simp
        have e2 : iv (outK L k ++ [j]) = iv (outK L k) ++ [.int .i64 (j : Int)] := by simp [iv]
        rw [e1, e2]
        exact ownsRow_setCell_below (ownsRow_setCell_below O3.out (by simp) _) (by simp; omega) _
      · refine ((C3.out.setCell_other (a := ⟨w.heap.size, 0, none⟩) (by simp; omega) _).setLeft j hj1 (A j)).ext (fun i hi => ?_) (fun _ _ => rfl)
        rw [HT.out i]
        by_cases e : i = j
        · subst e; simp [tickL, HN.out]
        · simp [e]
    · have ht : ((L j - 1 : Int) == 0) = false := by rw [beq_eq_false_iff_ne]; omega
      have HN := Lib.hid hone
      clear hone
      gi_wp2
      refine ⟨KeepsOthers.setCell _ _ _, ⟨_, one_setCell_other HV.out (by simp; omega) _, ?_⟩, one_setCell_other H1.out (by simp; omega) _, ?_, hu.setCell (p := ⟨b, j * 2, none⟩) (fun _ => rfl) _⟩
      · rw [HO.out, if_neg HN.out, List.append_nil]; exact ownsRow_setCell_below HR.out (by simp; omega) _
      · refine (HC.out.setLeft j hj1 (L j - 1)).ext (fun i hi => ?_) (fun _ _ => rfl)
        rw [HT.out i]
        by_cases e : i = j
        · subst e; simp [tickL, hj2, HN.out]
        · simp [e]
  case done =>
    rintro D W hD ⟨⟨v, hv, hr⟩, c1, hc, hu⟩ hK
    rw [List.length_map] at hr hc
    rw [outK_all] at hr
    have hc2 : Clk W b (tickL L A) A := hc.ext (fun i hi => (tickK_all L A i hi).symm) (fun _ _ => rfl)
    obtain ⟨ao, cap, rfl⟩ := row_slice hr
    have d0 := cell_of_one hv
    have HK := Lib.hid hK
    have HR := Lib.hid hr
    have HC := Lib.hid hc2
    have hgD : W.grownBy (W.putObj D (.deferred none)) (some D) := grownBy_putObj' W D _
    have HD := Lib.hid (show (W.putObj D (.deferred none)).ownsRow (w.heap.size + 2) 3 1 (.slice ao (tickOut L).length cap) (tickOut L).length (iv (tickOut L)) from hr.kept hgD (by
      rcases hr.2 with ⟨hs, _⟩ | ⟨g, c, cur, hs, _, hh, _⟩
      · rw [hs]; exact .inl rfl
      · rw [hs]; refine .inr ?_
        intro e; simp [Value.ownBlock] at e; subst e; rw [hh] at hK; cases hK))
    have HB := Lib.hid (show Clk (W.putObj D (.deferred none)) b (tickL L A) A from hc2.putObj (by omega) _)
    clear hv hr c1 hc hc2 hK hgD
    gi_wp2
    refine ⟨by simp, .inl ⟨_, _, rfl, run_takeDeferred HK.out, ?_⟩⟩
    exact ⟨.slice ao (tickOut L).length cap, results_tmp (fn := Try.f11) (t := 2) rfl _ _ _, _, rfl, HD.out, HB.out, hu.putObj (by omega) _⟩
  case stop =>
    rintro D c k W hD hk hF hK
    exact hF.elim
end Go.Proofs.Ytcicmpegajahkaa
