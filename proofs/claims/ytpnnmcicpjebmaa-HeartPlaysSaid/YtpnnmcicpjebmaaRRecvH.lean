/-
  CONTRACT of the reference's Receive.
-/
import Derived.Test.YtpnnmcicpjebmaaRTickH
import Derived.Test.YtpnnmcicpjebmaaRecvH
set_option linter.unusedSimpArgs false
set_option linter.unusedVariables false
namespace Go.Proofs.Ytpnnmcicpjebmaa
open Go.RowKit
attribute [local go_sem] Oper.semAt_some

set_option maxRecDepth 100000 in
set_option maxHeartbeats 4000000 in
theorem rrecv_no (b g : Nat) (n ev le : Int) (a : Option Addr) (m c : Nat) (ps : List Pr) (id : Int) (rem : Bool) (l : List UInt8) (fa : Option Addr) (fc : Nat) (w : World) (hH : RHrt w b n ev le (.slice a m c)) (hl : (l.length : Int) ≤ 70368744177664) (hB : Bytes w fa l) (h : ¬ heOk id rem l) :
    Calls Try.prog 42 #[.pointer (some ⟨b, 0, none⟩), .agg #[.int .i64 id, .bool rem, .slice fa l.length fc]] w fun e w' => e = .returned (.slice none 0 0) ∧ Below w.heap.size w w' := by
  have HB := Lib.hid (hB.below (show Below w.heap.size w (w.alloc (.cells #[.int .i64 id, .bool rem, .slice fa l.length fc] 32)) by go_grown))
  have HH := Lib.hid hH
  have HR := Lib.hid (rheard_any id rem l fa fc (w.alloc (.cells #[.int .i64 id, .bool rem, .slice fa l.length fc] 32)) (by omega) HB.out)
  rw [decide_eq_false h] at HR
  clear hB hH h
  generalize l.length = ll at *
  go_enter Try.func42, Try.ntmps42
  go_wp2_with fail
  refine HR.out.mono ?_
  rintro e w2 ⟨rfl, hb2⟩
  have hHc : RHrt w2 b n ev le (.slice a m c) := bkeep' hb2 (akeep _ HH.out)
  obtain ⟨c0, c1, c2, c3⟩ := hHc.cells
  have hb3 : Below w.heap.size w w2 := bstep (B := w.heap.size) (w := w) hb2 (by go_grown) (Nat.le_refl _)
  have HB3 := Lib.hid hb3
  clear hb3 hb2 hHc c0 c1 c2
  go_wp2_with fail
  go_loopg [8, 9] 0 (fun gg v i wr => wr = w2 ∧ v = .slice none 0 0 ∧ i = .int .i64 0)
  case atStart => exact ⟨rfl, rfl, rfl⟩
  case round =>
    obtain ⟨rfl, rfl, rfl⟩ := hrel
    by_cases hm : 0 < m
    · have d1 : (0 : Int) < (m : Int) := by omega
      go_wp2_with fail
      go_ret
      exact ⟨rfl, HB3.out⟩
    · obtain rfl : m = 0 := by omega
      go_wp2_with fail
      go_ret
      exact ⟨rfl, HB3.out⟩

set_option maxRecDepth 100000 in
set_option maxHeartbeats 4000000 in
theorem rrecv_yes (b g : Nat) (n ev le : Int) (a : Option Addr) (m c : Nat) (ps : List Pr) (id : Int) (rem : Bool) (l : List UInt8) (fa : Option Addr) (fc : Nat) (w : World) (hH : RHrt w b n ev le (.slice a m c)) (hP : RPrAt w a m g ps) (hm : (m : Int) ≤ 1000) (hl : (l.length : Int) ≤ 70368744177664) (hB : Bytes w fa l) (h : heOk id rem l) (hps : ∀ p ∈ ps, p.there = true → 0 ≤ p.state) :
    Calls Try.prog 42 #[.pointer (some ⟨b, 0, none⟩), .agg #[.int .i64 id, .bool rem, .slice fa l.length fc]] w fun e w' => ∃ nv, e = .returned nv ∧ w'.ownsRow w.heap.size 100 2 nv (rcN (heN id rem l) ps).length (nvals (rcN (heN id rem l) ps)) ∧
      RHrt w' b n ev le (.slice a m c) ∧ RPrAt w' a m g (ps.map (rcP (heN id rem l) (heS id rem l))) ∧ Upd (fun k => m ≠ 0 ∧ k = g) w w' := by
  have hlen : ps.length = m := hP.1
  have hgb := hP.ne hH (by decide)
  have hbw := hH.lt
  have hgw : m = 0 ∨ g < w.heap.size := by
    by_cases h0 : m = 0
    · exact .inl h0
    · exact .inr (hP.free (by omega) 0).2
  have HB := Lib.hid (hB.below (show Below w.heap.size w (w.alloc (.cells #[.int .i64 id, .bool rem, .slice fa l.length fc] 32)) by go_grown))
  have HH := Lib.hid hH
  have HP := Lib.hid hP
  have HPS := Lib.hid hps
  have HR := Lib.hid (rheard_any id rem l fa fc (w.alloc (.cells #[.int .i64 id, .bool rem, .slice fa l.length fc] 32)) (by omega) HB.out)
  rw [decide_eq_true h] at HR
  have hsx : 0 ≤ heS id rem l := by unfold heS; split <;> omega
  generalize heS id rem l = sx at *
  generalize heN id rem l = nd at *
  clear hB hH hP h hps
  generalize l.length = ll at *
  go_enter Try.func42, Try.ntmps42
  go_wp2_with fail
  refine HR.out.mono ?_
  rintro e w2 ⟨rfl, hb2⟩
  have HH2 : Hid (RHrt w2 b n ev le (.slice a m c)) := bkeep' hb2 (akeep _ HH.out)
  have HP2 : Hid (RPrAt w2 a m g ps) := HP.out.same fun cs hh => bkeep' hb2 (akeep _ hh)
  have hb3 : Below w.heap.size w w2 := bstep (B := w.heap.size) (w := w) hb2 (by go_grown) (Nat.le_refl _)
  have HB3 := Lib.hid hb3
  have s2 := hb3.size
  clear hb3 hb2 HR HB
  have hg2w : m = 0 ∨ g < w2.heap.size := hgw.imp _root_.id (fun h => by omega)
  go_wp2_with fail
  go_loopg [8, 9] m (fun gg v i wr => ∃ k : Nat, k ≤ m ∧ gg = m - k ∧ i = .int .i64 k ∧ wr.ownsRow w2.heap.size 100 2 v (rcN nd (ps.take k)).length (nvals (rcN nd (ps.take k))) ∧ RHrt wr b n ev le (.slice a m c) ∧ RPrAt wr a m g (rcM nd sx ps k) ∧ Upd (GS m g) w2 wr)
  case atStart => exact ⟨0, by omega, by omega, rfl, by simpa [rcN, nvals] using World.ownsRow_nil w2 w2.heap.size 100 2, HH2.out, by simpa [rcM] using HP2.out, Upd.refl _ _⟩
  case round =>
    obtain ⟨k, hk, hgk, rfl, hown, hHk, hPk, hUk⟩ := hrel
    obtain ⟨ao, ac, rfl⟩ := rnews_shape hown
    have HG := Lib.hid hgk
    have HO := Lib.hid hown
    have HHk := Lib.hid hHk
    have HPk := Lib.hid hPk
    have HUk := Lib.hid hUk
    have hwr := hUk.size
    obtain ⟨c0, c1, c2, c3⟩ := hHk.cells
    clear hgk hown hHk hPk hUk c0 c1 c2
    by_cases hkm : k < m
    · have d1 : (k : Int) < (m : Int) := by omega
      have hm0 : m ≠ 0 := by omega
      have hk' : k < ps.length := by omega
      have hpk := rcM_at nd sx ps k hk'
      have hmem : ps[k] ∈ ps := List.getElem_mem hk'
      have hset1 := rcM_set nd sx ps k hk'
      have hnt := rcN_take nd ps k hk'
      have hnl := rcN_len nd ps k
      obtain ⟨p, hpe⟩ : ∃ p, ps[k] = p := ⟨_, rfl⟩
      rw [hpe] at hpk hmem hset1 hnt
      have hbd := HPS.out p hmem
      obtain ⟨q0, q1, q2, q3⟩ := HPk.out.cell hpk
      have hg2 : g < w2.heap.size := hg2w.resolve_left hm0
      have hgb2 : ¬ g = b := hgb.resolve_left hm0
      obtain ⟨hfr, hgl⟩ := HPk.out.free (by omega) (k * 4 + 3)
      obtain ⟨hfr2, _⟩ := HPk.out.free (by omega) (k * 4 + 2)
      have hblr := HHk.out.lt
      obtain rfl : a = some ⟨g, 0, none⟩ := by rcases HPk.out.where_ with h | h; (· omega); (· exact h)
      have HK := Lib.hid hpk
      have HST := Lib.hid hset1
      have HNT := Lib.hid hnt
      have hkm2 : k < (rcM nd sx ps k).length := (List.getElem?_eq_some_iff.1 hpk).1
      obtain ⟨pn, pt, pb, pst, pl⟩ := p
      simp only at q0 q1 q3 hbd
      clear hpk hpe hmem hset1 hnt
      by_cases hn : pn = nd
      · subst hn
        have erc : Hid (rcP pn sx ⟨pn, pt, pb, pst, pl⟩ = ⟨pn, pt, true, sx, pt⟩) := by show rcP _ _ _ = _; unfold rcP; simp
        have hPa0 := HPk.out.set HK.out 2 (.int .i64 sx) (q := ⟨pn, pt, true, sx, pl⟩) (by omega) rfl
        have hPb0 := hPa0.set (i := k) (p := ⟨pn, pt, true, sx, pl⟩) (q := ⟨pn, pt, true, sx, pt⟩) (by rw [List.getElem?_set_self hkm2]) 3 (.int .i64 pt) (by omega) rfl
        rw [List.set_set] at hPb0
        cases pb
        · have q2 : wr.cell? ⟨g, k * 4 + 2, none⟩ = some (.int .i64 (-1)) := q2
          clear hPa0 hPb0
          go_wp2_with (at_builtin; refine wpList_append_any rfl (.tmp 47) (.tmp 50) 70 rfl w2.heap.size 100 (.agg #[.int .i64 0, .int .i64 0]) 2 16 Try.underlying70 info100 rfl (by decide) _ _ _ rfl (HO.out.alloc _) (some ⟨wr.heap.size, 0, none⟩) 1 1 [.int .i64 1, .int .i64 pn] rfl (fun h => by cases h) (by simp) ?c1 ?c2 ?c3 ?c4 ?c5 ?_)
          case c2 => exact ⟨rfl, rfl⟩
          case c3 => unfold maxLen; omega
          case c4 => omega
          case c5 => omega
          intro v' w1 hown' hg
          have hlt := HO.out.lt
          have hH3 : RHrt w1 b n ev le (.slice (some ⟨g, 0, none⟩) m c) := (hg.block b (by simp; omega) (fun e => by have := (hlt b e.symm).1; omega)).trans (akeep _ HHk.out)
          have hP3 : RPrAt w1 (some ⟨g, 0, none⟩) m g (rcM pn sx ps k) := HPk.out.same fun cs hh => (hg.block g (by simp; omega) (fun e => by have := (hlt g e.symm).1; omega)).trans (akeep _ hh)
          have hU3 : Upd (GS m g) w2 w1 := ((HUk.out.alloc (.cells #[.int .i64 1, .int .i64 pn] 100))).grown hg (fun i e hi => by have := (hlt i e).1; omega)
          obtain ⟨a', cap', rfl⟩ := rnews_shape hown'
          obtain ⟨y0, y1, y2, y3⟩ := hP3.cell HK.out
          obtain ⟨z0, z1, z2, z3⟩ := hH3.cells
          obtain ⟨fr2, fl⟩ := hP3.free (by omega) (k * 4 + 2)
          obtain ⟨fr3, _⟩ := hP3.free (by omega) (k * 4 + 3)
          have hPa := hP3.set HK.out 2 (.int .i64 sx) (q := ⟨pn, pt, true, sx, pl⟩) (by omega) rfl
          have hPb := hPa.set (i := k) (p := ⟨pn, pt, true, sx, pl⟩) (q := ⟨pn, pt, true, sx, pt⟩) (by rw [List.getElem?_set_self hkm2]) 3 (.int .i64 pt) (by omega) rfl
          rw [List.set_set] at hPb
          have hb1l := hH3.lt
          have HO3 := Lib.hid (ownsRow_setCell_below (ownsRow_setCell_below hown' (a := ⟨g, k * 4 + 2, none⟩) (by simp; omega) (.int .i64 sx)) (a := ⟨g, k * 4 + 3, none⟩) (by simp; omega) (.int .i64 pt))
          have HH3 : Hid (RHrt ((w1.setCell ⟨g, k * 4 + 2, none⟩ (.int .i64 sx)).setCell ⟨g, k * 4 + 3, none⟩ (.int .i64 pt)) b n ev le (.slice (some ⟨g, 0, none⟩) m c)) := skeep _ (skeep _ hH3 (by simp; omega)) (by simp; omega)
          have HP3 := Lib.hid hPb
          have HU3 := Lib.hid ((hU3.setCell (p := ⟨g, k * 4 + 2, none⟩) (fun _ => ⟨hm0, rfl⟩) (.int .i64 sx)).setCell (p := ⟨g, k * 4 + 3, none⟩) (fun _ => ⟨hm0, rfl⟩) (.int .i64 pt))
          clear hown' hg hH3 hP3 hU3 hPa hPb q0 q1 q2 q3 c3 z0 z1 z2
          go_wp2_with fail
          go_region
          go_wp2_with fail
          go_roundg (m - (k + 1))
          case measure => have := HG.out; omega
          case rel =>
            refine ⟨k + 1, by omega, rfl, by go_num, ?_, HH3.out, ?_, HU3.out.drew⟩
            · have e := HNT.out
              simp at e
              rw [e, nvals_snoc, List.length_append]
              exact HO3.out
            · rw [HST.out, erc.out]; exact HP3.out
        · have q2 : wr.cell? ⟨g, k * 4 + 2, none⟩ = some (.int .i64 pst) := q2
          have hs0 := hbd rfl
          have d2 : decide (pst < 0) = false := decide_eq_false (by omega)
          have d3 : ¬ pst < 0 := by omega
          have HO3 := Lib.hid (ownsRow_setCell_below (ownsRow_setCell_below HO.out (a := ⟨g, k * 4 + 2, none⟩) (by simp; omega) (.int .i64 sx)) (a := ⟨g, k * 4 + 3, none⟩) (by simp; omega) (.int .i64 pt))
          have HH3 : Hid (RHrt ((wr.setCell ⟨g, k * 4 + 2, none⟩ (.int .i64 sx)).setCell ⟨g, k * 4 + 3, none⟩ (.int .i64 pt)) b n ev le (.slice (some ⟨g, 0, none⟩) m c)) := skeep _ (skeep _ HHk.out (by simp; omega)) (by simp; omega)
          have HP3 := Lib.hid hPb0
          have HU3 := Lib.hid ((HUk.out.setCell (p := ⟨g, k * 4 + 2, none⟩) (fun _ => ⟨hm0, rfl⟩) (.int .i64 sx)).setCell (p := ⟨g, k * 4 + 3, none⟩) (fun _ => ⟨hm0, rfl⟩) (.int .i64 pt))
          clear hPa0 hPb0 hbd
          go_wp2_with fail
          go_region
          go_wp2_with fail
          go_roundg (m - (k + 1))
          case measure => have := HG.out; omega
          case rel =>
            refine ⟨k + 1, by omega, rfl, by go_num, ?_, HH3.out, ?_, HU3.out.drew⟩
            · have e := HNT.out
              simp at e
              rw [e]; exact HO3.out
            · rw [HST.out, erc.out]; exact HP3.out
      · have hnb : (pn == nd) = false := by rw [beq_eq_false_iff_ne]; exact hn
        have HN := Lib.hid hn
        clear hn q1 q2 q3
        go_wp2_with fail
        go_roundg (m - (k + 1))
        case measure => have := HG.out; omega
        case rel =>
          refine ⟨k + 1, by omega, rfl, by go_num, ?_, HHk.out, ?_, HUk.out⟩
          · have e := HNT.out
            simp [HN.out] at e
            rw [e]; exact HO.out
          · rw [HST.out, show rcP nd sx ⟨pn, pt, pb, pst, pl⟩ = ⟨pn, pt, pb, pst, pl⟩ from by unfold rcP; simp [HN.out], set_same HK.out]; exact HPk.out
    · obtain rfl : k = m := by omega
      go_wp2_with fail
      go_ret
      have hown := HO.out
      have hP2 := HPk.out
      rw [List.take_of_length_le (by omega)] at hown
      rw [show rcM nd sx ps k = ps.map (rcP nd sx) from by rw [← hlen, rcM_all]] at hP2
      rw [List.take_of_length_le (show ps.length ≤ k by omega)]
      exact ⟨_, rfl, own_base hown (by omega), HHk.out, hP2, ((Upd.ofBelow' (S := GS k g) HB3.out).trans HUk.out (fun i hi e => e)).mono (fun i hi e => e)⟩
end Go.Proofs.Ytpnnmcicpjebmaa
