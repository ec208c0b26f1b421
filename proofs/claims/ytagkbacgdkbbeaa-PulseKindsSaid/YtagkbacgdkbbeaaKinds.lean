/-
  LAW PulseKinds: the walk.
-/
import Derived.Test.YtagkbacgdkbbeaaPlays
set_option linter.unusedSimpArgs false
set_option linter.unusedVariables false
namespace Go.Proofs.Ytagkbacgdkbbeaa
open Go.RowKit
attribute [local go_sem] Oper.semAt_some

theorem ch128 (o : Int) (h : o = 0 ∨ (2 ≤ o ∧ o ≤ 240)) : chE 128 o = 0 := by
  unfold chE
  rw [show spE 128 = 0 by decide +kernel, show spNo 128 = false by decide +kernel, show spId 128 = 128 by decide +kernel]
  unfold chk
  rw [if_neg (by simp), if_neg (fun k => by
    rcases k with k | k
    · unfold restr at k; omega
    · unfold badO at k; omega)]

/-- The ways of a frame, told shortly. -/
theorem rc_four (o fid : Int) (rem : Bool) (l : List UInt8) (ho : 0 ≤ o) :
    ((fid == 128) = false ∧ rcR 128 o fid rem l = (0, false, false, 0)) ∨ (fid = 128 ∧ rem = true ∧ rcR 128 o fid rem l = (0, false, false, 0)) ∨
    (fid = 128 ∧ rem = false ∧ o = 0 ∧ rcR 128 o fid rem l = (0, true, false, 1)) ∨ (fid = 128 ∧ rem = false ∧ rcR 128 o fid rem l = (0, false, true, 0)) ∨
    (fid = 128 ∧ rem = false ∧ (o == 0) = false ∧ ∃ x : Int, 1 ≤ x ∧ x ≤ o ∧ rcR 128 o fid rem l = (x, true, false, 1)) := by
  rcases rc_ways 128 o fid rem l with ⟨h, e⟩ | ⟨h, h1, e⟩ | ⟨h, h1, h2, h3, e⟩ | ⟨h, h1, h2, h3, e⟩ | ⟨h, h1, h2, h3, e⟩ | ⟨h, h1, h2, x, h3, h4, e⟩ | ⟨h, h1, h2, x, h3, h4, h5, e⟩ | ⟨h, h1, h2, x, h3, h4, h5, e⟩
  · exact .inl ⟨by rw [beq_eq_false_iff_ne]; exact h, e⟩
  · exact .inr (.inl ⟨h, h1, e⟩)
  · exact .inr (.inr (.inl ⟨h, h1, h2, e⟩))
  · exact .inr (.inr (.inr (.inl ⟨h, h1, e⟩)))
  · exact .inr (.inr (.inr (.inl ⟨h, h1, e⟩)))
  · exact .inr (.inr (.inr (.inl ⟨h, h1, e⟩)))
  · exact .inr (.inr (.inr (.inl ⟨h, h1, e⟩)))
  · exact .inr (.inr (.inr (.inr ⟨h, h1, by rw [beq_eq_false_iff_ne]; exact h2, _, h4, h5, e⟩)))

theorem pnew_128 (o : Int) (h : o = 0 ∨ (2 ≤ o ∧ o ≤ 240)) (w : World) : Calls Try.prog 11 #[.int .u32 128, .int .i64 o] w fun e w' => ∃ g, e = .returned (.tuple #[.pointer (some ⟨g, 0, none⟩), .int .i64 0]) ∧ w.heap.size ≤ g ∧
    w'.heap[g]? = some (.cells #[.int .i64 128, .int .i64 o, .int .i64 0] 46 (0, 0)) ∧ Below w.heap.size w w' := by
  have := pnew_ok 128 (by omega) o w (ch128 o h)
  rw [show spId 128 = 128 by decide +kernel] at this
  exact this

def KiI (w : World) (b c : Nat) (o : Int) (i : Nat) (fid : Int) (rem : Bool) (fa : Option Addr) (fl fc : Nat) (wr : World) : Prop := ∃ s : Int, 0 ≤ s ∧ s ≤ i ∧ wr.heap[b]? = some (.cells #[.int .i64 128, .int .i64 o, .int .i64 0] 46 (0, 0)) ∧
  wr.heap[c]? = some (.cells #[.int .i64 128, .int .i64 o, .int .i64 s] 46 (0, 0)) ∧ wr.heap[w.heap.size]? = some (.cells #[.int .i64 fid, .bool rem, .slice fa fl fc] 34 (0, 0)) ∧ Below w.heap.size w wr

set_option maxRecDepth 100000 in
set_option maxHeartbeats 16000000 in
theorem kinds_in (ov : Nat) (hov : ov < 256) (h : 2 ≤ (ov : Int) ∧ (ov : Int) ≤ 240 ∨ (ov : Int) = 0) (fid : Int) (rem : Bool) (l : List UInt8) (fa : Option Addr) (fc : Nat) (a : Option Addr) (n cap : Nat) (w : World)
    (hl : (l.length : Int) ≤ 9223372036854775807) (hB : Bytes w fa l) (hn : (n : Int) ≤ 9223372036854775807) (hF : Frames w a n) :
    Calls Try.prog 4 #[.int .u8 (ov : Int), .agg #[.int .i64 fid, .bool rem, .slice fa l.length fc], .slice a n cap] w fun e w' => e = .returned (.bool true) ∧ Below w.heap.size w w' := by
    have H := Lib.hid (pnew_128 (ov : Int) (by omega))
    have HF := Lib.hid hF
    have HY := Lib.hid hB
    have v0 : (0 : Int) ≤ (ov : Int) := by omega
    have v1 : (ov : Int) < 256 := by omega
    clear hF hB
    have c0 : (ov : Int) ≤ 240 := by omega
    have c2 : ((ov : Int) == 1) = false := by rw [beq_eq_false_iff_ne]; omega
    have c2' : (ov == 1) = false := by rw [beq_eq_false_iff_ne]; omega
    have c3 : decide (240 < (ov : Int)) = false := by rw [decide_eq_false_iff_not]; omega
    have c4 : decide (240 < ov) = false := by rw [decide_eq_false_iff_not]; omega
    clear h
    go_enter Try.func4, Try.ntmps4
    go_wp2_with fail
    refine (H.out _).mono ?_
    rintro e w1 ⟨b, rfl, hbw, hP1, hb1⟩
    simp only [World.size_alloc] at hbw
    have HB1 := Lib.hid (bstep (B := w.heap.size) (w := w) hb1 (by go_grown) (Nat.le_refl _))
    have HX1 := Lib.hid (bkeep' hb1 (heap_alloc_new w _))
    have HP1 := Lib.hid hP1
    clear hb1 hP1
    go_wp2_with fail
    refine (H.out _).mono ?_
    rintro e w2 ⟨c, rfl, hcw, hQ2, hb2⟩
    have HB2 := Lib.hid (bstep (B := w.heap.size) (w := w) hb2 HB1.out (Nat.le_refl _))
    have HX2 := Lib.hid (bkeep' hb2 HX1.out)
    have HP2 := Lib.hid (bkeep' hb2 HP1.out)
    have HQ2 := Lib.hid hQ2
    have hbl := lt_of_block HP1.out
    have hbc : b < c := Nat.lt_of_lt_of_le hbl hcw
    have hwl := HB2.out.size
    obtain ⟨x0, x1, x2⟩ := cells3' HX2.out
    have kx : w.heap.size < w2.heap.size := lt_of_block HX2.out
    clear hb2 hQ2 HB1 HX1 HP1
    by_cases hbig : 100 < l.length
    · have d3 : (100 : Int) < (l.length : Int) := by omega
      generalize l.length = ll at *
      go_wp2_with fail
      refine (known28 _).mono ?_
      rintro e w5 ⟨rfl, hb5⟩
      go_wp2_with fail
      go_ret
      exact ⟨rfl, bstep (B := w.heap.size) (w := w) hb5 HB2.out (Nat.le_refl _)⟩
    · have d3 : (l.length : Int) ≤ 100 := by omega
      go_wp2_with fail
      go_loopw [12] (fun i wr => ∃ k : Nat, k ≤ 50 ∧ i = .int .i64 k ∧ KiI w b c (ov : Int) k fid rem fa l.length fc wr) (fun i _ => 50 - (intOf i).toNat)
      case atStart => exact ⟨0, by omega, rfl, 0, by omega, by omega, HP2.out, HQ2.out, HX2.out, HB2.out⟩
      case round =>
        obtain ⟨k, hk, rfl, s, hs0, hs1, hP, hQ, hX, hB⟩ := hrel
        have HP := Lib.hid hP
        have HQ := Lib.hid hQ
        have HX := Lib.hid hX
        have HB := Lib.hid hB
        clear hP hQ hX hB HP2 HQ2 HX2 HB2 x0 x1 x2 kx
        have hwr := HB.out.size
        have hcl := lt_of_block HQ.out
        by_cases hk1 : k < n ∧ k < 50
        · obtain ⟨hk1, hk2⟩ := hk1
          obtain ⟨lb, off, rfl, hlb, hfr⟩ : ∃ lb off, a = some ⟨lb, off, none⟩ ∧ lb < w.heap.size ∧ ∀ i, i < n → ∃ f : Fr, FrOk w lb off i f := by
            rcases HF.out with h0 | h0
            · omega
            · exact h0
          obtain ⟨f, hf⟩ := hfr k hk1
          have hfw := hf.below HB.out
          obtain ⟨e0, e1, e2⟩ := hfw.cells
          have hfl := hf.2.2.2
          have HFF := Lib.hid hf
          have d1 : (k : Int) < (n : Int) := by omega
          have d2 : (k : Int) < 50 := by omega
          have hlw : lb < wr.heap.size := Nat.lt_of_lt_of_le hlb HB.out.size
          clear hf hfw hfr
          obtain ⟨gid, grem, m, gad, gc⟩ := f
          simp only at e0 e1 e2 hfl
          by_cases hb100 : m.length ≤ 100
          · have d4 : (m.length : Int) ≤ 100 := by omega
            go_wp2_with fail
            refine (recv_any c 128 (ov : Int) s gid grem m gad gc _ HQ.out (by omega) (by omega) hs0 (by omega) (by omega) (HFF.out.2.1.below HB.out)).mono ?_
            rintro e w6 ⟨rfl, hQ6, hu6⟩
            have hin := rc_inc 128 (ov : Int) gid grem m
            generalize rcR 128 (ov : Int) gid grem m = r at *
            obtain ⟨r1, r2, r3, r4⟩ := r
            simp only at hin hQ6
            have HB6 := Lib.hid (HB.out.trans (hu6.toBelow (B := w.heap.size) hwr (fun i hi (e : i = c) => by omega)))
            have HP6 := Lib.hid (hu6.block_some HP.out (by show ¬ b = c; omega))
            have HX6 := Lib.hid (hu6.block_some HX.out (by show ¬ w.heap.size = c; omega))
            have HQ6 := Lib.hid hQ6
            clear hQ6 hu6
            go_wp2_with fail
            go_roundw
            case rel => exact ⟨k + 1, by omega, by go_num, s + r4, by omega, by omega, HP6.out, HQ6.out, HX6.out, HB6.out⟩
            case measure => simp [intOf]; omega
          · have d4 : ¬ (m.length : Int) ≤ 100 := by omega
            generalize m.length = mm at *
            go_wp2_with fail
            go_roundw
            case rel => exact ⟨k + 1, by omega, by go_num, s, by omega, by omega, HP.out, HQ.out, HX.out, HB.out⟩
            case measure => simp [intOf]; omega
        · obtain ⟨x0, x1, x2⟩ := cells3' HX.out
          have kx : w.heap.size < wr.heap.size := lt_of_block HX.out
          have key : ∀ W : World, Below w.heap.size w W → Bytes W fa l := fun W hW => HY.out.below hW
          have KEY := Lib.hid key
          clear key
          by_cases hk2 : k < 50
          · have d1 : (n : Int) ≤ (k : Int) := by omega
            clear hk1
            go_wp2_with fail
            refine (recv_any b 128 (ov : Int) 0 fid rem l fa fc _ HP.out (by omega) (by omega) (by omega) (by omega) (by omega) (KEY.out _ HB.out)).mono ?_
            rintro e w6 ⟨rfl, hP6, hu6⟩
            have HB6 := Lib.hid (HB.out.trans (hu6.toBelow (B := w.heap.size) hwr (fun i hi (e : i = b) => by omega)))
            have HQ6 := Lib.hid (hu6.block_some HQ.out (by show ¬ c = b; omega))
            have HX6 := Lib.hid (hu6.block_some HX.out (by show ¬ w.heap.size = b; omega))
            have hw6 := hu6.size
            clear hP6 hu6 x0 x1 x2
            obtain ⟨x0, x1, x2⟩ := cells3' HX6.out
            have kx6 : w.heap.size < w6.heap.size := by omega
            go_wp2_with fail
            refine (recv_any c 128 (ov : Int) s fid rem l fa fc _ HQ6.out (by omega) (by omega) hs0 (by omega) (by omega) (KEY.out _ HB6.out)).mono ?_
            rintro e w7 ⟨rfl, hQ7, hu7⟩
            have HB7 := Lib.hid (HB6.out.trans (hu7.toBelow (B := w.heap.size) (by omega) (fun i hi (e : i = c) => by omega)))
            have HX7 := Lib.hid (hu7.block_some HX6.out (by show ¬ w.heap.size = c; omega))
            have hw7 := hu7.size
            clear hQ7 hu7 x0 x1 x2
            obtain ⟨x0, x1, x2⟩ := cells3' HX7.out
            have kx7 : w.heap.size < w7.heap.size := by omega
            rcases rc_four (ov : Int) fid rem l (by omega) with ⟨h1, e⟩ | ⟨rfl, rfl, e⟩ | ⟨rfl, rfl, h1, e⟩ | ⟨rfl, rfl, e⟩ | ⟨rfl, rfl, h1, x, h2, h3, e⟩
            all_goals
              simp only [e]
              have e' := True.intro
              clear e
              generalize l.length = ll at *
            · have h1' : (fid != 128) = true := by simpa [bne] using h1
              go_wp2_with fail
              refine (known28 _).mono ?_
              rintro e w8 ⟨rfl, hb8⟩
              go_wp2_with fail
              go_ret
              exact ⟨rfl, bstep (B := w.heap.size) (w := w) hb8 HB7.out (Nat.le_refl _)⟩
            · go_wp2_with fail
              refine (known28 _).mono ?_
              rintro e w8 ⟨rfl, hb8⟩
              go_wp2_with fail
              go_ret
              exact ⟨rfl, bstep (B := w.heap.size) (w := w) hb8 HB7.out (Nat.le_refl _)⟩
            · have h1' : ((ov : Int) == (0 : Int)) = true := by simp [h1]
              have H1 := Lib.hid h1
              clear h1
              go_wp2_with fail
              refine (known28 _).mono ?_
              rintro e w8 ⟨rfl, hb8⟩
              go_wp2_with fail
              go_ret
              exact ⟨rfl, bstep (B := w.heap.size) (w := w) hb8 HB7.out (Nat.le_refl _)⟩
            · go_wp2_with fail
              refine (known28 _).mono ?_
              rintro e w8 ⟨rfl, hb8⟩
              go_wp2_with fail
              go_ret
              exact ⟨rfl, bstep (B := w.heap.size) (w := w) hb8 HB7.out (Nat.le_refl _)⟩
            · have q1 : decide (x < 0) = false := by rw [decide_eq_false_iff_not]; omega
              have q2 : decide ((ov : Int) < x) = false := by rw [decide_eq_false_iff_not]; omega
              have q3 : decide (0 < x) = true := by rw [decide_eq_true_iff]; omega
              go_wp2_with fail
              refine (known28 _).mono ?_
              rintro e w8 ⟨rfl, hb8⟩
              go_wp2_with fail
              go_ret
              exact ⟨rfl, bstep (B := w.heap.size) (w := w) hb8 HB7.out (Nat.le_refl _)⟩
          · obtain rfl : k = 50 := by omega
            have d1 : (50 : Int) < (n : Int) ∨ (n : Int) ≤ 50 := by omega
            clear hk1
            rcases d1 with d1 | d1
            · go_wp2_with fail
              refine (recv_any b 128 (ov : Int) 0 fid rem l fa fc _ HP.out (by omega) (by omega) (by omega) (by omega) (by omega) (KEY.out _ HB.out)).mono ?_
              rintro e w6 ⟨rfl, hP6, hu6⟩
              have HB6 := Lib.hid (HB.out.trans (hu6.toBelow (B := w.heap.size) hwr (fun i hi (e : i = b) => by omega)))
              have HQ6 := Lib.hid (hu6.block_some HQ.out (by show ¬ c = b; omega))
              have HX6 := Lib.hid (hu6.block_some HX.out (by show ¬ w.heap.size = b; omega))
              have hw6 := hu6.size
              clear hP6 hu6 x0 x1 x2
              obtain ⟨x0, x1, x2⟩ := cells3' HX6.out
              have kx6 : w.heap.size < w6.heap.size := by omega
              go_wp2_with fail
              refine (recv_any c 128 (ov : Int) s fid rem l fa fc _ HQ6.out (by omega) (by omega) hs0 (by omega) (by omega) (KEY.out _ HB6.out)).mono ?_
              rintro e w7 ⟨rfl, hQ7, hu7⟩
              have HB7 := Lib.hid (HB6.out.trans (hu7.toBelow (B := w.heap.size) (by omega) (fun i hi (e : i = c) => by omega)))
              have HX7 := Lib.hid (hu7.block_some HX6.out (by show ¬ w.heap.size = c; omega))
              have hw7 := hu7.size
              clear hQ7 hu7 x0 x1 x2
              obtain ⟨x0, x1, x2⟩ := cells3' HX7.out
              have kx7 : w.heap.size < w7.heap.size := by omega
              rcases rc_four (ov : Int) fid rem l (by omega) with ⟨h1, e⟩ | ⟨rfl, rfl, e⟩ | ⟨rfl, rfl, h1, e⟩ | ⟨rfl, rfl, e⟩ | ⟨rfl, rfl, h1, x, h2, h3, e⟩
              all_goals
                simp only [e]
                have e' := True.intro
                clear e
                generalize l.length = ll at *
              · have h1' : (fid != 128) = true := by simpa [bne] using h1
                go_wp2_with fail
                refine (known28 _).mono ?_
                rintro e w8 ⟨rfl, hb8⟩
                go_wp2_with fail
                go_ret
                exact ⟨rfl, bstep (B := w.heap.size) (w := w) hb8 HB7.out (Nat.le_refl _)⟩
              · go_wp2_with fail
                refine (known28 _).mono ?_
                rintro e w8 ⟨rfl, hb8⟩
                go_wp2_with fail
                go_ret
                exact ⟨rfl, bstep (B := w.heap.size) (w := w) hb8 HB7.out (Nat.le_refl _)⟩
              · have h1' : ((ov : Int) == (0 : Int)) = true := by simp [h1]
                have H1 := Lib.hid h1
                clear h1
                go_wp2_with fail
                refine (known28 _).mono ?_
                rintro e w8 ⟨rfl, hb8⟩
                go_wp2_with fail
                go_ret
                exact ⟨rfl, bstep (B := w.heap.size) (w := w) hb8 HB7.out (Nat.le_refl _)⟩
              · go_wp2_with fail
                refine (known28 _).mono ?_
                rintro e w8 ⟨rfl, hb8⟩
                go_wp2_with fail
                go_ret
                exact ⟨rfl, bstep (B := w.heap.size) (w := w) hb8 HB7.out (Nat.le_refl _)⟩
              · have q1 : decide (x < 0) = false := by rw [decide_eq_false_iff_not]; omega
                have q2 : decide ((ov : Int) < x) = false := by rw [decide_eq_false_iff_not]; omega
                have q3 : decide (0 < x) = true := by rw [decide_eq_true_iff]; omega
                go_wp2_with fail
                refine (known28 _).mono ?_
                rintro e w8 ⟨rfl, hb8⟩
                go_wp2_with fail
                go_ret
                exact ⟨rfl, bstep (B := w.heap.size) (w := w) hb8 HB7.out (Nat.le_refl _)⟩
            · go_wp2_with fail
              refine (recv_any b 128 (ov : Int) 0 fid rem l fa fc _ HP.out (by omega) (by omega) (by omega) (by omega) (by omega) (KEY.out _ HB.out)).mono ?_
              rintro e w6 ⟨rfl, hP6, hu6⟩
              have HB6 := Lib.hid (HB.out.trans (hu6.toBelow (B := w.heap.size) hwr (fun i hi (e : i = b) => by omega)))
              have HQ6 := Lib.hid (hu6.block_some HQ.out (by show ¬ c = b; omega))
              have HX6 := Lib.hid (hu6.block_some HX.out (by show ¬ w.heap.size = b; omega))
              have hw6 := hu6.size
              clear hP6 hu6 x0 x1 x2
              obtain ⟨x0, x1, x2⟩ := cells3' HX6.out
              have kx6 : w.heap.size < w6.heap.size := by omega
              go_wp2_with fail
              refine (recv_any c 128 (ov : Int) s fid rem l fa fc _ HQ6.out (by omega) (by omega) hs0 (by omega) (by omega) (KEY.out _ HB6.out)).mono ?_
              rintro e w7 ⟨rfl, hQ7, hu7⟩
              have HB7 := Lib.hid (HB6.out.trans (hu7.toBelow (B := w.heap.size) (by omega) (fun i hi (e : i = c) => by omega)))
              have HX7 := Lib.hid (hu7.block_some HX6.out (by show ¬ w.heap.size = c; omega))
              have hw7 := hu7.size
              clear hQ7 hu7 x0 x1 x2
              obtain ⟨x0, x1, x2⟩ := cells3' HX7.out
              have kx7 : w.heap.size < w7.heap.size := by omega
              rcases rc_four (ov : Int) fid rem l (by omega) with ⟨h1, e⟩ | ⟨rfl, rfl, e⟩ | ⟨rfl, rfl, h1, e⟩ | ⟨rfl, rfl, e⟩ | ⟨rfl, rfl, h1, x, h2, h3, e⟩
              all_goals
                simp only [e]
                have e' := True.intro
                clear e
                generalize l.length = ll at *
              · have h1' : (fid != 128) = true := by simpa [bne] using h1
                go_wp2_with fail
                refine (known28 _).mono ?_
                rintro e w8 ⟨rfl, hb8⟩
                go_wp2_with fail
                go_ret
                exact ⟨rfl, bstep (B := w.heap.size) (w := w) hb8 HB7.out (Nat.le_refl _)⟩
              · go_wp2_with fail
                refine (known28 _).mono ?_
                rintro e w8 ⟨rfl, hb8⟩
                go_wp2_with fail
                go_ret
                exact ⟨rfl, bstep (B := w.heap.size) (w := w) hb8 HB7.out (Nat.le_refl _)⟩
              · have h1' : ((ov : Int) == (0 : Int)) = true := by simp [h1]
                have H1 := Lib.hid h1
                clear h1
                go_wp2_with fail
                refine (known28 _).mono ?_
                rintro e w8 ⟨rfl, hb8⟩
                go_wp2_with fail
                go_ret
                exact ⟨rfl, bstep (B := w.heap.size) (w := w) hb8 HB7.out (Nat.le_refl _)⟩
              · go_wp2_with fail
                refine (known28 _).mono ?_
                rintro e w8 ⟨rfl, hb8⟩
                go_wp2_with fail
                go_ret
                exact ⟨rfl, bstep (B := w.heap.size) (w := w) hb8 HB7.out (Nat.le_refl _)⟩
              · have q1 : decide (x < 0) = false := by rw [decide_eq_false_iff_not]; omega
                have q2 : decide ((ov : Int) < x) = false := by rw [decide_eq_false_iff_not]; omega
                have q3 : decide (0 < x) = true := by rw [decide_eq_true_iff]; omega
                go_wp2_with fail
                refine (known28 _).mono ?_
                rintro e w8 ⟨rfl, hb8⟩
                go_wp2_with fail
                go_ret
                exact ⟨rfl, bstep (B := w.heap.size) (w := w) hb8 HB7.out (Nat.le_refl _)⟩

set_option maxRecDepth 100000 in
set_option maxHeartbeats 16000000 in
theorem kinds_one (ov : Nat) (hov : ov < 256) (h : (ov : Int) = 1) (fid : Int) (rem : Bool) (l : List UInt8) (fa : Option Addr) (fc : Nat) (a : Option Addr) (n cap : Nat) (w : World)
    (hl : (l.length : Int) ≤ 9223372036854775807) (hB : Bytes w fa l) (hn : (n : Int) ≤ 9223372036854775807) (hF : Frames w a n) :
    Calls Try.prog 4 #[.int .u8 (ov : Int), .agg #[.int .i64 fid, .bool rem, .slice fa l.length fc], .slice a n cap] w fun e w' => e = .returned (.bool true) ∧ Below w.heap.size w w' := by
    have H := Lib.hid (pnew_128 0 (by omega))
    have HF := Lib.hid hF
    have HY := Lib.hid hB
    have v0 : (0 : Int) ≤ (ov : Int) := by omega
    have v1 : (ov : Int) < 256 := by omega
    clear hF hB
    obtain rfl : ov = 1 := by omega
    clear h
    go_enter Try.func4, Try.ntmps4
    go_wp2_with fail
    refine (H.out _).mono ?_
    rintro e w1 ⟨b, rfl, hbw, hP1, hb1⟩
    simp only [World.size_alloc] at hbw
    have HB1 := Lib.hid (bstep (B := w.heap.size) (w := w) hb1 (by go_grown) (Nat.le_refl _))
    have HX1 := Lib.hid (bkeep' hb1 (heap_alloc_new w _))
    have HP1 := Lib.hid hP1
    clear hb1 hP1
    go_wp2_with fail
    refine (H.out _).mono ?_
    rintro e w2 ⟨c, rfl, hcw, hQ2, hb2⟩
    have HB2 := Lib.hid (bstep (B := w.heap.size) (w := w) hb2 HB1.out (Nat.le_refl _))
    have HX2 := Lib.hid (bkeep' hb2 HX1.out)
    have HP2 := Lib.hid (bkeep' hb2 HP1.out)
    have HQ2 := Lib.hid hQ2
    have hbl := lt_of_block HP1.out
    have hbc : b < c := Nat.lt_of_lt_of_le hbl hcw
    have hwl := HB2.out.size
    obtain ⟨x0, x1, x2⟩ := cells3' HX2.out
    have kx : w.heap.size < w2.heap.size := lt_of_block HX2.out
    clear hb2 hQ2 HB1 HX1 HP1
    by_cases hbig : 100 < l.length
    · have d3 : (100 : Int) < (l.length : Int) := by omega
      generalize l.length = ll at *
      go_wp2_with fail
      refine (known28 _).mono ?_
      rintro e w5 ⟨rfl, hb5⟩
      go_wp2_with fail
      go_ret
      exact ⟨rfl, bstep (B := w.heap.size) (w := w) hb5 HB2.out (Nat.le_refl _)⟩
    · have d3 : (l.length : Int) ≤ 100 := by omega
      go_wp2_with fail
      go_loopw [12] (fun i wr => ∃ k : Nat, k ≤ 50 ∧ i = .int .i64 k ∧ KiI w b c 0 k fid rem fa l.length fc wr) (fun i _ => 50 - (intOf i).toNat)
      case atStart => exact ⟨0, by omega, rfl, 0, by omega, by omega, HP2.out, HQ2.out, HX2.out, HB2.out⟩
      case round =>
        obtain ⟨k, hk, rfl, s, hs0, hs1, hP, hQ, hX, hB⟩ := hrel
        have HP := Lib.hid hP
        have HQ := Lib.hid hQ
        have HX := Lib.hid hX
        have HB := Lib.hid hB
        clear hP hQ hX hB HP2 HQ2 HX2 HB2 x0 x1 x2 kx
        have hwr := HB.out.size
        have hcl := lt_of_block HQ.out
        by_cases hk1 : k < n ∧ k < 50
        · obtain ⟨hk1, hk2⟩ := hk1
          obtain ⟨lb, off, rfl, hlb, hfr⟩ : ∃ lb off, a = some ⟨lb, off, none⟩ ∧ lb < w.heap.size ∧ ∀ i, i < n → ∃ f : Fr, FrOk w lb off i f := by
            rcases HF.out with h0 | h0
            · omega
            · exact h0
          obtain ⟨f, hf⟩ := hfr k hk1
          have hfw := hf.below HB.out
          obtain ⟨e0, e1, e2⟩ := hfw.cells
          have hfl := hf.2.2.2
          have HFF := Lib.hid hf
          have d1 : (k : Int) < (n : Int) := by omega
          have d2 : (k : Int) < 50 := by omega
          have hlw : lb < wr.heap.size := Nat.lt_of_lt_of_le hlb HB.out.size
          clear hf hfw hfr
          obtain ⟨gid, grem, m, gad, gc⟩ := f
          simp only at e0 e1 e2 hfl
          by_cases hb100 : m.length ≤ 100
          · have d4 : (m.length : Int) ≤ 100 := by omega
            go_wp2_with fail
            refine (recv_any c 128 0 s gid grem m gad gc _ HQ.out (by omega) (by omega) hs0 (by omega) (by omega) (HFF.out.2.1.below HB.out)).mono ?_
            rintro e w6 ⟨rfl, hQ6, hu6⟩
            have hin := rc_inc 128 0 gid grem m
            generalize rcR 128 0 gid grem m = r at *
            obtain ⟨r1, r2, r3, r4⟩ := r
            simp only at hin hQ6
            have HB6 := Lib.hid (HB.out.trans (hu6.toBelow (B := w.heap.size) hwr (fun i hi (e : i = c) => by omega)))
            have HP6 := Lib.hid (hu6.block_some HP.out (by show ¬ b = c; omega))
            have HX6 := Lib.hid (hu6.block_some HX.out (by show ¬ w.heap.size = c; omega))
            have HQ6 := Lib.hid hQ6
            clear hQ6 hu6
            go_wp2_with fail
            go_roundw
            case rel => exact ⟨k + 1, by omega, by go_num, s + r4, by omega, by omega, HP6.out, HQ6.out, HX6.out, HB6.out⟩
            case measure => simp [intOf]; omega
          · have d4 : ¬ (m.length : Int) ≤ 100 := by omega
            generalize m.length = mm at *
            go_wp2_with fail
            go_roundw
            case rel => exact ⟨k + 1, by omega, by go_num, s, by omega, by omega, HP.out, HQ.out, HX.out, HB.out⟩
            case measure => simp [intOf]; omega
        · obtain ⟨x0, x1, x2⟩ := cells3' HX.out
          have kx : w.heap.size < wr.heap.size := lt_of_block HX.out
          have key : ∀ W : World, Below w.heap.size w W → Bytes W fa l := fun W hW => HY.out.below hW
          have KEY := Lib.hid key
          clear key
          by_cases hk2 : k < 50
          · have d1 : (n : Int) ≤ (k : Int) := by omega
            clear hk1
            go_wp2_with fail
            refine (recv_any b 128 0 0 fid rem l fa fc _ HP.out (by omega) (by omega) (by omega) (by omega) (by omega) (KEY.out _ HB.out)).mono ?_
            rintro e w6 ⟨rfl, hP6, hu6⟩
            have HB6 := Lib.hid (HB.out.trans (hu6.toBelow (B := w.heap.size) hwr (fun i hi (e : i = b) => by omega)))
            have HQ6 := Lib.hid (hu6.block_some HQ.out (by show ¬ c = b; omega))
            have HX6 := Lib.hid (hu6.block_some HX.out (by show ¬ w.heap.size = b; omega))
            have hw6 := hu6.size
            clear hP6 hu6 x0 x1 x2
            obtain ⟨x0, x1, x2⟩ := cells3' HX6.out
            have kx6 : w.heap.size < w6.heap.size := by omega
            go_wp2_with fail
            refine (recv_any c 128 0 s fid rem l fa fc _ HQ6.out (by omega) (by omega) hs0 (by omega) (by omega) (KEY.out _ HB6.out)).mono ?_
            rintro e w7 ⟨rfl, hQ7, hu7⟩
            have HB7 := Lib.hid (HB6.out.trans (hu7.toBelow (B := w.heap.size) (by omega) (fun i hi (e : i = c) => by omega)))
            have HX7 := Lib.hid (hu7.block_some HX6.out (by show ¬ w.heap.size = c; omega))
            have hw7 := hu7.size
            clear hQ7 hu7 x0 x1 x2
            obtain ⟨x0, x1, x2⟩ := cells3' HX7.out
            have kx7 : w.heap.size < w7.heap.size := by omega
            rcases rc_four 0 fid rem l (by omega) with ⟨h1, e⟩ | ⟨rfl, rfl, e⟩ | ⟨rfl, rfl, h1, e⟩ | ⟨rfl, rfl, e⟩ | ⟨rfl, rfl, h1, x, h2, h3, e⟩
            all_goals
              simp only [e]
              have e' := True.intro
              clear e
              generalize l.length = ll at *
            · have h1' : (fid != 128) = true := by simpa [bne] using h1
              go_wp2_with fail
              refine (known28 _).mono ?_
              rintro e w8 ⟨rfl, hb8⟩
              go_wp2_with fail
              go_ret
              exact ⟨rfl, bstep (B := w.heap.size) (w := w) hb8 HB7.out (Nat.le_refl _)⟩
            · go_wp2_with fail
              refine (known28 _).mono ?_
              rintro e w8 ⟨rfl, hb8⟩
              go_wp2_with fail
              go_ret
              exact ⟨rfl, bstep (B := w.heap.size) (w := w) hb8 HB7.out (Nat.le_refl _)⟩
            · have h1' : (0 == (0 : Int)) = true := by simp [h1]
              have H1 := Lib.hid h1
              clear h1
              go_wp2_with fail
              refine (known28 _).mono ?_
              rintro e w8 ⟨rfl, hb8⟩
              go_wp2_with fail
              go_ret
              exact ⟨rfl, bstep (B := w.heap.size) (w := w) hb8 HB7.out (Nat.le_refl _)⟩
            · go_wp2_with fail
              refine (known28 _).mono ?_
              rintro e w8 ⟨rfl, hb8⟩
              go_wp2_with fail
              go_ret
              exact ⟨rfl, bstep (B := w.heap.size) (w := w) hb8 HB7.out (Nat.le_refl _)⟩
            · exfalso; omega
          · obtain rfl : k = 50 := by omega
            have d1 : (50 : Int) < (n : Int) ∨ (n : Int) ≤ 50 := by omega
            clear hk1
            rcases d1 with d1 | d1
            · go_wp2_with fail
              refine (recv_any b 128 0 0 fid rem l fa fc _ HP.out (by omega) (by omega) (by omega) (by omega) (by omega) (KEY.out _ HB.out)).mono ?_
              rintro e w6 ⟨rfl, hP6, hu6⟩
              have HB6 := Lib.hid (HB.out.trans (hu6.toBelow (B := w.heap.size) hwr (fun i hi (e : i = b) => by omega)))
              have HQ6 := Lib.hid (hu6.block_some HQ.out (by show ¬ c = b; omega))
              have HX6 := Lib.hid (hu6.block_some HX.out (by show ¬ w.heap.size = b; omega))
              have hw6 := hu6.size
              clear hP6 hu6 x0 x1 x2
              obtain ⟨x0, x1, x2⟩ := cells3' HX6.out
              have kx6 : w.heap.size < w6.heap.size := by omega
              go_wp2_with fail
              refine (recv_any c 128 0 s fid rem l fa fc _ HQ6.out (by omega) (by omega) hs0 (by omega) (by omega) (KEY.out _ HB6.out)).mono ?_
              rintro e w7 ⟨rfl, hQ7, hu7⟩
              have HB7 := Lib.hid (HB6.out.trans (hu7.toBelow (B := w.heap.size) (by omega) (fun i hi (e : i = c) => by omega)))
              have HX7 := Lib.hid (hu7.block_some HX6.out (by show ¬ w.heap.size = c; omega))
              have hw7 := hu7.size
              clear hQ7 hu7 x0 x1 x2
              obtain ⟨x0, x1, x2⟩ := cells3' HX7.out
              have kx7 : w.heap.size < w7.heap.size := by omega
              rcases rc_four 0 fid rem l (by omega) with ⟨h1, e⟩ | ⟨rfl, rfl, e⟩ | ⟨rfl, rfl, h1, e⟩ | ⟨rfl, rfl, e⟩ | ⟨rfl, rfl, h1, x, h2, h3, e⟩
              all_goals
                simp only [e]
                have e' := True.intro
                clear e
                generalize l.length = ll at *
              · have h1' : (fid != 128) = true := by simpa [bne] using h1
                go_wp2_with fail
                refine (known28 _).mono ?_
                rintro e w8 ⟨rfl, hb8⟩
                go_wp2_with fail
                go_ret
                exact ⟨rfl, bstep (B := w.heap.size) (w := w) hb8 HB7.out (Nat.le_refl _)⟩
              · go_wp2_with fail
                refine (known28 _).mono ?_
                rintro e w8 ⟨rfl, hb8⟩
                go_wp2_with fail
                go_ret
                exact ⟨rfl, bstep (B := w.heap.size) (w := w) hb8 HB7.out (Nat.le_refl _)⟩
              · have h1' : (0 == (0 : Int)) = true := by simp [h1]
                have H1 := Lib.hid h1
                clear h1
                go_wp2_with fail
                refine (known28 _).mono ?_
                rintro e w8 ⟨rfl, hb8⟩
                go_wp2_with fail
                go_ret
                exact ⟨rfl, bstep (B := w.heap.size) (w := w) hb8 HB7.out (Nat.le_refl _)⟩
              · go_wp2_with fail
                refine (known28 _).mono ?_
                rintro e w8 ⟨rfl, hb8⟩
                go_wp2_with fail
                go_ret
                exact ⟨rfl, bstep (B := w.heap.size) (w := w) hb8 HB7.out (Nat.le_refl _)⟩
              · exfalso; omega
            · go_wp2_with fail
              refine (recv_any b 128 0 0 fid rem l fa fc _ HP.out (by omega) (by omega) (by omega) (by omega) (by omega) (KEY.out _ HB.out)).mono ?_
              rintro e w6 ⟨rfl, hP6, hu6⟩
              have HB6 := Lib.hid (HB.out.trans (hu6.toBelow (B := w.heap.size) hwr (fun i hi (e : i = b) => by omega)))
              have HQ6 := Lib.hid (hu6.block_some HQ.out (by show ¬ c = b; omega))
              have HX6 := Lib.hid (hu6.block_some HX.out (by show ¬ w.heap.size = b; omega))
              have hw6 := hu6.size
              clear hP6 hu6 x0 x1 x2
              obtain ⟨x0, x1, x2⟩ := cells3' HX6.out
              have kx6 : w.heap.size < w6.heap.size := by omega
              go_wp2_with fail
              refine (recv_any c 128 0 s fid rem l fa fc _ HQ6.out (by omega) (by omega) hs0 (by omega) (by omega) (KEY.out _ HB6.out)).mono ?_
              rintro e w7 ⟨rfl, hQ7, hu7⟩
              have HB7 := Lib.hid (HB6.out.trans (hu7.toBelow (B := w.heap.size) (by omega) (fun i hi (e : i = c) => by omega)))
              have HX7 := Lib.hid (hu7.block_some HX6.out (by show ¬ w.heap.size = c; omega))
              have hw7 := hu7.size
              clear hQ7 hu7 x0 x1 x2
              obtain ⟨x0, x1, x2⟩ := cells3' HX7.out
              have kx7 : w.heap.size < w7.heap.size := by omega
              rcases rc_four 0 fid rem l (by omega) with ⟨h1, e⟩ | ⟨rfl, rfl, e⟩ | ⟨rfl, rfl, h1, e⟩ | ⟨rfl, rfl, e⟩ | ⟨rfl, rfl, h1, x, h2, h3, e⟩
              all_goals
                simp only [e]
                have e' := True.intro
                clear e
                generalize l.length = ll at *
              · have h1' : (fid != 128) = true := by simpa [bne] using h1
                go_wp2_with fail
                refine (known28 _).mono ?_
                rintro e w8 ⟨rfl, hb8⟩
                go_wp2_with fail
                go_ret
                exact ⟨rfl, bstep (B := w.heap.size) (w := w) hb8 HB7.out (Nat.le_refl _)⟩
              · go_wp2_with fail
                refine (known28 _).mono ?_
                rintro e w8 ⟨rfl, hb8⟩
                go_wp2_with fail
                go_ret
                exact ⟨rfl, bstep (B := w.heap.size) (w := w) hb8 HB7.out (Nat.le_refl _)⟩
              · have h1' : (0 == (0 : Int)) = true := by simp [h1]
                have H1 := Lib.hid h1
                clear h1
                go_wp2_with fail
                refine (known28 _).mono ?_
                rintro e w8 ⟨rfl, hb8⟩
                go_wp2_with fail
                go_ret
                exact ⟨rfl, bstep (B := w.heap.size) (w := w) hb8 HB7.out (Nat.le_refl _)⟩
              · go_wp2_with fail
                refine (known28 _).mono ?_
                rintro e w8 ⟨rfl, hb8⟩
                go_wp2_with fail
                go_ret
                exact ⟨rfl, bstep (B := w.heap.size) (w := w) hb8 HB7.out (Nat.le_refl _)⟩
              · exfalso; omega

set_option maxRecDepth 100000 in
set_option maxHeartbeats 16000000 in
theorem kinds_big (ov : Nat) (hov : ov < 256) (h : 240 < (ov : Int)) (fid : Int) (rem : Bool) (l : List UInt8) (fa : Option Addr) (fc : Nat) (a : Option Addr) (n cap : Nat) (w : World)
    (hl : (l.length : Int) ≤ 9223372036854775807) (hB : Bytes w fa l) (hn : (n : Int) ≤ 9223372036854775807) (hF : Frames w a n) :
    Calls Try.prog 4 #[.int .u8 (ov : Int), .agg #[.int .i64 fid, .bool rem, .slice fa l.length fc], .slice a n cap] w fun e w' => e = .returned (.bool true) ∧ Below w.heap.size w w' := by
    have H := Lib.hid (pnew_128 0 (by omega))
    have HF := Lib.hid hF
    have HY := Lib.hid hB
    have v0 : (0 : Int) ≤ (ov : Int) := by omega
    have v1 : (ov : Int) < 256 := by omega
    clear hF hB
    have c2 : ((ov : Int) == 1) = false := by rw [beq_eq_false_iff_ne]; omega
    have c2' : (ov == 1) = false := by rw [beq_eq_false_iff_ne]; omega
    have c3 : decide (240 < (ov : Int)) = true := by rw [decide_eq_true_iff]; omega
    have c4 : decide (240 < ov) = true := by rw [decide_eq_true_iff]; omega
    clear h
    go_enter Try.func4, Try.ntmps4
    go_wp2_with fail
    refine (H.out _).mono ?_
    rintro e w1 ⟨b, rfl, hbw, hP1, hb1⟩
    simp only [World.size_alloc] at hbw
    have HB1 := Lib.hid (bstep (B := w.heap.size) (w := w) hb1 (by go_grown) (Nat.le_refl _))
    have HX1 := Lib.hid (bkeep' hb1 (heap_alloc_new w _))
    have HP1 := Lib.hid hP1
    clear hb1 hP1
    go_wp2_with fail
    refine (H.out _).mono ?_
    rintro e w2 ⟨c, rfl, hcw, hQ2, hb2⟩
    have HB2 := Lib.hid (bstep (B := w.heap.size) (w := w) hb2 HB1.out (Nat.le_refl _))
    have HX2 := Lib.hid (bkeep' hb2 HX1.out)
    have HP2 := Lib.hid (bkeep' hb2 HP1.out)
    have HQ2 := Lib.hid hQ2
    have hbl := lt_of_block HP1.out
    have hbc : b < c := Nat.lt_of_lt_of_le hbl hcw
    have hwl := HB2.out.size
    obtain ⟨x0, x1, x2⟩ := cells3' HX2.out
    have kx : w.heap.size < w2.heap.size := lt_of_block HX2.out
    clear hb2 hQ2 HB1 HX1 HP1
    by_cases hbig : 100 < l.length
    · have d3 : (100 : Int) < (l.length : Int) := by omega
      generalize l.length = ll at *
      go_wp2_with fail
      refine (known28 _).mono ?_
      rintro e w5 ⟨rfl, hb5⟩
      go_wp2_with fail
      go_ret
      exact ⟨rfl, bstep (B := w.heap.size) (w := w) hb5 HB2.out (Nat.le_refl _)⟩
    · have d3 : (l.length : Int) ≤ 100 := by omega
      go_wp2_with fail
      go_loopw [12] (fun i wr => ∃ k : Nat, k ≤ 50 ∧ i = .int .i64 k ∧ KiI w b c 0 k fid rem fa l.length fc wr) (fun i _ => 50 - (intOf i).toNat)
      case atStart => exact ⟨0, by omega, rfl, 0, by omega, by omega, HP2.out, HQ2.out, HX2.out, HB2.out⟩
      case round =>
        obtain ⟨k, hk, rfl, s, hs0, hs1, hP, hQ, hX, hB⟩ := hrel
        have HP := Lib.hid hP
        have HQ := Lib.hid hQ
        have HX := Lib.hid hX
        have HB := Lib.hid hB
        clear hP hQ hX hB HP2 HQ2 HX2 HB2 x0 x1 x2 kx
        have hwr := HB.out.size
        have hcl := lt_of_block HQ.out
        by_cases hk1 : k < n ∧ k < 50
        · obtain ⟨hk1, hk2⟩ := hk1
          obtain ⟨lb, off, rfl, hlb, hfr⟩ : ∃ lb off, a = some ⟨lb, off, none⟩ ∧ lb < w.heap.size ∧ ∀ i, i < n → ∃ f : Fr, FrOk w lb off i f := by
            rcases HF.out with h0 | h0
            · omega
            · exact h0
          obtain ⟨f, hf⟩ := hfr k hk1
          have hfw := hf.below HB.out
          obtain ⟨e0, e1, e2⟩ := hfw.cells
          have hfl := hf.2.2.2
          have HFF := Lib.hid hf
          have d1 : (k : Int) < (n : Int) := by omega
          have d2 : (k : Int) < 50 := by omega
          have hlw : lb < wr.heap.size := Nat.lt_of_lt_of_le hlb HB.out.size
          clear hf hfw hfr
          obtain ⟨gid, grem, m, gad, gc⟩ := f
          simp only at e0 e1 e2 hfl
          by_cases hb100 : m.length ≤ 100
          · have d4 : (m.length : Int) ≤ 100 := by omega
            go_wp2_with fail
            refine (recv_any c 128 0 s gid grem m gad gc _ HQ.out (by omega) (by omega) hs0 (by omega) (by omega) (HFF.out.2.1.below HB.out)).mono ?_
            rintro e w6 ⟨rfl, hQ6, hu6⟩
            have hin := rc_inc 128 0 gid grem m
            generalize rcR 128 0 gid grem m = r at *
            obtain ⟨r1, r2, r3, r4⟩ := r
            simp only at hin hQ6
            have HB6 := Lib.hid (HB.out.trans (hu6.toBelow (B := w.heap.size) hwr (fun i hi (e : i = c) => by omega)))
            have HP6 := Lib.hid (hu6.block_some HP.out (by show ¬ b = c; omega))
            have HX6 := Lib.hid (hu6.block_some HX.out (by show ¬ w.heap.size = c; omega))
            have HQ6 := Lib.hid hQ6
            clear hQ6 hu6
            go_wp2_with fail
            go_roundw
            case rel => exact ⟨k + 1, by omega, by go_num, s + r4, by omega, by omega, HP6.out, HQ6.out, HX6.out, HB6.out⟩
            case measure => simp [intOf]; omega
          · have d4 : ¬ (m.length : Int) ≤ 100 := by omega
            generalize m.length = mm at *
            go_wp2_with fail
            go_roundw
            case rel => exact ⟨k + 1, by omega, by go_num, s, by omega, by omega, HP.out, HQ.out, HX.out, HB.out⟩
            case measure => simp [intOf]; omega
        · obtain ⟨x0, x1, x2⟩ := cells3' HX.out
          have kx : w.heap.size < wr.heap.size := lt_of_block HX.out
          have key : ∀ W : World, Below w.heap.size w W → Bytes W fa l := fun W hW => HY.out.below hW
          have KEY := Lib.hid key
          clear key
          by_cases hk2 : k < 50
          · have d1 : (n : Int) ≤ (k : Int) := by omega
            clear hk1
            go_wp2_with fail
            refine (recv_any b 128 0 0 fid rem l fa fc _ HP.out (by omega) (by omega) (by omega) (by omega) (by omega) (KEY.out _ HB.out)).mono ?_
            rintro e w6 ⟨rfl, hP6, hu6⟩
            have HB6 := Lib.hid (HB.out.trans (hu6.toBelow (B := w.heap.size) hwr (fun i hi (e : i = b) => by omega)))
            have HQ6 := Lib.hid (hu6.block_some HQ.out (by show ¬ c = b; omega))
            have HX6 := Lib.hid (hu6.block_some HX.out (by show ¬ w.heap.size = b; omega))
            have hw6 := hu6.size
            clear hP6 hu6 x0 x1 x2
            obtain ⟨x0, x1, x2⟩ := cells3' HX6.out
            have kx6 : w.heap.size < w6.heap.size := by omega
            go_wp2_with fail
            refine (recv_any c 128 0 s fid rem l fa fc _ HQ6.out (by omega) (by omega) hs0 (by omega) (by omega) (KEY.out _ HB6.out)).mono ?_
            rintro e w7 ⟨rfl, hQ7, hu7⟩
            have HB7 := Lib.hid (HB6.out.trans (hu7.toBelow (B := w.heap.size) (by omega) (fun i hi (e : i = c) => by omega)))
            have HX7 := Lib.hid (hu7.block_some HX6.out (by show ¬ w.heap.size = c; omega))
            have hw7 := hu7.size
            clear hQ7 hu7 x0 x1 x2
            obtain ⟨x0, x1, x2⟩ := cells3' HX7.out
            have kx7 : w.heap.size < w7.heap.size := by omega
            rcases rc_four 0 fid rem l (by omega) with ⟨h1, e⟩ | ⟨rfl, rfl, e⟩ | ⟨rfl, rfl, h1, e⟩ | ⟨rfl, rfl, e⟩ | ⟨rfl, rfl, h1, x, h2, h3, e⟩
            all_goals
              simp only [e]
              have e' := True.intro
              clear e
              generalize l.length = ll at *
            · have h1' : (fid != 128) = true := by simpa [bne] using h1
              go_wp2_with fail
              refine (known28 _).mono ?_
              rintro e w8 ⟨rfl, hb8⟩
              go_wp2_with fail
              go_ret
              exact ⟨rfl, bstep (B := w.heap.size) (w := w) hb8 HB7.out (Nat.le_refl _)⟩
            · go_wp2_with fail
              refine (known28 _).mono ?_
              rintro e w8 ⟨rfl, hb8⟩
              go_wp2_with fail
              go_ret
              exact ⟨rfl, bstep (B := w.heap.size) (w := w) hb8 HB7.out (Nat.le_refl _)⟩
            · have h1' : (0 == (0 : Int)) = true := by simp [h1]
              have H1 := Lib.hid h1
              clear h1
              go_wp2_with fail
              refine (known28 _).mono ?_
              rintro e w8 ⟨rfl, hb8⟩
              go_wp2_with fail
              go_ret
              exact ⟨rfl, bstep (B := w.heap.size) (w := w) hb8 HB7.out (Nat.le_refl _)⟩
            · go_wp2_with fail
              refine (known28 _).mono ?_
              rintro e w8 ⟨rfl, hb8⟩
              go_wp2_with fail
              go_ret
              exact ⟨rfl, bstep (B := w.heap.size) (w := w) hb8 HB7.out (Nat.le_refl _)⟩
            · exfalso; omega
          · obtain rfl : k = 50 := by omega
            have d1 : (50 : Int) < (n : Int) ∨ (n : Int) ≤ 50 := by omega
            clear hk1
            rcases d1 with d1 | d1
            · go_wp2_with fail
              refine (recv_any b 128 0 0 fid rem l fa fc _ HP.out (by omega) (by omega) (by omega) (by omega) (by omega) (KEY.out _ HB.out)).mono ?_
              rintro e w6 ⟨rfl, hP6, hu6⟩
              have HB6 := Lib.hid (HB.out.trans (hu6.toBelow (B := w.heap.size) hwr (fun i hi (e : i = b) => by omega)))
              have HQ6 := Lib.hid (hu6.block_some HQ.out (by show ¬ c = b; omega))
              have HX6 := Lib.hid (hu6.block_some HX.out (by show ¬ w.heap.size = b; omega))
              have hw6 := hu6.size
              clear hP6 hu6 x0 x1 x2
              obtain ⟨x0, x1, x2⟩ := cells3' HX6.out
              have kx6 : w.heap.size < w6.heap.size := by omega
              go_wp2_with fail
              refine (recv_any c 128 0 s fid rem l fa fc _ HQ6.out (by omega) (by omega) hs0 (by omega) (by omega) (KEY.out _ HB6.out)).mono ?_
              rintro e w7 ⟨rfl, hQ7, hu7⟩
              have HB7 := Lib.hid (HB6.out.trans (hu7.toBelow (B := w.heap.size) (by omega) (fun i hi (e : i = c) => by omega)))
              have HX7 := Lib.hid (hu7.block_some HX6.out (by show ¬ w.heap.size = c; omega))
              have hw7 := hu7.size
              clear hQ7 hu7 x0 x1 x2
              obtain ⟨x0, x1, x2⟩ := cells3' HX7.out
              have kx7 : w.heap.size < w7.heap.size := by omega
              rcases rc_four 0 fid rem l (by omega) with ⟨h1, e⟩ | ⟨rfl, rfl, e⟩ | ⟨rfl, rfl, h1, e⟩ | ⟨rfl, rfl, e⟩ | ⟨rfl, rfl, h1, x, h2, h3, e⟩
              all_goals
                simp only [e]
                have e' := True.intro
                clear e
                generalize l.length = ll at *
              · have h1' : (fid != 128) = true := by simpa [bne] using h1
                go_wp2_with fail
                refine (known28 _).mono ?_
                rintro e w8 ⟨rfl, hb8⟩
                go_wp2_with fail
                go_ret
                exact ⟨rfl, bstep (B := w.heap.size) (w := w) hb8 HB7.out (Nat.le_refl _)⟩
              · go_wp2_with fail
                refine (known28 _).mono ?_
                rintro e w8 ⟨rfl, hb8⟩
                go_wp2_with fail
                go_ret
                exact ⟨rfl, bstep (B := w.heap.size) (w := w) hb8 HB7.out (Nat.le_refl _)⟩
              · have h1' : (0 == (0 : Int)) = true := by simp [h1]
                have H1 := Lib.hid h1
                clear h1
                go_wp2_with fail
                refine (known28 _).mono ?_
                rintro e w8 ⟨rfl, hb8⟩
                go_wp2_with fail
                go_ret
                exact ⟨rfl, bstep (B := w.heap.size) (w := w) hb8 HB7.out (Nat.le_refl _)⟩
              · go_wp2_with fail
                refine (known28 _).mono ?_
                rintro e w8 ⟨rfl, hb8⟩
                go_wp2_with fail
                go_ret
                exact ⟨rfl, bstep (B := w.heap.size) (w := w) hb8 HB7.out (Nat.le_refl _)⟩
              · exfalso; omega
            · go_wp2_with fail
              refine (recv_any b 128 0 0 fid rem l fa fc _ HP.out (by omega) (by omega) (by omega) (by omega) (by omega) (KEY.out _ HB.out)).mono ?_
              rintro e w6 ⟨rfl, hP6, hu6⟩
              have HB6 := Lib.hid (HB.out.trans (hu6.toBelow (B := w.heap.size) hwr (fun i hi (e : i = b) => by omega)))
              have HQ6 := Lib.hid (hu6.block_some HQ.out (by show ¬ c = b; omega))
              have HX6 := Lib.hid (hu6.block_some HX.out (by show ¬ w.heap.size = b; omega))
              have hw6 := hu6.size
              clear hP6 hu6 x0 x1 x2
              obtain ⟨x0, x1, x2⟩ := cells3' HX6.out
              have kx6 : w.heap.size < w6.heap.size := by omega
              go_wp2_with fail
              refine (recv_any c 128 0 s fid rem l fa fc _ HQ6.out (by omega) (by omega) hs0 (by omega) (by omega) (KEY.out _ HB6.out)).mono ?_
              rintro e w7 ⟨rfl, hQ7, hu7⟩
              have HB7 := Lib.hid (HB6.out.trans (hu7.toBelow (B := w.heap.size) (by omega) (fun i hi (e : i = c) => by omega)))
              have HX7 := Lib.hid (hu7.block_some HX6.out (by show ¬ w.heap.size = c; omega))
              have hw7 := hu7.size
              clear hQ7 hu7 x0 x1 x2
              obtain ⟨x0, x1, x2⟩ := cells3' HX7.out
              have kx7 : w.heap.size < w7.heap.size := by omega
              rcases rc_four 0 fid rem l (by omega) with ⟨h1, e⟩ | ⟨rfl, rfl, e⟩ | ⟨rfl, rfl, h1, e⟩ | ⟨rfl, rfl, e⟩ | ⟨rfl, rfl, h1, x, h2, h3, e⟩
              all_goals
                simp only [e]
                have e' := True.intro
                clear e
                generalize l.length = ll at *
              · have h1' : (fid != 128) = true := by simpa [bne] using h1
                go_wp2_with fail
                refine (known28 _).mono ?_
                rintro e w8 ⟨rfl, hb8⟩
                go_wp2_with fail
                go_ret
                exact ⟨rfl, bstep (B := w.heap.size) (w := w) hb8 HB7.out (Nat.le_refl _)⟩
              · go_wp2_with fail
                refine (known28 _).mono ?_
                rintro e w8 ⟨rfl, hb8⟩
                go_wp2_with fail
                go_ret
                exact ⟨rfl, bstep (B := w.heap.size) (w := w) hb8 HB7.out (Nat.le_refl _)⟩
              · have h1' : (0 == (0 : Int)) = true := by simp [h1]
                have H1 := Lib.hid h1
                clear h1
                go_wp2_with fail
                refine (known28 _).mono ?_
                rintro e w8 ⟨rfl, hb8⟩
                go_wp2_with fail
                go_ret
                exact ⟨rfl, bstep (B := w.heap.size) (w := w) hb8 HB7.out (Nat.le_refl _)⟩
              · go_wp2_with fail
                refine (known28 _).mono ?_
                rintro e w8 ⟨rfl, hb8⟩
                go_wp2_with fail
                go_ret
                exact ⟨rfl, bstep (B := w.heap.size) (w := w) hb8 HB7.out (Nat.le_refl _)⟩
              · exfalso; omega

section
variable {H : Type} {enc : TypeId × Value → H} {w : World} {base : Nat}
theorem kinds_frame (a0 : Int) (v1 v2 : Value) (w : World) {d1 d2 : DataW H} {p1 p2 : List MemPlace} (w0 : (Lit.int .u8 a0).wf = true)
    (ok1 : Value.okWide Try.prog w .any base 34 v1) (k1 : DataW.Trod enc Try.prog w 0 (fun _ => true) true 34 v1 d1 p1)
    (ok2 : Value.okWide Try.prog w .any base 23 v2) (k2 : DataW.Trod enc Try.prog w 0 (fun _ => true) true 23 v2 d2 p2) :
    Calls Try.prog 4 #[.int .u8 a0, v1, v2] w fun e w' => e = .returned (.bool true) ∧ Below w.heap.size w w' := by
  obtain ⟨s, rfl, hs⟩ := u8_nat w0
  obtain ⟨id, rem, fa, len, fc, zs, rfl, hr⟩ := open_frame ok1 k1
  obtain ⟨l, rfl, hB, hn, hm⟩ := hr.bytes
  obtain ⟨a, n, cap, rfl, hn2, hF⟩ := open_frames ok2 k2
  have hl : (l.length : Int) ≤ 9223372036854775807 := by unfold maxLen at hm; omega
  by_cases h1 : (s : Int) = 1
  · exact kinds_one s hs h1 id rem l fa fc a n cap w hl hB hn2 hF
  · by_cases h2 : 240 < (s : Int)
    · exact kinds_big s hs h2 id rem l fa fc a n cap w hl hB hn2 hF
    · exact kinds_in s hs (by omega) id rem l fa fc a n cap w hl hB hn2 hF
end
end Go.Proofs.Ytagkbacgdkbbeaa
